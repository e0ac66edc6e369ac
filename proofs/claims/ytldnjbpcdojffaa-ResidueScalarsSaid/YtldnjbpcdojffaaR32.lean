/- @@NUM 25 The walk of residue's ScalarAdd. Conditions: words are below 2^64. -/
import Derived.Test.YtldnjbpcdojffaaR28
import Derived.Test.YtldnjbpcdojffaaR29
namespace Go.Proofs.Ytldnjbpcdojffaa
set_option linter.unusedVariables false
set_option linter.unusedSimpArgs false
open Go Go.RowKit
open Pl (V V8 W4 T256 pL le bytesOf)

theorem Bytes_row (a0 a1 a2 a3 : Nat) (ha : W4 a0 a1 a2 a3) (w : World) : Calls Try.prog 18 #[.agg #[.int .u64 a0, .int .u64 a1, .int .u64 a2, .int .u64 a3]] w fun e w' => (∃ v, e = .returned v ∧ Bts w'.heap.size w' v (bytesOf 32 (V a0 a1 a2 a3))) ∧ Below w.heap.size w w' :=
  (Bytes_fact a0 a1 a2 a3 ha w).mono fun e w' ⟨⟨v, he, hown⟩, hb⟩ => ⟨⟨v, he, bts_owned (n := w.heap.size) (by rw [Pl.bytesOf_length]; exact hown)⟩, hb⟩
theorem bytes_get (n N : Nat) : ∀ j, j < (bytesOf n N).length → (bytesOf n N)[j]?.getD 0 < 256 := fun j hj => by
  rw [List.getElem?_eq_getElem hj, Option.getD_some]
  exact Pl.bytesOf_lt n N _ (List.getElem_mem _)
theorem Scalar_bytes (a0 a1 a2 a3 : Nat) (ha : W4 a0 a1 a2 a3) : ∃ r0 r1 r2 r3 : Nat, (W4 r0 r1 r2 r3 ∧ V r0 r1 r2 r3 = V a0 a1 a2 a3 % pL) ∧ ∀ (sv : Value) (w : World), Bts w.heap.size w sv (bytesOf 32 (V a0 a1 a2 a3)) →
    Calls Try.prog 37 #[sv] w fun e w' => e = .returned (.tuple #[.agg #[.int .u64 r0, .int .u64 r1, .int .u64 r2, .int .u64 r3], .int .i64 0]) ∧ Below w.heap.size w w' := by
  obtain ⟨r0, r1, r2, r3, ⟨hr, hrv⟩, FS⟩ := Scalar_fact (bytesOf 32 (V a0 a1 a2 a3)) (bytes_get _ _) (by rw [Pl.bytesOf_length]; omega) (by rw [Pl.bytesOf_length]; omega)
  rw [Pl.le_bytes32 (Pl.V_lt ha)] at hrv
  exact ⟨r0, r1, r2, r3, ⟨hr, hrv⟩, FS⟩

set_option maxHeartbeats 4000000 in
theorem ScalarAdd_fact (a0 a1 a2 a3 b0 b1 b2 b3 : Nat) (ha : W4 a0 a1 a2 a3) (hb : W4 b0 b1 b2 b3) : ∃ r0 r1 r2 r3 : Nat, (W4 r0 r1 r2 r3 ∧ V r0 r1 r2 r3 = (V a0 a1 a2 a3 + V b0 b1 b2 b3) % pL) ∧ ∀ w : World,
    Calls Try.prog 39 #[.agg #[.int .u64 a0, .int .u64 a1, .int .u64 a2, .int .u64 a3], .agg #[.int .u64 b0, .int .u64 b1, .int .u64 b2, .int .u64 b3]] w fun e w' => e = .returned (.agg #[.int .u64 r0, .int .u64 r1, .int .u64 r2, .int .u64 r3]) ∧ Below w.heap.size w w' := by
  obtain ⟨x0, x1, x2, x3, ⟨hx, hxv⟩, FX⟩ := Scalar_bytes a0 a1 a2 a3 ha
  obtain ⟨y0, y1, y2, y3, ⟨hy, hyv⟩, FY⟩ := Scalar_bytes b0 b1 b2 b3 hb
  have hxl : V x0 x1 x2 x3 < pL := by rw [hxv]; exact Nat.mod_lt _ Pl.pL_pos
  have hyl : V y0 y1 y2 y3 < pL := by rw [hyv]; exact Nat.mod_lt _ Pl.pL_pos
  have hp := Pl.pL_small
  obtain ⟨t0, t1, t2, t3, c, ⟨ht, hc, htv⟩, FP⟩ := plus_fact x0 x1 x2 x3 y0 y1 y2 y3 hx hy
  have hc0 : c = 0 := by
    rcases (show c = 0 ∨ c = 1 by omega) with rfl | rfl
    · rfl
    · omega
  subst hc0
  have htv2 : V t0 t1 t2 t3 = V x0 x1 x2 x3 + V y0 y1 y2 y3 := by omega
  have hmod : (V x0 x1 x2 x3 + V y0 y1 y2 y3) % pL = (V a0 a1 a2 a3 + V b0 b1 b2 b3) % pL := by rw [hxv, hyv, ← Nat.add_mod]
  obtain ⟨z, hz, FL⟩ := less_fact t0 t1 t2 t3 _ _ _ _ ht Pl.pL_W
  rw [Pl.pL_words, htv2] at hz
  have HA := Lib.hid (Bytes_row a0 a1 a2 a3 ha); have HB_ := Lib.hid (Bytes_row b0 b1 b2 b3 hb)
  have HX := Lib.hid FX; have HY := Lib.hid FY; have HP := Lib.hid FP; have HL := Lib.hid FL; have HO := Lib.hid Order_fact
  clear FX FY FP FL
  rcases Pl.sum_mod hxl hyl with ⟨hlt, hm⟩ | ⟨hge, hm⟩
  · obtain rfl : z = true := hz.2 hlt
    refine ⟨t0, t1, t2, t3, ⟨ht, by rw [htv2, ← hmod, hm]⟩, fun w => ?_⟩
    clear hz hm hlt hmod htv2 htv hc hp hxl hyl hxv hyv hx hy ht ha hb
    go_enter Try.func39, Try.ntmps39
    go_wp2_with (fail)
    go_at_call 18
    refine (HA.out _).mono ?_
    rintro e wa ⟨⟨v, rfl, hBt⟩, hb⟩
    have HBn : Hid (Below w.heap.size w wa) := Lib.hid ((fun (h : Below _ _ _) => below_call h h.size hb) (by first | go_grown))
    have hBa_ : wa.heap[w.heap.size]? = some (.cells #[.int .u64 a0, .int .u64 a1, .int .u64 a2, .int .u64 a3] 25 (0, 0)) := heap_keep' hb (by repeat (first | (with_reducible refine heap_new' ?_ _; simp; done) | (with_reducible refine keep4 ?_ (by omega) _ _ _ _) | (with_reducible refine heap_old ?_ _) | (with_reducible refine heap_drew ?_) | (with_reducible refine heap_set_ne ?_ (by simp <;> omega) _)))
    have hBb_ : wa.heap[w.heap.size + 1]? = some (.cells #[.int .u64 b0, .int .u64 b1, .int .u64 b2, .int .u64 b3] 25 (0, 0)) := heap_keep' hb (by repeat (first | (with_reducible refine heap_new' ?_ _; simp; done) | (with_reducible refine keep4 ?_ (by omega) _ _ _ _) | (with_reducible refine heap_old ?_ _) | (with_reducible refine heap_drew ?_) | (with_reducible refine heap_set_ne ?_ (by simp <;> omega) _)))
    have hBr_ : wa.heap[w.heap.size + 1 + 1]? = some (.cells #[.int .u64 0, .int .u64 0, .int .u64 0, .int .u64 0] 25 (0, 0)) := heap_keep' hb (by repeat (first | (with_reducible refine heap_new' ?_ _; simp; done) | (with_reducible refine keep4 ?_ (by omega) _ _ _ _) | (with_reducible refine heap_old ?_ _) | (with_reducible refine heap_drew ?_) | (with_reducible refine heap_set_ne ?_ (by simp <;> omega) _)))
    clear hb
    have HB := HBn; clear HBn
    have HBa := Lib.hid hBa_; have cBa := cells4 hBa_; have fBa := frozen_of hBa_; have zBa := lt_of_heap hBa_; clear hBa_
    have HBb := Lib.hid hBb_; have cBb := cells4 hBb_; have fBb := frozen_of hBb_; have zBb := lt_of_heap hBb_; clear hBb_
    have HBr := Lib.hid hBr_; have cBr := cells4 hBr_; have fBr := frozen_of hBr_; have zBr := lt_of_heap hBr_; clear hBr_
    go_wp2_with (fail)
    go_at_call 37
    refine (HX.out _ _ hBt).mono ?_
    rintro e wb ⟨rfl, hb⟩
    have HBn : Hid (Below w.heap.size w wb) := Lib.hid ((fun (h : Below _ _ _) => below_call h h.size hb) (by have hB0 := HB.out; have hS0 := hB0.size; first | (with_reducible exact hB0) | (with_reducible exact set4_below hB0 (by omega) _ _ _ _) | (with_reducible exact set4_below (set4_below hB0 (by omega) _ _ _ _) (by omega) _ _ _ _) | (with_reducible exact set4_below (set4_below (set4_below (set4_below hB0 (by omega) _ _ _ _) (by omega) _ _ _ _) (by omega) _ _ _ _) (by omega) _ _ _ _) | go_grown))
    have hBa_ : wb.heap[w.heap.size]? = some (.cells #[.int .u64 a0, .int .u64 a1, .int .u64 a2, .int .u64 a3] 25 (0, 0)) := heap_keep' hb (by repeat (first | (with_reducible exact HBa.out) | (with_reducible exact set4 HBa.out _ _ _ _) | (with_reducible apply set4) | (with_reducible refine heap_new' ?_ _; simp; done) | (with_reducible refine keep4 ?_ (by omega) _ _ _ _) | (with_reducible refine heap_old ?_ _) | (with_reducible refine heap_drew ?_) | (with_reducible refine heap_set_ne ?_ (by simp <;> omega) _)))
    have hBb_ : wb.heap[w.heap.size + 1]? = some (.cells #[.int .u64 b0, .int .u64 b1, .int .u64 b2, .int .u64 b3] 25 (0, 0)) := heap_keep' hb (by repeat (first | (with_reducible exact HBb.out) | (with_reducible exact set4 HBb.out _ _ _ _) | (with_reducible apply set4) | (with_reducible refine heap_new' ?_ _; simp; done) | (with_reducible refine keep4 ?_ (by omega) _ _ _ _) | (with_reducible refine heap_old ?_ _) | (with_reducible refine heap_drew ?_) | (with_reducible refine heap_set_ne ?_ (by simp <;> omega) _)))
    have hBr_ : wb.heap[w.heap.size + 1 + 1]? = some (.cells #[.int .u64 0, .int .u64 0, .int .u64 0, .int .u64 0] 25 (0, 0)) := heap_keep' hb (by repeat (first | (with_reducible exact HBr.out) | (with_reducible exact set4 HBr.out _ _ _ _) | (with_reducible apply set4) | (with_reducible refine heap_new' ?_ _; simp; done) | (with_reducible refine keep4 ?_ (by omega) _ _ _ _) | (with_reducible refine heap_old ?_ _) | (with_reducible refine heap_drew ?_) | (with_reducible refine heap_set_ne ?_ (by simp <;> omega) _)))
    clear hb HB HBa cBa fBa zBa HBb cBb fBb zBb HBr cBr fBr zBr
    have HB := HBn; clear HBn
    have HBa := Lib.hid hBa_; have cBa := cells4 hBa_; have fBa := frozen_of hBa_; have zBa := lt_of_heap hBa_; clear hBa_
    have HBb := Lib.hid hBb_; have cBb := cells4 hBb_; have fBb := frozen_of hBb_; have zBb := lt_of_heap hBb_; clear hBb_
    have HBr := Lib.hid hBr_; have cBr := cells4 hBr_; have fBr := frozen_of hBr_; have zBr := lt_of_heap hBr_; clear hBr_
    clear hBt
    go_wp2_with (fail)
    go_at_call 18
    refine (HB_.out _).mono ?_
    rintro e wc ⟨⟨v2, rfl, hBt⟩, hb⟩
    have HBn : Hid (Below w.heap.size w wc) := Lib.hid ((fun (h : Below _ _ _) => below_call h h.size hb) (by have hB0 := HB.out; have hS0 := hB0.size; first | (with_reducible exact hB0) | (with_reducible exact set4_below hB0 (by omega) _ _ _ _) | (with_reducible exact set4_below (set4_below hB0 (by omega) _ _ _ _) (by omega) _ _ _ _) | (with_reducible exact set4_below (set4_below (set4_below (set4_below hB0 (by omega) _ _ _ _) (by omega) _ _ _ _) (by omega) _ _ _ _) (by omega) _ _ _ _) | go_grown))
    have hBa_ : wc.heap[w.heap.size]? = some (.cells #[.int .u64 x0, .int .u64 x1, .int .u64 x2, .int .u64 x3] 25 (0, 0)) := heap_keep' hb (by repeat (first | (with_reducible exact HBa.out) | (with_reducible exact set4 HBa.out _ _ _ _) | (with_reducible apply set4) | (with_reducible refine heap_new' ?_ _; simp; done) | (with_reducible refine keep4 ?_ (by omega) _ _ _ _) | (with_reducible refine heap_old ?_ _) | (with_reducible refine heap_drew ?_) | (with_reducible refine heap_set_ne ?_ (by simp <;> omega) _)))
    have hBb_ : wc.heap[w.heap.size + 1]? = some (.cells #[.int .u64 b0, .int .u64 b1, .int .u64 b2, .int .u64 b3] 25 (0, 0)) := heap_keep' hb (by repeat (first | (with_reducible exact HBb.out) | (with_reducible exact set4 HBb.out _ _ _ _) | (with_reducible apply set4) | (with_reducible refine heap_new' ?_ _; simp; done) | (with_reducible refine keep4 ?_ (by omega) _ _ _ _) | (with_reducible refine heap_old ?_ _) | (with_reducible refine heap_drew ?_) | (with_reducible refine heap_set_ne ?_ (by simp <;> omega) _)))
    have hBr_ : wc.heap[w.heap.size + 1 + 1]? = some (.cells #[.int .u64 0, .int .u64 0, .int .u64 0, .int .u64 0] 25 (0, 0)) := heap_keep' hb (by repeat (first | (with_reducible exact HBr.out) | (with_reducible exact set4 HBr.out _ _ _ _) | (with_reducible apply set4) | (with_reducible refine heap_new' ?_ _; simp; done) | (with_reducible refine keep4 ?_ (by omega) _ _ _ _) | (with_reducible refine heap_old ?_ _) | (with_reducible refine heap_drew ?_) | (with_reducible refine heap_set_ne ?_ (by simp <;> omega) _)))
    clear hb HB HBa cBa fBa zBa HBb cBb fBb zBb HBr cBr fBr zBr
    have HB := HBn; clear HBn
    have HBa := Lib.hid hBa_; have cBa := cells4 hBa_; have fBa := frozen_of hBa_; have zBa := lt_of_heap hBa_; clear hBa_
    have HBb := Lib.hid hBb_; have cBb := cells4 hBb_; have fBb := frozen_of hBb_; have zBb := lt_of_heap hBb_; clear hBb_
    have HBr := Lib.hid hBr_; have cBr := cells4 hBr_; have fBr := frozen_of hBr_; have zBr := lt_of_heap hBr_; clear hBr_
    go_wp2_with (fail)
    go_at_call 37
    refine (HY.out _ _ hBt).mono ?_
    rintro e wd ⟨rfl, hb⟩
    have HBn : Hid (Below w.heap.size w wd) := Lib.hid ((fun (h : Below _ _ _) => below_call h h.size hb) (by have hB0 := HB.out; have hS0 := hB0.size; first | (with_reducible exact hB0) | (with_reducible exact set4_below hB0 (by omega) _ _ _ _) | (with_reducible exact set4_below (set4_below hB0 (by omega) _ _ _ _) (by omega) _ _ _ _) | (with_reducible exact set4_below (set4_below (set4_below (set4_below hB0 (by omega) _ _ _ _) (by omega) _ _ _ _) (by omega) _ _ _ _) (by omega) _ _ _ _) | go_grown))
    have hBa_ : wd.heap[w.heap.size]? = some (.cells #[.int .u64 x0, .int .u64 x1, .int .u64 x2, .int .u64 x3] 25 (0, 0)) := heap_keep' hb (by repeat (first | (with_reducible exact HBa.out) | (with_reducible exact set4 HBa.out _ _ _ _) | (with_reducible apply set4) | (with_reducible refine heap_new' ?_ _; simp; done) | (with_reducible refine keep4 ?_ (by omega) _ _ _ _) | (with_reducible refine heap_old ?_ _) | (with_reducible refine heap_drew ?_) | (with_reducible refine heap_set_ne ?_ (by simp <;> omega) _)))
    have hBb_ : wd.heap[w.heap.size + 1]? = some (.cells #[.int .u64 b0, .int .u64 b1, .int .u64 b2, .int .u64 b3] 25 (0, 0)) := heap_keep' hb (by repeat (first | (with_reducible exact HBb.out) | (with_reducible exact set4 HBb.out _ _ _ _) | (with_reducible apply set4) | (with_reducible refine heap_new' ?_ _; simp; done) | (with_reducible refine keep4 ?_ (by omega) _ _ _ _) | (with_reducible refine heap_old ?_ _) | (with_reducible refine heap_drew ?_) | (with_reducible refine heap_set_ne ?_ (by simp <;> omega) _)))
    have hBr_ : wd.heap[w.heap.size + 1 + 1]? = some (.cells #[.int .u64 0, .int .u64 0, .int .u64 0, .int .u64 0] 25 (0, 0)) := heap_keep' hb (by repeat (first | (with_reducible exact HBr.out) | (with_reducible exact set4 HBr.out _ _ _ _) | (with_reducible apply set4) | (with_reducible refine heap_new' ?_ _; simp; done) | (with_reducible refine keep4 ?_ (by omega) _ _ _ _) | (with_reducible refine heap_old ?_ _) | (with_reducible refine heap_drew ?_) | (with_reducible refine heap_set_ne ?_ (by simp <;> omega) _)))
    clear hb HB HBa cBa fBa zBa HBb cBb fBb zBb HBr cBr fBr zBr
    have HB := HBn; clear HBn
    have HBa := Lib.hid hBa_; have cBa := cells4 hBa_; have fBa := frozen_of hBa_; have zBa := lt_of_heap hBa_; clear hBa_
    have HBb := Lib.hid hBb_; have cBb := cells4 hBb_; have fBb := frozen_of hBb_; have zBb := lt_of_heap hBb_; clear hBb_
    have HBr := Lib.hid hBr_; have cBr := cells4 hBr_; have fBr := frozen_of hBr_; have zBr := lt_of_heap hBr_; clear hBr_
    clear hBt
    go_wp2_with (fail)
    go_at_call 53
    refine (HP.out _).mono ?_
    rintro e we ⟨rfl, hb⟩
    have HBn : Hid (Below w.heap.size w we) := Lib.hid ((fun (h : Below _ _ _) => below_call h h.size hb) (by have hB0 := HB.out; have hS0 := hB0.size; first | (with_reducible exact hB0) | (with_reducible exact set4_below hB0 (by omega) _ _ _ _) | (with_reducible exact set4_below (set4_below hB0 (by omega) _ _ _ _) (by omega) _ _ _ _) | (with_reducible exact set4_below (set4_below (set4_below (set4_below hB0 (by omega) _ _ _ _) (by omega) _ _ _ _) (by omega) _ _ _ _) (by omega) _ _ _ _) | go_grown))
    have hBa_ : we.heap[w.heap.size]? = some (.cells #[.int .u64 x0, .int .u64 x1, .int .u64 x2, .int .u64 x3] 25 (0, 0)) := heap_keep' hb (by repeat (first | (with_reducible exact HBa.out) | (with_reducible exact set4 HBa.out _ _ _ _) | (with_reducible apply set4) | (with_reducible refine heap_new' ?_ _; simp; done) | (with_reducible refine keep4 ?_ (by omega) _ _ _ _) | (with_reducible refine heap_old ?_ _) | (with_reducible refine heap_drew ?_) | (with_reducible refine heap_set_ne ?_ (by simp <;> omega) _)))
    have hBb_ : we.heap[w.heap.size + 1]? = some (.cells #[.int .u64 y0, .int .u64 y1, .int .u64 y2, .int .u64 y3] 25 (0, 0)) := heap_keep' hb (by repeat (first | (with_reducible exact HBb.out) | (with_reducible exact set4 HBb.out _ _ _ _) | (with_reducible apply set4) | (with_reducible refine heap_new' ?_ _; simp; done) | (with_reducible refine keep4 ?_ (by omega) _ _ _ _) | (with_reducible refine heap_old ?_ _) | (with_reducible refine heap_drew ?_) | (with_reducible refine heap_set_ne ?_ (by simp <;> omega) _)))
    have hBr_ : we.heap[w.heap.size + 1 + 1]? = some (.cells #[.int .u64 0, .int .u64 0, .int .u64 0, .int .u64 0] 25 (0, 0)) := heap_keep' hb (by repeat (first | (with_reducible exact HBr.out) | (with_reducible exact set4 HBr.out _ _ _ _) | (with_reducible apply set4) | (with_reducible refine heap_new' ?_ _; simp; done) | (with_reducible refine keep4 ?_ (by omega) _ _ _ _) | (with_reducible refine heap_old ?_ _) | (with_reducible refine heap_drew ?_) | (with_reducible refine heap_set_ne ?_ (by simp <;> omega) _)))
    clear hb HB HBa cBa fBa zBa HBb cBb fBb zBb HBr cBr fBr zBr
    have HB := HBn; clear HBn
    have HBa := Lib.hid hBa_; have cBa := cells4 hBa_; have fBa := frozen_of hBa_; have zBa := lt_of_heap hBa_; clear hBa_
    have HBb := Lib.hid hBb_; have cBb := cells4 hBb_; have fBb := frozen_of hBb_; have zBb := lt_of_heap hBb_; clear hBb_
    have HBr := Lib.hid hBr_; have cBr := cells4 hBr_; have fBr := frozen_of hBr_; have zBr := lt_of_heap hBr_; clear hBr_
    have kz1 := zBr
    go_wp2
    refine Rg.region_ (n := 36) [0, 0, 3, 7] [1, 1, 1, 0] [25, 26, 27, 28] [[(5, none)], [], [(25, some 0), (26, some 1)], [(27, some 2)]] 4 (by kernel_rfl) (by kernel_rfl) (by rfl) ?_
    intro W hW
    have hBa_ : W.heap[w.heap.size]? = some (.cells #[.int .u64 x0, .int .u64 x1, .int .u64 x2, .int .u64 x3] 25 (0, 0)) := by rw [hW]; exact (by repeat (first | (with_reducible exact HBa.out) | (with_reducible exact set4 HBa.out _ _ _ _) | (with_reducible apply set4) | (with_reducible refine heap_new' ?_ _; simp; done) | (with_reducible refine keep4 ?_ (by omega) _ _ _ _) | (with_reducible refine heap_old ?_ _) | (with_reducible refine heap_drew ?_) | (with_reducible refine heap_set_ne ?_ (by simp <;> omega) _)))
    have hBb_ : W.heap[w.heap.size + 1]? = some (.cells #[.int .u64 y0, .int .u64 y1, .int .u64 y2, .int .u64 y3] 25 (0, 0)) := by rw [hW]; exact (by repeat (first | (with_reducible exact HBb.out) | (with_reducible exact set4 HBb.out _ _ _ _) | (with_reducible apply set4) | (with_reducible refine heap_new' ?_ _; simp; done) | (with_reducible refine keep4 ?_ (by omega) _ _ _ _) | (with_reducible refine heap_old ?_ _) | (with_reducible refine heap_drew ?_) | (with_reducible refine heap_set_ne ?_ (by simp <;> omega) _)))
    have hBr_ : W.heap[w.heap.size + 1 + 1]? = some (.cells #[.int .u64 0, .int .u64 0, .int .u64 0, .int .u64 0] 25 (0, 0)) := by rw [hW]; exact (by repeat (first | (with_reducible exact HBr.out) | (with_reducible exact set4 HBr.out _ _ _ _) | (with_reducible apply set4) | (with_reducible refine heap_new' ?_ _; simp; done) | (with_reducible refine keep4 ?_ (by omega) _ _ _ _) | (with_reducible refine heap_old ?_ _) | (with_reducible refine heap_drew ?_) | (with_reducible refine heap_set_ne ?_ (by simp <;> omega) _)))
    have hBo_ : W.heap[we.heap.size]? = some (.cells #[.int .u64 t0, .int .u64 t1, .int .u64 t2, .int .u64 t3] 25 (0, 0)) := by rw [hW]; exact (by repeat (first | (with_reducible refine heap_new' ?_ _; simp; done) | (with_reducible refine keep4 ?_ (by omega) _ _ _ _) | (with_reducible refine heap_old ?_ _) | (with_reducible refine heap_drew ?_) | (with_reducible refine heap_set_ne ?_ (by simp <;> omega) _)))
    have HB0 : Below w.heap.size w W := by rw [hW]; have hB0 := HB.out; have hS0 := hB0.size; first | exact hB0.drew | exact (set4_below hB0 (by omega) _ _ _ _).drew | go_grown
    change Rg.Chain' _ _ _ _ _ [(0, 1, 25, [(5, none)]), (1, 1, 26, []), (2, 1, 27, [(25, some 0), (26, some 1)]), (3, 0, 28, [(27, some 2)])] [(0, 1, 25, [(5, none)]), (1, 1, 26, []), (2, 1, 27, [(25, some 0), (26, some 1)]), (3, 0, 28, [(27, some 2)])] _
    apply Rg.ch_def (by rfl) (fun a w1 _ => Rg.wanted_none (by rfl))
    · rintro a w1 hb ⟨e5, -⟩
      conv at e5 => rhs; whnf
      have n5 := e5
      simp only [Act.eval, Array.getD_eq_getD_getElem?] at n5
      apply Rg.gives_value
      · conv => lhs; simp [go_sem, n5, cells4 (heap_keep' hb hBa_), cells4 (heap_keep' hb hBb_), cells4 (heap_keep' hb hBr_), cells4 (heap_keep' hb hBo_)]
      · exact ⟨rfl, Below.refl _ _⟩
    apply Rg.ch_def (by rfl) (fun a w1 _ => Rg.wanted_none (by rfl))
    · rintro a w1 hb -
      apply Rg.gives_enter
      · exact run_call Try.func32 (by kernel_rfl) rfl #[] (by rfl) (by simp)
      · refine (HO.out _).mono ?_
        rintro e w2 ⟨rfl, hb2⟩
        exact ⟨_, rfl, rfl, hb2⟩
    apply Rg.ch_def (by rfl) (fun a w1 _ => Rg.wanted_none (by rfl))
    · rintro a w1 hb ⟨e25, e26, -⟩
      replace e25 : a.eval (.tmp 25) = _ := e25
      replace e26 : a.eval (.tmp 26) = _ := e26
      apply Rg.gives_enter
      · apply run_call Try.func21 (by kernel_rfl) rfl _ (by rfl)
        conv => lhs; simp only [List.map_toArray, List.map_cons, List.map_nil, eval_const_, eval_global_, e25, e26]
      · refine (HL.out _).mono ?_
        rintro e w2 ⟨rfl, hb2⟩
        exact ⟨_, rfl, rfl, hb2⟩
    apply Rg.ch_pure (by rfl)
    · rintro a w1 ⟨e27, -⟩
      replace e27 : a.eval (.tmp 27) = _ := e27
      have n27 := e27
      simp only [Act.eval, Array.getD_eq_getD_getElem?] at n27
      apply Rg.yields_run (Rg.wanted_none (by rfl))
      intro w2
      conv => lhs; simp [go_sem, n27]
    intro w1 hb1
    rintro _ rfl _ rfl _ rfl _ rfl
    change Go.wpList _ _ _ _ _ _
    simp only [List.drop_succ_cons, List.drop_zero, List.drop_nil, Act.put, List.setIfInBounds_toArray, List.set_cons_succ, List.set_cons_zero]
    change Go.NoPanic _ _ _ _
    refine NoPanic.normal ?_
    have HBn : Hid (Below w.heap.size w w1) := Lib.hid (below_call HB0 HB0.size hb1)
    have hBa__ := heap_keep' hb1 hBa_
    have hBb__ := heap_keep' hb1 hBb_
    have hBr__ := heap_keep' hb1 hBr_
    have hBo__ := heap_keep' hb1 hBo_
    clear hb1 HB0 HB hBa_ HBa cBa fBa zBa hBb_ HBb cBb fBb zBb hBr_ HBr cBr fBr zBr hBo_
    clear hW
    obtain ⟨wf, rfl⟩ : ∃ x : World, x = w1 := ⟨_, rfl⟩
    have HB := HBn; clear HBn
    have HBa := Lib.hid hBa__; have cBa := cells4 hBa__; have fBa := frozen_of hBa__; have zBa := lt_of_heap hBa__; clear hBa__
    have HBb := Lib.hid hBb__; have cBb := cells4 hBb__; have fBb := frozen_of hBb__; have zBb := lt_of_heap hBb__; clear hBb__
    have HBr := Lib.hid hBr__; have cBr := cells4 hBr__; have fBr := frozen_of hBr__; have zBr := lt_of_heap hBr__; clear hBr__
    have HBo := Lib.hid hBo__; have cBo := cells4 hBo__; have fBo := frozen_of hBo__; have zBo := lt_of_heap hBo__; clear hBo__
    go_wp2
    have hK := set4 HBr.out (.int .u64 t0) (.int .u64 t1) (.int .u64 t2) (.int .u64 t3)
    have hL := set4_below (b := w.heap.size + 1 + 1) HB.out (by omega) (.int .u64 t0) (.int .u64 t1) (.int .u64 t2) (.int .u64 t3)
    have hQ := cells4 hK
    exact bodyPost_ret (v := .agg #[.int .u64 t0, .int .u64 t1, .int .u64 t2, .int .u64 t3]) (by simp [results, Try.results39, go_sem, hQ]) rfl ⟨rfl, hL⟩
  · obtain rfl : z = false := by
      cases z
      · rfl
      · exact absurd (hz.1 rfl) (by omega)
    obtain ⟨d0, d1, d2, d3, c2, ⟨hd, hc2, hdv⟩, FM⟩ := minus_fact t0 t1 t2 t3 _ _ _ _ ht Pl.pL_W
    rw [Pl.pL_words, htv2] at hdv
    have hd2 := Pl.V_lt hd
    have hc0 : c2 = 0 := by
      rcases (show c2 = 0 ∨ c2 = 1 by omega) with rfl | rfl
      · rfl
      · omega
    subst hc0
    have HM := Lib.hid FM
    refine ⟨d0, d1, d2, d3, ⟨hd, by rw [← hmod, hm]; omega⟩, fun w => ?_⟩
    clear FM hd2 hdv hc2 hd hz hm hge hmod htv2 htv hc hp hxl hyl hxv hyv hx hy ht ha hb
    go_enter Try.func39, Try.ntmps39
    go_wp2_with (fail)
    go_at_call 18
    refine (HA.out _).mono ?_
    rintro e wa ⟨⟨v, rfl, hBt⟩, hb⟩
    have HBn : Hid (Below w.heap.size w wa) := Lib.hid ((fun (h : Below _ _ _) => below_call h h.size hb) (by first | go_grown))
    have hBa_ : wa.heap[w.heap.size]? = some (.cells #[.int .u64 a0, .int .u64 a1, .int .u64 a2, .int .u64 a3] 25 (0, 0)) := heap_keep' hb (by repeat (first | (with_reducible refine heap_new' ?_ _; simp; done) | (with_reducible refine keep4 ?_ (by omega) _ _ _ _) | (with_reducible refine heap_old ?_ _) | (with_reducible refine heap_drew ?_) | (with_reducible refine heap_set_ne ?_ (by simp <;> omega) _)))
    have hBb_ : wa.heap[w.heap.size + 1]? = some (.cells #[.int .u64 b0, .int .u64 b1, .int .u64 b2, .int .u64 b3] 25 (0, 0)) := heap_keep' hb (by repeat (first | (with_reducible refine heap_new' ?_ _; simp; done) | (with_reducible refine keep4 ?_ (by omega) _ _ _ _) | (with_reducible refine heap_old ?_ _) | (with_reducible refine heap_drew ?_) | (with_reducible refine heap_set_ne ?_ (by simp <;> omega) _)))
    have hBr_ : wa.heap[w.heap.size + 1 + 1]? = some (.cells #[.int .u64 0, .int .u64 0, .int .u64 0, .int .u64 0] 25 (0, 0)) := heap_keep' hb (by repeat (first | (with_reducible refine heap_new' ?_ _; simp; done) | (with_reducible refine keep4 ?_ (by omega) _ _ _ _) | (with_reducible refine heap_old ?_ _) | (with_reducible refine heap_drew ?_) | (with_reducible refine heap_set_ne ?_ (by simp <;> omega) _)))
    clear hb
    have HB := HBn; clear HBn
    have HBa := Lib.hid hBa_; have cBa := cells4 hBa_; have fBa := frozen_of hBa_; have zBa := lt_of_heap hBa_; clear hBa_
    have HBb := Lib.hid hBb_; have cBb := cells4 hBb_; have fBb := frozen_of hBb_; have zBb := lt_of_heap hBb_; clear hBb_
    have HBr := Lib.hid hBr_; have cBr := cells4 hBr_; have fBr := frozen_of hBr_; have zBr := lt_of_heap hBr_; clear hBr_
    go_wp2_with (fail)
    go_at_call 37
    refine (HX.out _ _ hBt).mono ?_
    rintro e wb ⟨rfl, hb⟩
    have HBn : Hid (Below w.heap.size w wb) := Lib.hid ((fun (h : Below _ _ _) => below_call h h.size hb) (by have hB0 := HB.out; have hS0 := hB0.size; first | (with_reducible exact hB0) | (with_reducible exact set4_below hB0 (by omega) _ _ _ _) | (with_reducible exact set4_below (set4_below hB0 (by omega) _ _ _ _) (by omega) _ _ _ _) | (with_reducible exact set4_below (set4_below (set4_below (set4_below hB0 (by omega) _ _ _ _) (by omega) _ _ _ _) (by omega) _ _ _ _) (by omega) _ _ _ _) | go_grown))
    have hBa_ : wb.heap[w.heap.size]? = some (.cells #[.int .u64 a0, .int .u64 a1, .int .u64 a2, .int .u64 a3] 25 (0, 0)) := heap_keep' hb (by repeat (first | (with_reducible exact HBa.out) | (with_reducible exact set4 HBa.out _ _ _ _) | (with_reducible apply set4) | (with_reducible refine heap_new' ?_ _; simp; done) | (with_reducible refine keep4 ?_ (by omega) _ _ _ _) | (with_reducible refine heap_old ?_ _) | (with_reducible refine heap_drew ?_) | (with_reducible refine heap_set_ne ?_ (by simp <;> omega) _)))
    have hBb_ : wb.heap[w.heap.size + 1]? = some (.cells #[.int .u64 b0, .int .u64 b1, .int .u64 b2, .int .u64 b3] 25 (0, 0)) := heap_keep' hb (by repeat (first | (with_reducible exact HBb.out) | (with_reducible exact set4 HBb.out _ _ _ _) | (with_reducible apply set4) | (with_reducible refine heap_new' ?_ _; simp; done) | (with_reducible refine keep4 ?_ (by omega) _ _ _ _) | (with_reducible refine heap_old ?_ _) | (with_reducible refine heap_drew ?_) | (with_reducible refine heap_set_ne ?_ (by simp <;> omega) _)))
    have hBr_ : wb.heap[w.heap.size + 1 + 1]? = some (.cells #[.int .u64 0, .int .u64 0, .int .u64 0, .int .u64 0] 25 (0, 0)) := heap_keep' hb (by repeat (first | (with_reducible exact HBr.out) | (with_reducible exact set4 HBr.out _ _ _ _) | (with_reducible apply set4) | (with_reducible refine heap_new' ?_ _; simp; done) | (with_reducible refine keep4 ?_ (by omega) _ _ _ _) | (with_reducible refine heap_old ?_ _) | (with_reducible refine heap_drew ?_) | (with_reducible refine heap_set_ne ?_ (by simp <;> omega) _)))
    clear hb HB HBa cBa fBa zBa HBb cBb fBb zBb HBr cBr fBr zBr
    have HB := HBn; clear HBn
    have HBa := Lib.hid hBa_; have cBa := cells4 hBa_; have fBa := frozen_of hBa_; have zBa := lt_of_heap hBa_; clear hBa_
    have HBb := Lib.hid hBb_; have cBb := cells4 hBb_; have fBb := frozen_of hBb_; have zBb := lt_of_heap hBb_; clear hBb_
    have HBr := Lib.hid hBr_; have cBr := cells4 hBr_; have fBr := frozen_of hBr_; have zBr := lt_of_heap hBr_; clear hBr_
    clear hBt
    go_wp2_with (fail)
    go_at_call 18
    refine (HB_.out _).mono ?_
    rintro e wc ⟨⟨v2, rfl, hBt⟩, hb⟩
    have HBn : Hid (Below w.heap.size w wc) := Lib.hid ((fun (h : Below _ _ _) => below_call h h.size hb) (by have hB0 := HB.out; have hS0 := hB0.size; first | (with_reducible exact hB0) | (with_reducible exact set4_below hB0 (by omega) _ _ _ _) | (with_reducible exact set4_below (set4_below hB0 (by omega) _ _ _ _) (by omega) _ _ _ _) | (with_reducible exact set4_below (set4_below (set4_below (set4_below hB0 (by omega) _ _ _ _) (by omega) _ _ _ _) (by omega) _ _ _ _) (by omega) _ _ _ _) | go_grown))
    have hBa_ : wc.heap[w.heap.size]? = some (.cells #[.int .u64 x0, .int .u64 x1, .int .u64 x2, .int .u64 x3] 25 (0, 0)) := heap_keep' hb (by repeat (first | (with_reducible exact HBa.out) | (with_reducible exact set4 HBa.out _ _ _ _) | (with_reducible apply set4) | (with_reducible refine heap_new' ?_ _; simp; done) | (with_reducible refine keep4 ?_ (by omega) _ _ _ _) | (with_reducible refine heap_old ?_ _) | (with_reducible refine heap_drew ?_) | (with_reducible refine heap_set_ne ?_ (by simp <;> omega) _)))
    have hBb_ : wc.heap[w.heap.size + 1]? = some (.cells #[.int .u64 b0, .int .u64 b1, .int .u64 b2, .int .u64 b3] 25 (0, 0)) := heap_keep' hb (by repeat (first | (with_reducible exact HBb.out) | (with_reducible exact set4 HBb.out _ _ _ _) | (with_reducible apply set4) | (with_reducible refine heap_new' ?_ _; simp; done) | (with_reducible refine keep4 ?_ (by omega) _ _ _ _) | (with_reducible refine heap_old ?_ _) | (with_reducible refine heap_drew ?_) | (with_reducible refine heap_set_ne ?_ (by simp <;> omega) _)))
    have hBr_ : wc.heap[w.heap.size + 1 + 1]? = some (.cells #[.int .u64 0, .int .u64 0, .int .u64 0, .int .u64 0] 25 (0, 0)) := heap_keep' hb (by repeat (first | (with_reducible exact HBr.out) | (with_reducible exact set4 HBr.out _ _ _ _) | (with_reducible apply set4) | (with_reducible refine heap_new' ?_ _; simp; done) | (with_reducible refine keep4 ?_ (by omega) _ _ _ _) | (with_reducible refine heap_old ?_ _) | (with_reducible refine heap_drew ?_) | (with_reducible refine heap_set_ne ?_ (by simp <;> omega) _)))
    clear hb HB HBa cBa fBa zBa HBb cBb fBb zBb HBr cBr fBr zBr
    have HB := HBn; clear HBn
    have HBa := Lib.hid hBa_; have cBa := cells4 hBa_; have fBa := frozen_of hBa_; have zBa := lt_of_heap hBa_; clear hBa_
    have HBb := Lib.hid hBb_; have cBb := cells4 hBb_; have fBb := frozen_of hBb_; have zBb := lt_of_heap hBb_; clear hBb_
    have HBr := Lib.hid hBr_; have cBr := cells4 hBr_; have fBr := frozen_of hBr_; have zBr := lt_of_heap hBr_; clear hBr_
    go_wp2_with (fail)
    go_at_call 37
    refine (HY.out _ _ hBt).mono ?_
    rintro e wd ⟨rfl, hb⟩
    have HBn : Hid (Below w.heap.size w wd) := Lib.hid ((fun (h : Below _ _ _) => below_call h h.size hb) (by have hB0 := HB.out; have hS0 := hB0.size; first | (with_reducible exact hB0) | (with_reducible exact set4_below hB0 (by omega) _ _ _ _) | (with_reducible exact set4_below (set4_below hB0 (by omega) _ _ _ _) (by omega) _ _ _ _) | (with_reducible exact set4_below (set4_below (set4_below (set4_below hB0 (by omega) _ _ _ _) (by omega) _ _ _ _) (by omega) _ _ _ _) (by omega) _ _ _ _) | go_grown))
    have hBa_ : wd.heap[w.heap.size]? = some (.cells #[.int .u64 x0, .int .u64 x1, .int .u64 x2, .int .u64 x3] 25 (0, 0)) := heap_keep' hb (by repeat (first | (with_reducible exact HBa.out) | (with_reducible exact set4 HBa.out _ _ _ _) | (with_reducible apply set4) | (with_reducible refine heap_new' ?_ _; simp; done) | (with_reducible refine keep4 ?_ (by omega) _ _ _ _) | (with_reducible refine heap_old ?_ _) | (with_reducible refine heap_drew ?_) | (with_reducible refine heap_set_ne ?_ (by simp <;> omega) _)))
    have hBb_ : wd.heap[w.heap.size + 1]? = some (.cells #[.int .u64 b0, .int .u64 b1, .int .u64 b2, .int .u64 b3] 25 (0, 0)) := heap_keep' hb (by repeat (first | (with_reducible exact HBb.out) | (with_reducible exact set4 HBb.out _ _ _ _) | (with_reducible apply set4) | (with_reducible refine heap_new' ?_ _; simp; done) | (with_reducible refine keep4 ?_ (by omega) _ _ _ _) | (with_reducible refine heap_old ?_ _) | (with_reducible refine heap_drew ?_) | (with_reducible refine heap_set_ne ?_ (by simp <;> omega) _)))
    have hBr_ : wd.heap[w.heap.size + 1 + 1]? = some (.cells #[.int .u64 0, .int .u64 0, .int .u64 0, .int .u64 0] 25 (0, 0)) := heap_keep' hb (by repeat (first | (with_reducible exact HBr.out) | (with_reducible exact set4 HBr.out _ _ _ _) | (with_reducible apply set4) | (with_reducible refine heap_new' ?_ _; simp; done) | (with_reducible refine keep4 ?_ (by omega) _ _ _ _) | (with_reducible refine heap_old ?_ _) | (with_reducible refine heap_drew ?_) | (with_reducible refine heap_set_ne ?_ (by simp <;> omega) _)))
    clear hb HB HBa cBa fBa zBa HBb cBb fBb zBb HBr cBr fBr zBr
    have HB := HBn; clear HBn
    have HBa := Lib.hid hBa_; have cBa := cells4 hBa_; have fBa := frozen_of hBa_; have zBa := lt_of_heap hBa_; clear hBa_
    have HBb := Lib.hid hBb_; have cBb := cells4 hBb_; have fBb := frozen_of hBb_; have zBb := lt_of_heap hBb_; clear hBb_
    have HBr := Lib.hid hBr_; have cBr := cells4 hBr_; have fBr := frozen_of hBr_; have zBr := lt_of_heap hBr_; clear hBr_
    clear hBt
    go_wp2_with (fail)
    go_at_call 53
    refine (HP.out _).mono ?_
    rintro e we ⟨rfl, hb⟩
    have HBn : Hid (Below w.heap.size w we) := Lib.hid ((fun (h : Below _ _ _) => below_call h h.size hb) (by have hB0 := HB.out; have hS0 := hB0.size; first | (with_reducible exact hB0) | (with_reducible exact set4_below hB0 (by omega) _ _ _ _) | (with_reducible exact set4_below (set4_below hB0 (by omega) _ _ _ _) (by omega) _ _ _ _) | (with_reducible exact set4_below (set4_below (set4_below (set4_below hB0 (by omega) _ _ _ _) (by omega) _ _ _ _) (by omega) _ _ _ _) (by omega) _ _ _ _) | go_grown))
    have hBa_ : we.heap[w.heap.size]? = some (.cells #[.int .u64 x0, .int .u64 x1, .int .u64 x2, .int .u64 x3] 25 (0, 0)) := heap_keep' hb (by repeat (first | (with_reducible exact HBa.out) | (with_reducible exact set4 HBa.out _ _ _ _) | (with_reducible apply set4) | (with_reducible refine heap_new' ?_ _; simp; done) | (with_reducible refine keep4 ?_ (by omega) _ _ _ _) | (with_reducible refine heap_old ?_ _) | (with_reducible refine heap_drew ?_) | (with_reducible refine heap_set_ne ?_ (by simp <;> omega) _)))
    have hBb_ : we.heap[w.heap.size + 1]? = some (.cells #[.int .u64 y0, .int .u64 y1, .int .u64 y2, .int .u64 y3] 25 (0, 0)) := heap_keep' hb (by repeat (first | (with_reducible exact HBb.out) | (with_reducible exact set4 HBb.out _ _ _ _) | (with_reducible apply set4) | (with_reducible refine heap_new' ?_ _; simp; done) | (with_reducible refine keep4 ?_ (by omega) _ _ _ _) | (with_reducible refine heap_old ?_ _) | (with_reducible refine heap_drew ?_) | (with_reducible refine heap_set_ne ?_ (by simp <;> omega) _)))
    have hBr_ : we.heap[w.heap.size + 1 + 1]? = some (.cells #[.int .u64 0, .int .u64 0, .int .u64 0, .int .u64 0] 25 (0, 0)) := heap_keep' hb (by repeat (first | (with_reducible exact HBr.out) | (with_reducible exact set4 HBr.out _ _ _ _) | (with_reducible apply set4) | (with_reducible refine heap_new' ?_ _; simp; done) | (with_reducible refine keep4 ?_ (by omega) _ _ _ _) | (with_reducible refine heap_old ?_ _) | (with_reducible refine heap_drew ?_) | (with_reducible refine heap_set_ne ?_ (by simp <;> omega) _)))
    clear hb HB HBa cBa fBa zBa HBb cBb fBb zBb HBr cBr fBr zBr
    have HB := HBn; clear HBn
    have HBa := Lib.hid hBa_; have cBa := cells4 hBa_; have fBa := frozen_of hBa_; have zBa := lt_of_heap hBa_; clear hBa_
    have HBb := Lib.hid hBb_; have cBb := cells4 hBb_; have fBb := frozen_of hBb_; have zBb := lt_of_heap hBb_; clear hBb_
    have HBr := Lib.hid hBr_; have cBr := cells4 hBr_; have fBr := frozen_of hBr_; have zBr := lt_of_heap hBr_; clear hBr_
    have kz1 := zBr
    go_wp2
    refine Rg.region_ (n := 36) [0, 0, 3, 7] [1, 1, 1, 0] [25, 26, 27, 28] [[(5, none)], [], [(25, some 0), (26, some 1)], [(27, some 2)]] 4 (by kernel_rfl) (by kernel_rfl) (by rfl) ?_
    intro W hW
    have hBa_ : W.heap[w.heap.size]? = some (.cells #[.int .u64 x0, .int .u64 x1, .int .u64 x2, .int .u64 x3] 25 (0, 0)) := by rw [hW]; exact (by repeat (first | (with_reducible exact HBa.out) | (with_reducible exact set4 HBa.out _ _ _ _) | (with_reducible apply set4) | (with_reducible refine heap_new' ?_ _; simp; done) | (with_reducible refine keep4 ?_ (by omega) _ _ _ _) | (with_reducible refine heap_old ?_ _) | (with_reducible refine heap_drew ?_) | (with_reducible refine heap_set_ne ?_ (by simp <;> omega) _)))
    have hBb_ : W.heap[w.heap.size + 1]? = some (.cells #[.int .u64 y0, .int .u64 y1, .int .u64 y2, .int .u64 y3] 25 (0, 0)) := by rw [hW]; exact (by repeat (first | (with_reducible exact HBb.out) | (with_reducible exact set4 HBb.out _ _ _ _) | (with_reducible apply set4) | (with_reducible refine heap_new' ?_ _; simp; done) | (with_reducible refine keep4 ?_ (by omega) _ _ _ _) | (with_reducible refine heap_old ?_ _) | (with_reducible refine heap_drew ?_) | (with_reducible refine heap_set_ne ?_ (by simp <;> omega) _)))
    have hBr_ : W.heap[w.heap.size + 1 + 1]? = some (.cells #[.int .u64 0, .int .u64 0, .int .u64 0, .int .u64 0] 25 (0, 0)) := by rw [hW]; exact (by repeat (first | (with_reducible exact HBr.out) | (with_reducible exact set4 HBr.out _ _ _ _) | (with_reducible apply set4) | (with_reducible refine heap_new' ?_ _; simp; done) | (with_reducible refine keep4 ?_ (by omega) _ _ _ _) | (with_reducible refine heap_old ?_ _) | (with_reducible refine heap_drew ?_) | (with_reducible refine heap_set_ne ?_ (by simp <;> omega) _)))
    have hBo_ : W.heap[we.heap.size]? = some (.cells #[.int .u64 t0, .int .u64 t1, .int .u64 t2, .int .u64 t3] 25 (0, 0)) := by rw [hW]; exact (by repeat (first | (with_reducible refine heap_new' ?_ _; simp; done) | (with_reducible refine keep4 ?_ (by omega) _ _ _ _) | (with_reducible refine heap_old ?_ _) | (with_reducible refine heap_drew ?_) | (with_reducible refine heap_set_ne ?_ (by simp <;> omega) _)))
    have HB0 : Below w.heap.size w W := by rw [hW]; have hB0 := HB.out; have hS0 := hB0.size; first | exact hB0.drew | exact (set4_below hB0 (by omega) _ _ _ _).drew | go_grown
    change Rg.Chain' _ _ _ _ _ [(0, 1, 25, [(5, none)]), (1, 1, 26, []), (2, 1, 27, [(25, some 0), (26, some 1)]), (3, 0, 28, [(27, some 2)])] [(0, 1, 25, [(5, none)]), (1, 1, 26, []), (2, 1, 27, [(25, some 0), (26, some 1)]), (3, 0, 28, [(27, some 2)])] _
    apply Rg.ch_def (by rfl) (fun a w1 _ => Rg.wanted_none (by rfl))
    · rintro a w1 hb ⟨e5, -⟩
      conv at e5 => rhs; whnf
      have n5 := e5
      simp only [Act.eval, Array.getD_eq_getD_getElem?] at n5
      apply Rg.gives_value
      · conv => lhs; simp [go_sem, n5, cells4 (heap_keep' hb hBa_), cells4 (heap_keep' hb hBb_), cells4 (heap_keep' hb hBr_), cells4 (heap_keep' hb hBo_)]
      · exact ⟨rfl, Below.refl _ _⟩
    apply Rg.ch_def (by rfl) (fun a w1 _ => Rg.wanted_none (by rfl))
    · rintro a w1 hb -
      apply Rg.gives_enter
      · exact run_call Try.func32 (by kernel_rfl) rfl #[] (by rfl) (by simp)
      · refine (HO.out _).mono ?_
        rintro e w2 ⟨rfl, hb2⟩
        exact ⟨_, rfl, rfl, hb2⟩
    apply Rg.ch_def (by rfl) (fun a w1 _ => Rg.wanted_none (by rfl))
    · rintro a w1 hb ⟨e25, e26, -⟩
      replace e25 : a.eval (.tmp 25) = _ := e25
      replace e26 : a.eval (.tmp 26) = _ := e26
      apply Rg.gives_enter
      · apply run_call Try.func21 (by kernel_rfl) rfl _ (by rfl)
        conv => lhs; simp only [List.map_toArray, List.map_cons, List.map_nil, eval_const_, eval_global_, e25, e26]
      · refine (HL.out _).mono ?_
        rintro e w2 ⟨rfl, hb2⟩
        exact ⟨_, rfl, rfl, hb2⟩
    apply Rg.ch_pure (by rfl)
    · rintro a w1 ⟨e27, -⟩
      replace e27 : a.eval (.tmp 27) = _ := e27
      have n27 := e27
      simp only [Act.eval, Array.getD_eq_getD_getElem?] at n27
      apply Rg.yields_run (Rg.wanted_none (by rfl))
      intro w2
      conv => lhs; simp [go_sem, n27]
    intro w1 hb1
    rintro _ rfl _ rfl _ rfl _ rfl
    change Go.wpList _ _ _ _ _ _
    simp only [List.drop_succ_cons, List.drop_zero, List.drop_nil, Act.put, List.setIfInBounds_toArray, List.set_cons_succ, List.set_cons_zero]
    change Go.NoPanic _ _ _ _
    refine NoPanic.normal ?_
    have HBn : Hid (Below w.heap.size w w1) := Lib.hid (below_call HB0 HB0.size hb1)
    have hBa__ := heap_keep' hb1 hBa_
    have hBb__ := heap_keep' hb1 hBb_
    have hBr__ := heap_keep' hb1 hBr_
    have hBo__ := heap_keep' hb1 hBo_
    clear hb1 HB0 HB hBa_ HBa cBa fBa zBa hBb_ HBb cBb fBb zBb hBr_ HBr cBr fBr zBr hBo_
    clear hW
    obtain ⟨wf, rfl⟩ : ∃ x : World, x = w1 := ⟨_, rfl⟩
    have HB := HBn; clear HBn
    have HBa := Lib.hid hBa__; have cBa := cells4 hBa__; have fBa := frozen_of hBa__; have zBa := lt_of_heap hBa__; clear hBa__
    have HBb := Lib.hid hBb__; have cBb := cells4 hBb__; have fBb := frozen_of hBb__; have zBb := lt_of_heap hBb__; clear hBb__
    have HBr := Lib.hid hBr__; have cBr := cells4 hBr__; have fBr := frozen_of hBr__; have zBr := lt_of_heap hBr__; clear hBr__
    have HBo := Lib.hid hBo__; have cBo := cells4 hBo__; have fBo := frozen_of hBo__; have zBo := lt_of_heap hBo__; clear hBo__
    go_wp2
    refine Rg.region_ (n := 36) [0, 0, 3, 7, 15, 15, 31] [1, 1, 1, 0, 0, 0, 2] [30, 31, 32, 29, 33, 34, 0] [[(5, none)], [], [(30, some 0), (31, some 1)], [(32, some 2)], [(29, some 3)], [(29, some 3)], [(5, none), (33, some 4)]] 6 (by kernel_rfl) (by kernel_rfl) (by rfl) ?_
    intro W hW
    have hBa_ : W.heap[w.heap.size]? = some (.cells #[.int .u64 x0, .int .u64 x1, .int .u64 x2, .int .u64 x3] 25 (0, 0)) := by rw [hW]; exact (by repeat (first | (with_reducible exact HBa.out) | (with_reducible exact set4 HBa.out _ _ _ _) | (with_reducible apply set4) | (with_reducible refine heap_new' ?_ _; simp; done) | (with_reducible refine keep4 ?_ (by omega) _ _ _ _) | (with_reducible refine heap_old ?_ _) | (with_reducible refine heap_drew ?_) | (with_reducible refine heap_set_ne ?_ (by simp <;> omega) _)))
    have hBb_ : W.heap[w.heap.size + 1]? = some (.cells #[.int .u64 y0, .int .u64 y1, .int .u64 y2, .int .u64 y3] 25 (0, 0)) := by rw [hW]; exact (by repeat (first | (with_reducible exact HBb.out) | (with_reducible exact set4 HBb.out _ _ _ _) | (with_reducible apply set4) | (with_reducible refine heap_new' ?_ _; simp; done) | (with_reducible refine keep4 ?_ (by omega) _ _ _ _) | (with_reducible refine heap_old ?_ _) | (with_reducible refine heap_drew ?_) | (with_reducible refine heap_set_ne ?_ (by simp <;> omega) _)))
    have hBr_ : W.heap[w.heap.size + 1 + 1]? = some (.cells #[.int .u64 0, .int .u64 0, .int .u64 0, .int .u64 0] 25 (0, 0)) := by rw [hW]; exact (by repeat (first | (with_reducible exact HBr.out) | (with_reducible exact set4 HBr.out _ _ _ _) | (with_reducible apply set4) | (with_reducible refine heap_new' ?_ _; simp; done) | (with_reducible refine keep4 ?_ (by omega) _ _ _ _) | (with_reducible refine heap_old ?_ _) | (with_reducible refine heap_drew ?_) | (with_reducible refine heap_set_ne ?_ (by simp <;> omega) _)))
    have hBo_ : W.heap[we.heap.size]? = some (.cells #[.int .u64 t0, .int .u64 t1, .int .u64 t2, .int .u64 t3] 25 (0, 0)) := by rw [hW]; exact (by repeat (first | (with_reducible exact HBo.out) | (with_reducible exact set4 HBo.out _ _ _ _) | (with_reducible apply set4) | (with_reducible refine heap_new' ?_ _; simp; done) | (with_reducible refine keep4 ?_ (by omega) _ _ _ _) | (with_reducible refine heap_old ?_ _) | (with_reducible refine heap_drew ?_) | (with_reducible refine heap_set_ne ?_ (by simp <;> omega) _)))
    have HB0 : Below w.heap.size w W := by rw [hW]; have hB0 := HB.out; have hS0 := hB0.size; first | exact hB0.drew | exact (set4_below hB0 (by omega) _ _ _ _).drew | go_grown
    change Rg.Chain' _ _ _ _ _ [(0, 1, 30, [(5, none)]), (1, 1, 31, []), (2, 1, 32, [(30, some 0), (31, some 1)]), (3, 0, 29, [(32, some 2)]), (4, 0, 33, [(29, some 3)]), (5, 0, 34, [(29, some 3)])] [(0, 1, 30, [(5, none)]), (1, 1, 31, []), (2, 1, 32, [(30, some 0), (31, some 1)]), (3, 0, 29, [(32, some 2)]), (4, 0, 33, [(29, some 3)]), (5, 0, 34, [(29, some 3)])] _
    apply Rg.ch_def (by rfl) (fun a w1 _ => Rg.wanted_none (by rfl))
    · rintro a w1 hb ⟨e5, -⟩
      conv at e5 => rhs; whnf
      have n5 := e5
      simp only [Act.eval, Array.getD_eq_getD_getElem?] at n5
      apply Rg.gives_value
      · conv => lhs; simp [go_sem, n5, cells4 (heap_keep' hb hBa_), cells4 (heap_keep' hb hBb_), cells4 (heap_keep' hb hBr_), cells4 (heap_keep' hb hBo_)]
      · exact ⟨rfl, Below.refl _ _⟩
    apply Rg.ch_def (by rfl) (fun a w1 _ => Rg.wanted_none (by rfl))
    · rintro a w1 hb -
      apply Rg.gives_enter
      · exact run_call Try.func32 (by kernel_rfl) rfl #[] (by rfl) (by simp)
      · refine (HO.out _).mono ?_
        rintro e w2 ⟨rfl, hb2⟩
        exact ⟨_, rfl, rfl, hb2⟩
    apply Rg.ch_def (by rfl) (fun a w1 _ => Rg.wanted_none (by rfl))
    · rintro a w1 hb ⟨e30, e31, -⟩
      replace e30 : a.eval (.tmp 30) = _ := e30
      replace e31 : a.eval (.tmp 31) = _ := e31
      apply Rg.gives_enter
      · apply run_call Try.func45 (by kernel_rfl) rfl _ (by rfl)
        conv => lhs; simp only [List.map_toArray, List.map_cons, List.map_nil, eval_const_, eval_global_, e30, e31]
      · refine (HM.out _).mono ?_
        rintro e w2 ⟨rfl, hb2⟩
        exact ⟨_, rfl, rfl, hb2⟩
    apply Rg.ch_pure (by rfl)
    · rintro a w1 ⟨e32, -⟩
      replace e32 : a.eval (.tmp 32) = _ := e32
      have n32 := e32
      simp only [Act.eval, Array.getD_eq_getD_getElem?] at n32
      apply Rg.yields_run (Rg.wanted_none (by rfl))
      intro w2
      conv => lhs; simp [go_sem, n32]
    apply Rg.ch_pure (by rfl)
    · rintro a w1 ⟨e29, -⟩
      replace e29 : a.eval (.tmp 29) = _ := e29
      have n29 := e29
      simp only [Act.eval, Array.getD_eq_getD_getElem?] at n29
      apply Rg.yields_run (Rg.wanted_none (by rfl))
      intro w2
      conv => lhs; simp [go_sem, n29]
    apply Rg.ch_pure (by rfl)
    · rintro a w1 ⟨e29, -⟩
      replace e29 : a.eval (.tmp 29) = _ := e29
      have n29 := e29
      simp only [Act.eval, Array.getD_eq_getD_getElem?] at n29
      apply Rg.yields_run (Rg.wanted_none (by rfl))
      intro w2
      conv => lhs; simp [go_sem, n29]
    intro w1 hb1
    rintro _ rfl _ rfl _ rfl _ rfl _ rfl _ rfl
    change Go.wpList _ _ _ _ _ _
    simp only [List.drop_succ_cons, List.drop_zero, List.drop_nil, Act.put, List.setIfInBounds_toArray, List.set_cons_succ, List.set_cons_zero]
    have HBn : Hid (Below w.heap.size w w1) := Lib.hid (below_call HB0 HB0.size hb1)
    have hBa__ := heap_keep' hb1 hBa_
    have hBb__ := heap_keep' hb1 hBb_
    have hBr__ := heap_keep' hb1 hBr_
    have hBo__ := heap_keep' hb1 hBo_
    clear hb1 HB0 HB hBa_ HBa cBa fBa zBa hBb_ HBb cBb fBb zBb hBr_ HBr cBr fBr zBr hBo_ HBo cBo fBo zBo
    clear hW
    obtain ⟨wg, rfl⟩ : ∃ x : World, x = w1 := ⟨_, rfl⟩
    have HB := HBn; clear HBn
    have HBa := Lib.hid hBa__; have cBa := cells4 hBa__; have fBa := frozen_of hBa__; have zBa := lt_of_heap hBa__; clear hBa__
    have HBb := Lib.hid hBb__; have cBb := cells4 hBb__; have fBb := frozen_of hBb__; have zBb := lt_of_heap hBb__; clear hBb__
    have HBr := Lib.hid hBr__; have cBr := cells4 hBr__; have fBr := frozen_of hBr__; have zBr := lt_of_heap hBr__; clear hBr__
    have HBo := Lib.hid hBo__; have cBo := cells4 hBo__; have fBo := frozen_of hBo__; have zBo := lt_of_heap hBo__; clear hBo__
    go_wp2
    refine NoPanic.normal ?_
    go_wp2
    have hK := set4 (keep4 (b' := we.heap.size) HBr.out (by omega) (.int .u64 d0) (.int .u64 d1) (.int .u64 d2) (.int .u64 d3)) (.int .u64 d0) (.int .u64 d1) (.int .u64 d2) (.int .u64 d3)
    have hL := set4_below (set4_below HB.out (b := we.heap.size) (by omega) (.int .u64 d0) (.int .u64 d1) (.int .u64 d2) (.int .u64 d3)) (b := w.heap.size + 1 + 1) (by omega) (.int .u64 d0) (.int .u64 d1) (.int .u64 d2) (.int .u64 d3)
    have hQ := cells4 hK
    exact bodyPost_ret (v := .agg #[.int .u64 d0, .int .u64 d1, .int .u64 d2, .int .u64 d3]) (by simp [results, Try.results39, go_sem, hQ]) rfl ⟨rfl, hL⟩

end Go.Proofs.Ytldnjbpcdojffaa
