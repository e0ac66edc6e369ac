/- @@NUM 26 The walk of residue's ScalarAdd. Conditions: words are below 2^64. -/
import Derived.Test.YtgeldhdijochdaaZ12
import Derived.Test.YtgeldhdijochdaaZ11
import Derived.Test.YtgeldhdijochdaaZ1
import Derived.Test.YtgeldhdijochdaaZ6
set_option linter.unusedSectionVars false
namespace Go.Proofs.Ytgeldhdijochdaa
set_option linter.unusedVariables false
set_option linter.unusedSimpArgs false
open Go Go.RowKit
open Pl (V V8 W4 T256 pL le bytesOf)

theorem Bytes_row (a0 a1 a2 a3 : Nat) (ha : W4 a0 a1 a2 a3) (w : World) : Calls Try.prog 16 #[.agg #[.int .u64 a0, .int .u64 a1, .int .u64 a2, .int .u64 a3]] w fun e w' => (∃ v, e = .returned v ∧ Bts w'.heap.size w' v (bytesOf 32 (V a0 a1 a2 a3))) ∧ Below w.heap.size w w' :=
  (Bytes_fact a0 a1 a2 a3 ha w).mono fun e w' ⟨⟨v, he, hown⟩, hb⟩ => ⟨⟨v, he, bts_owned (n := w.heap.size) (by rw [Pl.bytesOf_length]; exact hown)⟩, hb⟩
theorem bytes_get (n N : Nat) : ∀ j, j < (bytesOf n N).length → (bytesOf n N)[j]?.getD 0 < 256 := fun j hj => by
  rw [List.getElem?_eq_getElem hj, Option.getD_some]
  exact Pl.bytesOf_lt n N _ (List.getElem_mem _)
theorem Scalar_bytes (a0 a1 a2 a3 : Nat) (ha : W4 a0 a1 a2 a3) : ∃ r0 r1 r2 r3 : Nat, (W4 r0 r1 r2 r3 ∧ V r0 r1 r2 r3 = V a0 a1 a2 a3 % pL) ∧ ∀ (sv : Value) (w : World), Bts w.heap.size w sv (bytesOf 32 (V a0 a1 a2 a3)) →
    Calls Try.prog 25 #[sv] w fun e w' => e = .returned (.tuple #[.agg #[.int .u64 r0, .int .u64 r1, .int .u64 r2, .int .u64 r3], .int .i64 0]) ∧ Below w.heap.size w w' := by
  obtain ⟨r0, r1, r2, r3, ⟨hr, hrv⟩, FS⟩ := Scalar_fact (bytesOf 32 (V a0 a1 a2 a3)) (bytes_get _ _) (by rw [Pl.bytesOf_length]; omega) (by rw [Pl.bytesOf_length]; omega)
  rw [Pl.le_bytes32 (Pl.V_lt ha)] at hrv
  exact ⟨r0, r1, r2, r3, ⟨hr, hrv⟩, FS⟩

set_option maxHeartbeats 4000000 in
theorem ScalarAdd_fact (a0 a1 a2 a3 b0 b1 b2 b3 : Nat) (ha : W4 a0 a1 a2 a3) (hb : W4 b0 b1 b2 b3) : ∃ r0 r1 r2 r3 : Nat, (W4 r0 r1 r2 r3 ∧ V r0 r1 r2 r3 = (V a0 a1 a2 a3 + V b0 b1 b2 b3) % pL) ∧ ∀ w : World,
    Calls Try.prog 27 #[.agg #[.int .u64 a0, .int .u64 a1, .int .u64 a2, .int .u64 a3], .agg #[.int .u64 b0, .int .u64 b1, .int .u64 b2, .int .u64 b3]] w fun e w' => e = .returned (.agg #[.int .u64 r0, .int .u64 r1, .int .u64 r2, .int .u64 r3]) ∧ Below w.heap.size w w' := by
  obtain ⟨x0, x1, x2, x3, ⟨hx, hxv⟩, FX⟩ := Scalar_bytes a0 a1 a2 a3 ha
  obtain ⟨y0, y1, y2, y3, ⟨hy, hyv⟩, FY⟩ := Scalar_bytes b0 b1 b2 b3 hb
  have hxl : V x0 x1 x2 x3 < pL := by rw [hxv]; exact Nat.mod_lt _ Pl.pL_pos
  have hyl : V y0 y1 y2 y3 < pL := by rw [hyv]; exact Nat.mod_lt _ Pl.pL_pos
  have hp := Pl.pL_small
  obtain ⟨t0, t1, t2, t3, c, ⟨ht, hc, htv⟩, FP⟩ := plus_fact x0 x1 x2 x3 y0 y1 y2 y3 hx hy
  have hc0 : c = 0 := by
    rcases (show c = 0 ∨ c = 1 by omega) with rfl | rfl
    · rfl
    · omega
  subst hc0
  have htv2 : V t0 t1 t2 t3 = V x0 x1 x2 x3 + V y0 y1 y2 y3 := by omega
  have hmod : (V x0 x1 x2 x3 + V y0 y1 y2 y3) % pL = (V a0 a1 a2 a3 + V b0 b1 b2 b3) % pL := by rw [hxv, hyv, ← Nat.add_mod]
  obtain ⟨z, hz, FL⟩ := less_fact t0 t1 t2 t3 _ _ _ _ ht Pl.pL_W
  rw [Pl.pL_words, htv2] at hz
  have HA := Lib.hid (Bytes_row a0 a1 a2 a3 ha); have HB_ := Lib.hid (Bytes_row b0 b1 b2 b3 hb)
  have HX := Lib.hid FX; have HY := Lib.hid FY; have HP := Lib.hid FP; have HL := Lib.hid FL; have HO := Lib.hid Order_fact
  clear FX FY FP FL
  rcases Pl.sum_mod hxl hyl with ⟨hlt, hm⟩ | ⟨hge, hm⟩
  · obtain rfl : z = true := hz.2 hlt
    refine ⟨t0, t1, t2, t3, ⟨ht, by rw [htv2, ← hmod, hm]⟩, fun w => ?_⟩
    clear hz hm hlt hmod htv2 htv hc hp hxl hyl hxv hyv hx hy ht ha hb
    go_enter Try.func27, Try.ntmps27
    go_wp2_with (fail)
    go_at_call 16
    refine (HA.out _).mono ?_
    rintro e wa ⟨⟨v, rfl, hBt⟩, hb⟩
    have HBn : Hid (Below w.heap.size w wa) := Lib.hid ((fun (h : Below _ _ _) => below_call h h.size hb) (by first | go_grown))
    have hBa_ : wa.heap[w.heap.size]? = some (.cells #[.int .u64 a0, .int .u64 a1, .int .u64 a2, .int .u64 a3] 26 (0, 0)) := heap_keep' hb (by repeat (first | (with_reducible refine heap_new' ?_ _; simp; done) | (with_reducible refine keep4 ?_ (by omega) _ _ _ _) | (with_reducible refine heap_old ?_ _) | (with_reducible refine heap_drew ?_) | (with_reducible refine heap_set_ne ?_ (by simp <;> omega) _)))
    have hBb_ : wa.heap[w.heap.size + 1]? = some (.cells #[.int .u64 b0, .int .u64 b1, .int .u64 b2, .int .u64 b3] 26 (0, 0)) := heap_keep' hb (by repeat (first | (with_reducible refine heap_new' ?_ _; simp; done) | (with_reducible refine keep4 ?_ (by omega) _ _ _ _) | (with_reducible refine heap_old ?_ _) | (with_reducible refine heap_drew ?_) | (with_reducible refine heap_set_ne ?_ (by simp <;> omega) _)))
    have hBr_ : wa.heap[w.heap.size + 1 + 1]? = some (.cells #[.int .u64 0, .int .u64 0, .int .u64 0, .int .u64 0] 26 (0, 0)) := heap_keep' hb (by repeat (first | (with_reducible refine heap_new' ?_ _; simp; done) | (with_reducible refine keep4 ?_ (by omega) _ _ _ _) | (with_reducible refine heap_old ?_ _) | (with_reducible refine heap_drew ?_) | (with_reducible refine heap_set_ne ?_ (by simp <;> omega) _)))
    clear hb
    have HB := HBn; clear HBn
    have HBa := Lib.hid hBa_; have cBa := cells4 hBa_; have fBa := frozen_of hBa_; have zBa := lt_of_heap hBa_; clear hBa_
    have HBb := Lib.hid hBb_; have cBb := cells4 hBb_; have fBb := frozen_of hBb_; have zBb := lt_of_heap hBb_; clear hBb_
    have HBr := Lib.hid hBr_; have cBr := cells4 hBr_; have fBr := frozen_of hBr_; have zBr := lt_of_heap hBr_; clear hBr_
    go_wp2_with (fail)
    go_at_call 25
    refine (HX.out _ _ hBt).mono ?_
    rintro e wb ⟨rfl, hb⟩
    have HBn : Hid (Below w.heap.size w wb) := Lib.hid ((fun (h : Below _ _ _) => below_call h h.size hb) (by have hB0 := HB.out; have hS0 := hB0.size; first | (with_reducible exact hB0) | (with_reducible exact set4_below hB0 (by omega) _ _ _ _) | (with_reducible exact set4_below (set4_below hB0 (by omega) _ _ _ _) (by omega) _ _ _ _) | (with_reducible exact set4_below (set4_below (set4_below (set4_below hB0 (by omega) _ _ _ _) (by omega) _ _ _ _) (by omega) _ _ _ _) (by omega) _ _ _ _) | go_grown))
    have hBa_ : wb.heap[w.heap.size]? = some (.cells #[.int .u64 a0, .int .u64 a1, .int .u64 a2, .int .u64 a3] 26 (0, 0)) := heap_keep' hb (by repeat (first | (with_reducible exact HBa.out) | (with_reducible exact set4 HBa.out _ _ _ _) | (with_reducible apply set4) | (with_reducible refine heap_new' ?_ _; simp; done) | (with_reducible refine keep4 ?_ (by omega) _ _ _ _) | (with_reducible refine heap_old ?_ _) | (with_reducible refine heap_drew ?_) | (with_reducible refine heap_set_ne ?_ (by simp <;> omega) _)))
    have hBb_ : wb.heap[w.heap.size + 1]? = some (.cells #[.int .u64 b0, .int .u64 b1, .int .u64 b2, .int .u64 b3] 26 (0, 0)) := heap_keep' hb (by repeat (first | (with_reducible exact HBb.out) | (with_reducible exact set4 HBb.out _ _ _ _) | (with_reducible apply set4) | (with_reducible refine heap_new' ?_ _; simp; done) | (with_reducible refine keep4 ?_ (by omega) _ _ _ _) | (with_reducible refine heap_old ?_ _) | (with_reducible refine heap_drew ?_) | (with_reducible refine heap_set_ne ?_ (by simp <;> omega) _)))
    have hBr_ : wb.heap[w.heap.size + 1 + 1]? = some (.cells #[.int .u64 0, .int .u64 0, .int .u64 0, .int .u64 0] 26 (0, 0)) := heap_keep' hb (by repeat (first | (with_reducible exact HBr.out) | (with_reducible exact set4 HBr.out _ _ _ _) | (with_reducible apply set4) | (with_reducible refine heap_new' ?_ _; simp; done) | (with_reducible refine keep4 ?_ (by omega) _ _ _ _) | (with_reducible refine heap_old ?_ _) | (with_reducible refine heap_drew ?_) | (with_reducible refine heap_set_ne ?_ (by simp <;> omega) _)))
    clear hb HB HBa cBa fBa zBa HBb cBb fBb zBb HBr cBr fBr zBr
    have HB := HBn; clear HBn
    have HBa := Lib.hid hBa_; have cBa := cells4 hBa_; have fBa := frozen_of hBa_; have zBa := lt_of_heap hBa_; clear hBa_
    have HBb := Lib.hid hBb_; have cBb := cells4 hBb_; have fBb := frozen_of hBb_; have zBb := lt_of_heap hBb_; clear hBb_
    have HBr := Lib.hid hBr_; have cBr := cells4 hBr_; have fBr := frozen_of hBr_; have zBr := lt_of_heap hBr_; clear hBr_
    clear hBt
    go_wp2_with (fail)
    go_at_call 16
    refine (HB_.out _).mono ?_
    rintro e wc ⟨⟨v2, rfl, hBt⟩, hb⟩
    have HBn : Hid (Below w.heap.size w wc) := Lib.hid ((fun (h : Below _ _ _) => below_call h h.size hb) (by have hB0 := HB.out; have hS0 := hB0.size; first | (with_reducible exact hB0) | (with_reducible exact set4_below hB0 (by omega) _ _ _ _) | (with_reducible exact set4_below (set4_below hB0 (by omega) _ _ _ _) (by omega) _ _ _ _) | (with_reducible exact set4_below (set4_below (set4_below (set4_below hB0 (by omega) _ _ _ _) (by omega) _ _ _ _) (by omega) _ _ _ _) (by omega) _ _ _ _) | go_grown))
    have hBa_ : wc.heap[w.heap.size]? = some (.cells #[.int .u64 x0, .int .u64 x1, .int .u64 x2, .int .u64 x3] 26 (0, 0)) := heap_keep' hb (by repeat (first | (with_reducible exact HBa.out) | (with_reducible exact set4 HBa.out _ _ _ _) | (with_reducible apply set4) | (with_reducible refine heap_new' ?_ _; simp; done) | (with_reducible refine keep4 ?_ (by omega) _ _ _ _) | (with_reducible refine heap_old ?_ _) | (with_reducible refine heap_drew ?_) | (with_reducible refine heap_set_ne ?_ (by simp <;> omega) _)))
    have hBb_ : wc.heap[w.heap.size + 1]? = some (.cells #[.int .u64 b0, .int .u64 b1, .int .u64 b2, .int .u64 b3] 26 (0, 0)) := heap_keep' hb (by repeat (first | (with_reducible exact HBb.out) | (with_reducible exact set4 HBb.out _ _ _ _) | (with_reducible apply set4) | (with_reducible refine heap_new' ?_ _; simp; done) | (with_reducible refine keep4 ?_ (by omega) _ _ _ _) | (with_reducible refine heap_old ?_ _) | (with_reducible refine heap_drew ?_) | (with_reducible refine heap_set_ne ?_ (by simp <;> omega) _)))
    have hBr_ : wc.heap[w.heap.size + 1 + 1]? = some (.cells #[.int .u64 0, .int .u64 0, .int .u64 0, .int .u64 0] 26 (0, 0)) := heap_keep' hb (by repeat (first | (with_reducible exact HBr.out) | (with_reducible exact set4 HBr.out _ _ _ _) | (with_reducible apply set4) | (with_reducible refine heap_new' ?_ _; simp; done) | (with_reducible refine keep4 ?_ (by omega) _ _ _ _) | (with_reducible refine heap_old ?_ _) | (with_reducible refine heap_drew ?_) | (with_reducible refine heap_set_ne ?_ (by simp <;> omega) _)))
    clear hb HB HBa cBa fBa zBa HBb cBb fBb zBb HBr cBr fBr zBr
    have HB := HBn; clear HBn
    have HBa := Lib.hid hBa_; have cBa := cells4 hBa_; have fBa := frozen_of hBa_; have zBa := lt_of_heap hBa_; clear hBa_
    have HBb := Lib.hid hBb_; have cBb := cells4 hBb_; have fBb := frozen_of hBb_; have zBb := lt_of_heap hBb_; clear hBb_
    have HBr := Lib.hid hBr_; have cBr := cells4 hBr_; have fBr := frozen_of hBr_; have zBr := lt_of_heap hBr_; clear hBr_
    go_wp2_with (fail)
    go_at_call 25
    refine (HY.out _ _ hBt).mono ?_
    rintro e wd ⟨rfl, hb⟩
    have HBn : Hid (Below w.heap.size w wd) := Lib.hid ((fun (h : Below _ _ _) => below_call h h.size hb) (by have hB0 := HB.out; have hS0 := hB0.size; first | (with_reducible exact hB0) | (with_reducible exact set4_below hB0 (by omega) _ _ _ _) | (with_reducible exact set4_below (set4_below hB0 (by omega) _ _ _ _) (by omega) _ _ _ _) | (with_reducible exact set4_below (set4_below (set4_below (set4_below hB0 (by omega) _ _ _ _) (by omega) _ _ _ _) (by omega) _ _ _ _) (by omega) _ _ _ _) | go_grown))
    have hBa_ : wd.heap[w.heap.size]? = some (.cells #[.int .u64 x0, .int .u64 x1, .int .u64 x2, .int .u64 x3] 26 (0, 0)) := heap_keep' hb (by repeat (first | (with_reducible exact HBa.out) | (with_reducible exact set4 HBa.out _ _ _ _) | (with_reducible apply set4) | (with_reducible refine heap_new' ?_ _; simp; done) | (with_reducible refine keep4 ?_ (by omega) _ _ _ _) | (with_reducible refine heap_old ?_ _) | (with_reducible refine heap_drew ?_) | (with_reducible refine heap_set_ne ?_ (by simp <;> omega) _)))
    have hBb_ : wd.heap[w.heap.size + 1]? = some (.cells #[.int .u64 b0, .int .u64 b1, .int .u64 b2, .int .u64 b3] 26 (0, 0)) := heap_keep' hb (by repeat (first | (with_reducible exact HBb.out) | (with_reducible exact set4 HBb.out _ _ _ _) | (with_reducible apply set4) | (with_reducible refine heap_new' ?_ _; simp; done) | (with_reducible refine keep4 ?_ (by omega) _ _ _ _) | (with_reducible refine heap_old ?_ _) | (with_reducible refine heap_drew ?_) | (with_reducible refine heap_set_ne ?_ (by simp <;> omega) _)))
    have hBr_ : wd.heap[w.heap.size + 1 + 1]? = some (.cells #[.int .u64 0, .int .u64 0, .int .u64 0, .int .u64 0] 26 (0, 0)) := heap_keep' hb (by repeat (first | (with_reducible exact HBr.out) | (with_reducible exact set4 HBr.out _ _ _ _) | (with_reducible apply set4) | (with_reducible refine heap_new' ?_ _; simp; done) | (with_reducible refine keep4 ?_ (by omega) _ _ _ _) | (with_reducible refine heap_old ?_ _) | (with_reducible refine heap_drew ?_) | (with_reducible refine heap_set_ne ?_ (by simp <;> omega) _)))
    clear hb HB HBa cBa fBa zBa HBb cBb fBb zBb HBr cBr fBr zBr
    have HB := HBn; clear HBn
    have HBa := Lib.hid hBa_; have cBa := cells4 hBa_; have fBa := frozen_of hBa_; have zBa := lt_of_heap hBa_; clear hBa_
    have HBb := Lib.hid hBb_; have cBb := cells4 hBb_; have fBb := frozen_of hBb_; have zBb := lt_of_heap hBb_; clear hBb_
    have HBr := Lib.hid hBr_; have cBr := cells4 hBr_; have fBr := frozen_of hBr_; have zBr := lt_of_heap hBr_; clear hBr_
    clear hBt
    go_wp2_with (fail)
    go_at_call 53
    refine (HP.out _).mono ?_
    rintro e we ⟨rfl, hb⟩
    have HBn : Hid (Below w.heap.size w we) := Lib.hid ((fun (h : Below _ _ _) => below_call h h.size hb) (by have hB0 := HB.out; have hS0 := hB0.size; first | (with_reducible exact hB0) | (with_reducible exact set4_below hB0 (by omega) _ _ _ _) | (with_reducible exact set4_below (set4_below hB0 (by omega) _ _ _ _) (by omega) _ _ _ _) | (with_reducible exact set4_below (set4_below (set4_below (set4_below hB0 (by omega) _ _ _ _) (by omega) _ _ _ _) (by omega) _ _ _ _) (by omega) _ _ _ _) | go_grown))
    have hBa_ : we.heap[w.heap.size]? = some (.cells #[.int .u64 x0, .int .u64 x1, .int .u64 x2, .int .u64 x3] 26 (0, 0)) := heap_keep' hb (by repeat (first | (with_reducible exact HBa.out) | (with_reducible exact set4 HBa.out _ _ _ _) | (with_reducible apply set4) | (with_reducible refine heap_new' ?_ _; simp; done) | (with_reducible refine keep4 ?_ (by omega) _ _ _ _) | (with_reducible refine heap_old ?_ _) | (with_reducible refine heap_drew ?_) | (with_reducible refine heap_set_ne ?_ (by simp <;> omega) _)))
    have hBb_ : we.heap[w.heap.size + 1]? = some (.cells #[.int .u64 y0, .int .u64 y1, .int .u64 y2, .int .u64 y3] 26 (0, 0)) := heap_keep' hb (by repeat (first | (with_reducible exact HBb.out) | (with_reducible exact set4 HBb.out _ _ _ _) | (with_reducible apply set4) | (with_reducible refine heap_new' ?_ _; simp; done) | (with_reducible refine keep4 ?_ (by omega) _ _ _ _) | (with_reducible refine heap_old ?_ _) | (with_reducible refine heap_drew ?_) | (with_reducible refine heap_set_ne ?_ (by simp <;> omega) _)))
    have hBr_ : we.heap[w.heap.size + 1 + 1]? = some (.cells #[.int .u64 0, .int .u64 0, .int .u64 0, .int .u64 0] 26 (0, 0)) := heap_keep' hb (by repeat (first | (with_reducible exact HBr.out) | (with_reducible exact set4 HBr.out _ _ _ _) | (with_reducible apply set4) | (with_reducible refine heap_new' ?_ _; simp; done) | (with_reducible refine keep4 ?_ (by omega) _ _ _ _) | (with_reducible refine heap_old ?_ _) | (with_reducible refine heap_drew ?_) | (with_reducible refine heap_set_ne ?_ (by simp <;> omega) _)))
    clear hb HB HBa cBa fBa zBa HBb cBb fBb zBb HBr cBr fBr zBr
    have HB := HBn; clear HBn
    have HBa := Lib.hid hBa_; have cBa := cells4 hBa_; have fBa := frozen_of hBa_; have zBa := lt_of_heap hBa_; clear hBa_
    have HBb := Lib.hid hBb_; have cBb := cells4 hBb_; have fBb := frozen_of hBb_; have zBb := lt_of_heap hBb_; clear hBb_
    have HBr := Lib.hid hBr_; have cBr := cells4 hBr_; have fBr := frozen_of hBr_; have zBr := lt_of_heap hBr_; clear hBr_
    have kz1 := zBr
    go_wp2
    refine Rg.region_ (n := 36) [0, 0, 3, 7] [1, 1, 1, 0] [25, 26, 27, 28] [[(5, none)], [], [(25, some 0), (26, some 1)], [(27, some 2)]] 4 (by kernel_rfl) (by kernel_rfl) (by rfl) ?_
    intro W hW
    have hBa_ : W.heap[w.heap.size]? = some (.cells #[.int .u64 x0, .int .u64 x1, .int .u64 x2, .int .u64 x3] 26 (0, 0)) := by rw [hW]; exact (by repeat (first | (with_reducible exact HBa.out) | (with_reducible exact set4 HBa.out _ _ _ _) | (with_reducible apply set4) | (with_reducible refine heap_new' ?_ _; simp; done) | (with_reducible refine keep4 ?_ (by omega) _ _ _ _) | (with_reducible refine heap_old ?_ _) | (with_reducible refine heap_drew ?_) | (with_reducible refine heap_set_ne ?_ (by simp <;> omega) _)))
    have hBb_ : W.heap[w.heap.size + 1]? = some (.cells #[.int .u64 y0, .int .u64 y1, .int .u64 y2, .int .u64 y3] 26 (0, 0)) := by rw [hW]; exact (by repeat (first | (with_reducible exact HBb.out) | (with_reducible exact set4 HBb.out _ _ _ _) | (with_reducible apply set4) | (with_reducible refine heap_new' ?_ _; simp; done) | (with_reducible refine keep4 ?_ (by omega) _ _ _ _) | (with_reducible refine heap_old ?_ _) | (with_reducible refine heap_drew ?_) | (with_reducible refine heap_set_ne ?_ (by simp <;> omega) _)))
    have hBr_ : W.heap[w.heap.size + 1 + 1]? = some (.cells #[.int .u64 0, .int .u64 0, .int .u64 0, .int .u64 0] 26 (0, 0)) := by rw [hW]; exact (by repeat (first | (with_reducible exact HBr.out) | (with_reducible exact set4 HBr.out _ _ _ _) | (with_reducible apply set4) | (with_reducible refine heap_new' ?_ _; simp; done) | (with_reducible refine keep4 ?_ (by omega) _ _ _ _) | (with_reducible refine heap_old ?_ _) | (with_reducible refine heap_drew ?_) | (with_reducible refine heap_set_ne ?_ (by simp <;> omega) _)))
    have hBo_ : W.heap[we.heap.size]? = some (.cells #[.int .u64 t0, .int .u64 t1, .int .u64 t2, .int .u64 t3] 26 (0, 0)) := by rw [hW]; exact (by repeat (first | (with_reducible refine heap_new' ?_ _; simp; done) | (with_reducible refine keep4 ?_ (by omega) _ _ _ _) | (with_reducible refine heap_old ?_ _) | (with_reducible refine heap_drew ?_) | (with_reducible refine heap_set_ne ?_ (by simp <;> omega) _)))
    have HB0 : Below w.heap.size w W := by rw [hW]; have hB0 := HB.out; have hS0 := hB0.size; first | exact hB0.drew | exact (set4_below hB0 (by omega) _ _ _ _).drew | go_grown
    change Rg.Chain' _ _ _ _ _ [(0, 1, 25, [(5, none)]), (1, 1, 26, []), (2, 1, 27, [(25, some 0), (26, some 1)]), (3, 0, 28, [(27, some 2)])] [(0, 1, 25, [(5, none)]), (1, 1, 26, []), (2, 1, 27, [(25, some 0), (26, some 1)]), (3, 0, 28, [(27, some 2)])] _
    apply Rg.ch_def (by rfl) (fun a w1 _ => Rg.wanted_none (by rfl))
    · rintro a w1 hb ⟨e5, -⟩
      conv at e5 => rhs; whnf
      have n5 := e5
      simp only [Act.eval, Array.getD_eq_getD_getElem?] at n5
      apply Rg.gives_value
      · conv => lhs; simp [go_sem, n5, cells4 (heap_keep' hb hBa_), cells4 (heap_keep' hb hBb_), cells4 (heap_keep' hb hBr_), cells4 (heap_keep' hb hBo_)]
      · exact ⟨rfl, Below.refl _ _⟩
    apply Rg.ch_def (by rfl) (fun a w1 _ => Rg.wanted_none (by rfl))
    · rintro a w1 hb -
      apply Rg.gives_enter
      · exact run_call Try.func21 (by kernel_rfl) rfl #[] (by rfl) (by simp)
      · refine (HO.out _).mono ?_
        rintro e w2 ⟨rfl, hb2⟩
        exact ⟨_, rfl, rfl, hb2⟩
    apply Rg.ch_def (by rfl) (fun a w1 _ => Rg.wanted_none (by rfl))
    · rintro a w1 hb ⟨e25, e26, -⟩
      replace e25 : a.eval (.tmp 25) = _ := e25
      replace e26 : a.eval (.tmp 26) = _ := e26
      apply Rg.gives_enter
      · apply run_call Try.func40 (by kernel_rfl) rfl _ (by rfl)
        conv => lhs; simp only [List.map_toArray, List.map_cons, List.map_nil, eval_const_, eval_global_, e25, e26]
      · refine (HL.out _).mono ?_
        rintro e w2 ⟨rfl, hb2⟩
        exact ⟨_, rfl, rfl, hb2⟩
    apply Rg.ch_pure (by rfl)
    · rintro a w1 ⟨e27, -⟩
      replace e27 : a.eval (.tmp 27) = _ := e27
      have n27 := e27
      simp only [Act.eval, Array.getD_eq_getD_getElem?] at n27
      apply Rg.yields_run (Rg.wanted_none (by rfl))
      intro w2
      conv => lhs; simp [go_sem, n27]
    intro w1 hb1
    rintro _ rfl _ rfl _ rfl _ rfl
    change Go.wpList _ _ _ _ _ _
    simp only [List.drop_succ_cons, List.drop_zero, List.drop_nil, Act.put, List.setIfInBounds_toArray, List.set_cons_succ, List.set_cons_zero]
    change Go.NoPanic _ _ _ _
    refine NoPanic.normal ?_
    have HBn : Hid (Below w.heap.size w w1) := Lib.hid (below_call HB0 HB0.size hb1)
    have hBa__ := heap_keep' hb1 hBa_
    have hBb__ := heap_keep' hb1 hBb_
    have hBr__ := heap_keep' hb1 hBr_
    have hBo__ := heap_keep' hb1 hBo_
    clear hb1 HB0 HB hBa_ HBa cBa fBa zBa hBb_ HBb cBb fBb zBb hBr_ HBr cBr fBr zBr hBo_
    clear hW
    obtain ⟨wf, rfl⟩ : ∃ x : World, x = w1 := ⟨_, rfl⟩
    have HB := HBn; clear HBn
    have HBa := Lib.hid hBa__; have cBa := cells4 hBa__; have fBa := frozen_of hBa__; have zBa := lt_of_heap hBa__; clear hBa__
    have HBb := Lib.hid hBb__; have cBb := cells4 hBb__; have fBb := frozen_of hBb__; have zBb := lt_of_heap hBb__; clear hBb__
    have HBr := Lib.hid hBr__; have cBr := cells4 hBr__; have fBr := frozen_of hBr__; have zBr := lt_of_heap hBr__; clear hBr__
    have HBo := Lib.hid hBo__; have cBo := cells4 hBo__; have fBo := frozen_of hBo__; have zBo := lt_of_heap hBo__; clear hBo__
    go_wp2
    have hK := set4 HBr.out (.int .u64 t0) (.int .u64 t1) (.int .u64 t2) (.int .u64 t3)
    have hL := set4_below (b := w.heap.size + 1 + 1) HB.out (by omega) (.int .u64 t0) (.int .u64 t1) (.int .u64 t2) (.int .u64 t3)
    have hQ := cells4 hK
    exact bodyPost_ret (v := .agg #[.int .u64 t0, .int .u64 t1, .int .u64 t2, .int .u64 t3]) (by simp [results, Try.results27, go_sem, hQ]) rfl ⟨rfl, hL⟩
  · obtain rfl : z = false := by
      cases z
      · rfl
      · exact absurd (hz.1 rfl) (by omega)
    obtain ⟨d0, d1, d2, d3, c2, ⟨hd, hc2, hdv⟩, FM⟩ := minus_fact t0 t1 t2 t3 _ _ _ _ ht Pl.pL_W
    rw [Pl.pL_words, htv2] at hdv
    have hd2 := Pl.V_lt hd
    have hc0 : c2 = 0 := by
      rcases (show c2 = 0 ∨ c2 = 1 by omega) with rfl | rfl
      · rfl
      · omega
    subst hc0
    have HM := Lib.hid FM
    refine ⟨d0, d1, d2, d3, ⟨hd, by rw [← hmod, hm]; omega⟩, fun w => ?_⟩
    clear FM hd2 hdv hc2 hd hz hm hge hmod htv2 htv hc hp hxl hyl hxv hyv hx hy ht ha hb
    go_enter Try.func27, Try.ntmps27
    go_wp2_with (fail)
    go_at_call 16
    refine (HA.out _).mono ?_
    rintro e wa ⟨⟨v, rfl, hBt⟩, hb⟩
    have HBn : Hid (Below w.heap.size w wa) := Lib.hid ((fun (h : Below _ _ _) => below_call h h.size hb) (by first | go_grown))
    have hBa_ : wa.heap[w.heap.size]? = some (.cells #[.int .u64 a0, .int .u64 a1, .int .u64 a2, .int .u64 a3] 26 (0, 0)) := heap_keep' hb (by repeat (first | (with_reducible refine heap_new' ?_ _; simp; done) | (with_reducible refine keep4 ?_ (by omega) _ _ _ _) | (with_reducible refine heap_old ?_ _) | (with_reducible refine heap_drew ?_) | (with_reducible refine heap_set_ne ?_ (by simp <;> omega) _)))
    have hBb_ : wa.heap[w.heap.size + 1]? = some (.cells #[.int .u64 b0, .int .u64 b1, .int .u64 b2, .int .u64 b3] 26 (0, 0)) := heap_keep' hb (by repeat (first | (with_reducible refine heap_new' ?_ _; simp; done) | (with_reducible refine keep4 ?_ (by omega) _ _ _ _) | (with_reducible refine heap_old ?_ _) | (with_reducible refine heap_drew ?_) | (with_reducible refine heap_set_ne ?_ (by simp <;> omega) _)))
    have hBr_ : wa.heap[w.heap.size + 1 + 1]? = some (.cells #[.int .u64 0, .int .u64 0, .int .u64 0, .int .u64 0] 26 (0, 0)) := heap_keep' hb (by repeat (first | (with_reducible refine heap_new' ?_ _; simp; done) | (with_reducible refine keep4 ?_ (by omega) _ _ _ _) | (with_reducible refine heap_old ?_ _) | (with_reducible refine heap_drew ?_) | (with_reducible refine heap_set_ne ?_ (by simp <;> omega) _)))
    clear hb
    have HB := HBn; clear HBn
    have HBa := Lib.hid hBa_; have cBa := cells4 hBa_; have fBa := frozen_of hBa_; have zBa := lt_of_heap hBa_; clear hBa_
    have HBb := Lib.hid hBb_; have cBb := cells4 hBb_; have fBb := frozen_of hBb_; have zBb := lt_of_heap hBb_; clear hBb_
    have HBr := Lib.hid hBr_; have cBr := cells4 hBr_; have fBr := frozen_of hBr_; have zBr := lt_of_heap hBr_; clear hBr_
    go_wp2_with (fail)
    go_at_call 25
    refine (HX.out _ _ hBt).mono ?_
    rintro e wb ⟨rfl, hb⟩
    have HBn : Hid (Below w.heap.size w wb) := Lib.hid ((fun (h : Below _ _ _) => below_call h h.size hb) (by have hB0 := HB.out; have hS0 := hB0.size; first | (with_reducible exact hB0) | (with_reducible exact set4_below hB0 (by omega) _ _ _ _) | (with_reducible exact set4_below (set4_below hB0 (by omega) _ _ _ _) (by omega) _ _ _ _) | (with_reducible exact set4_below (set4_below (set4_below (set4_below hB0 (by omega) _ _ _ _) (by omega) _ _ _ _) (by omega) _ _ _ _) (by omega) _ _ _ _) | go_grown))
    have hBa_ : wb.heap[w.heap.size]? = some (.cells #[.int .u64 a0, .int .u64 a1, .int .u64 a2, .int .u64 a3] 26 (0, 0)) := heap_keep' hb (by repeat (first | (with_reducible exact HBa.out) | (with_reducible exact set4 HBa.out _ _ _ _) | (with_reducible apply set4) | (with_reducible refine heap_new' ?_ _; simp; done) | (with_reducible refine keep4 ?_ (by omega) _ _ _ _) | (with_reducible refine heap_old ?_ _) | (with_reducible refine heap_drew ?_) | (with_reducible refine heap_set_ne ?_ (by simp <;> omega) _)))
    have hBb_ : wb.heap[w.heap.size + 1]? = some (.cells #[.int .u64 b0, .int .u64 b1, .int .u64 b2, .int .u64 b3] 26 (0, 0)) := heap_keep' hb (by repeat (first | (with_reducible exact HBb.out) | (with_reducible exact set4 HBb.out _ _ _ _) | (with_reducible apply set4) | (with_reducible refine heap_new' ?_ _; simp; done) | (with_reducible refine keep4 ?_ (by omega) _ _ _ _) | (with_reducible refine heap_old ?_ _) | (with_reducible refine heap_drew ?_) | (with_reducible refine heap_set_ne ?_ (by simp <;> omega) _)))
    have hBr_ : wb.heap[w.heap.size + 1 + 1]? = some (.cells #[.int .u64 0, .int .u64 0, .int .u64 0, .int .u64 0] 26 (0, 0)) := heap_keep' hb (by repeat (first | (with_reducible exact HBr.out) | (with_reducible exact set4 HBr.out _ _ _ _) | (with_reducible apply set4) | (with_reducible refine heap_new' ?_ _; simp; done) | (with_reducible refine keep4 ?_ (by omega) _ _ _ _) | (with_reducible refine heap_old ?_ _) | (with_reducible refine heap_drew ?_) | (with_reducible refine heap_set_ne ?_ (by simp <;> omega) _)))
    clear hb HB HBa cBa fBa zBa HBb cBb fBb zBb HBr cBr fBr zBr
    have HB := HBn; clear HBn
    have HBa := Lib.hid hBa_; have cBa := cells4 hBa_; have fBa := frozen_of hBa_; have zBa := lt_of_heap hBa_; clear hBa_
    have HBb := Lib.hid hBb_; have cBb := cells4 hBb_; have fBb := frozen_of hBb_; have zBb := lt_of_heap hBb_; clear hBb_
    have HBr := Lib.hid hBr_; have cBr := cells4 hBr_; have fBr := frozen_of hBr_; have zBr := lt_of_heap hBr_; clear hBr_
    clear hBt
    go_wp2_with (fail)
    go_at_call 16
    refine (HB_.out _).mono ?_
    rintro e wc ⟨⟨v2, rfl, hBt⟩, hb⟩
    have HBn : Hid (Below w.heap.size w wc) := Lib.hid ((fun (h : Below _ _ _) => below_call h h.size hb) (by have hB0 := HB.out; have hS0 := hB0.size; first | (with_reducible exact hB0) | (with_reducible exact set4_below hB0 (by omega) _ _ _ _) | (with_reducible exact set4_below (set4_below hB0 (by omega) _ _ _ _) (by omega) _ _ _ _) | (with_reducible exact set4_below (set4_below (set4_below (set4_below hB0 (by omega) _ _ _ _) (by omega) _ _ _ _) (by omega) _ _ _ _) (by omega) _ _ _ _) | go_grown))
    have hBa_ : wc.heap[w.heap.size]? = some (.cells #[.int .u64 x0, .int .u64 x1, .int .u64 x2, .int .u64 x3] 26 (0, 0)) := heap_keep' hb (by repeat (first | (with_reducible exact HBa.out) | (with_reducible exact set4 HBa.out _ _ _ _) | (with_reducible apply set4) | (with_reducible refine heap_new' ?_ _; simp; done) | (with_reducible refine keep4 ?_ (by omega) _ _ _ _) | (with_reducible refine heap_old ?_ _) | (with_reducible refine heap_drew ?_) | (with_reducible refine heap_set_ne ?_ (by simp <;> omega) _)))
    have hBb_ : wc.heap[w.heap.size + 1]? = some (.cells #[.int .u64 b0, .int .u64 b1, .int .u64 b2, .int .u64 b3] 26 (0, 0)) := heap_keep' hb (by repeat (first | (with_reducible exact HBb.out) | (with_reducible exact set4 HBb.out _ _ _ _) | (with_reducible apply set4) | (with_reducible refine heap_new' ?_ _; simp; done) | (with_reducible refine keep4 ?_ (by omega) _ _ _ _) | (with_reducible refine heap_old ?_ _) | (with_reducible refine heap_drew ?_) | (with_reducible refine heap_set_ne ?_ (by simp <;> omega) _)))
    have hBr_ : wc.heap[w.heap.size + 1 + 1]? = some (.cells #[.int .u64 0, .int .u64 0, .int .u64 0, .int .u64 0] 26 (0, 0)) := heap_keep' hb (by repeat (first | (with_reducible exact HBr.out) | (with_reducible exact set4 HBr.out _ _ _ _) | (with_reducible apply set4) | (with_reducible refine heap_new' ?_ _; simp; done) | (with_reducible refine keep4 ?_ (by omega) _ _ _ _) | (with_reducible refine heap_old ?_ _) | (with_reducible refine heap_drew ?_) | (with_reducible refine heap_set_ne ?_ (by simp <;> omega) _)))
    clear hb HB HBa cBa fBa zBa HBb cBb fBb zBb HBr cBr fBr zBr
    have HB := HBn; clear HBn
    have HBa := Lib.hid hBa_; have cBa := cells4 hBa_; have fBa := frozen_of hBa_; have zBa := lt_of_heap hBa_; clear hBa_
    have HBb := Lib.hid hBb_; have cBb := cells4 hBb_; have fBb := frozen_of hBb_; have zBb := lt_of_heap hBb_; clear hBb_
    have HBr := Lib.hid hBr_; have cBr := cells4 hBr_; have fBr := frozen_of hBr_; have zBr := lt_of_heap hBr_; clear hBr_
    go_wp2_with (fail)
    go_at_call 25
    refine (HY.out _ _ hBt).mono ?_
    rintro e wd ⟨rfl, hb⟩
    have HBn : Hid (Below w.heap.size w wd) := Lib.hid ((fun (h : Below _ _ _) => below_call h h.size hb) (by have hB0 := HB.out; have hS0 := hB0.size; first | (with_reducible exact hB0) | (with_reducible exact set4_below hB0 (by omega) _ _ _ _) | (with_reducible exact set4_below (set4_below hB0 (by omega) _ _ _ _) (by omega) _ _ _ _) | (with_reducible exact set4_below (set4_below (set4_below (set4_below hB0 (by omega) _ _ _ _) (by omega) _ _ _ _) (by omega) _ _ _ _) (by omega) _ _ _ _) | go_grown))
    have hBa_ : wd.heap[w.heap.size]? = some (.cells #[.int .u64 x0, .int .u64 x1, .int .u64 x2, .int .u64 x3] 26 (0, 0)) := heap_keep' hb (by repeat (first | (with_reducible exact HBa.out) | (with_reducible exact set4 HBa.out _ _ _ _) | (with_reducible apply set4) | (with_reducible refine heap_new' ?_ _; simp; done) | (with_reducible refine keep4 ?_ (by omega) _ _ _ _) | (with_reducible refine heap_old ?_ _) | (with_reducible refine heap_drew ?_) | (with_reducible refine heap_set_ne ?_ (by simp <;> omega) _)))
    have hBb_ : wd.heap[w.heap.size + 1]? = some (.cells #[.int .u64 b0, .int .u64 b1, .int .u64 b2, .int .u64 b3] 26 (0, 0)) := heap_keep' hb (by repeat (first | (with_reducible exact HBb.out) | (with_reducible exact set4 HBb.out _ _ _ _) | (with_reducible apply set4) | (with_reducible refine heap_new' ?_ _; simp; done) | (with_reducible refine keep4 ?_ (by omega) _ _ _ _) | (with_reducible refine heap_old ?_ _) | (with_reducible refine heap_drew ?_) | (with_reducible refine heap_set_ne ?_ (by simp <;> omega) _)))
    have hBr_ : wd.heap[w.heap.size + 1 + 1]? = some (.cells #[.int .u64 0, .int .u64 0, .int .u64 0, .int .u64 0] 26 (0, 0)) := heap_keep' hb (by repeat (first | (with_reducible exact HBr.out) | (with_reducible exact set4 HBr.out _ _ _ _) | (with_reducible apply set4) | (with_reducible refine heap_new' ?_ _; simp; done) | (with_reducible refine keep4 ?_ (by omega) _ _ _ _) | (with_reducible refine heap_old ?_ _) | (with_reducible refine heap_drew ?_) | (with_reducible refine heap_set_ne ?_ (by simp <;> omega) _)))
    clear hb HB HBa cBa fBa zBa HBb cBb fBb zBb HBr cBr fBr zBr
    have HB := HBn; clear HBn
    have HBa := Lib.hid hBa_; have cBa := cells4 hBa_; have fBa := frozen_of hBa_; have zBa := lt_of_heap hBa_; clear hBa_
    have HBb := Lib.hid hBb_; have cBb := cells4 hBb_; have fBb := frozen_of hBb_; have zBb := lt_of_heap hBb_; clear hBb_
    have HBr := Lib.hid hBr_; have cBr := cells4 hBr_; have fBr := frozen_of hBr_; have zBr := lt_of_heap hBr_; clear hBr_
    clear hBt
    go_wp2_with (fail)
    go_at_call 53
    refine (HP.out _).mono ?_
    rintro e we ⟨rfl, hb⟩
    have HBn : Hid (Below w.heap.size w we) := Lib.hid ((fun (h : Below _ _ _) => below_call h h.size hb) (by have hB0 := HB.out; have hS0 := hB0.size; first | (with_reducible exact hB0) | (with_reducible exact set4_below hB0 (by omega) _ _ _ _) | (with_reducible exact set4_below (set4_below hB0 (by omega) _ _ _ _) (by omega) _ _ _ _) | (with_reducible exact set4_below (set4_below (set4_below (set4_below hB0 (by omega) _ _ _ _) (by omega) _ _ _ _) (by omega) _ _ _ _) (by omega) _ _ _ _) | go_grown))
    have hBa_ : we.heap[w.heap.size]? = some (.cells #[.int .u64 x0, .int .u64 x1, .int .u64 x2, .int .u64 x3] 26 (0, 0)) := heap_keep' hb (by repeat (first | (with_reducible exact HBa.out) | (with_reducible exact set4 HBa.out _ _ _ _) | (with_reducible apply set4) | (with_reducible refine heap_new' ?_ _; simp; done) | (with_reducible refine keep4 ?_ (by omega) _ _ _ _) | (with_reducible refine heap_old ?_ _) | (with_reducible refine heap_drew ?_) | (with_reducible refine heap_set_ne ?_ (by simp <;> omega) _)))
    have hBb_ : we.heap[w.heap.size + 1]? = some (.cells #[.int .u64 y0, .int .u64 y1, .int .u64 y2, .int .u64 y3] 26 (0, 0)) := heap_keep' hb (by repeat (first | (with_reducible exact HBb.out) | (with_reducible exact set4 HBb.out _ _ _ _) | (with_reducible apply set4) | (with_reducible refine heap_new' ?_ _; simp; done) | (with_reducible refine keep4 ?_ (by omega) _ _ _ _) | (with_reducible refine heap_old ?_ _) | (with_reducible refine heap_drew ?_) | (with_reducible refine heap_set_ne ?_ (by simp <;> omega) _)))
    have hBr_ : we.heap[w.heap.size + 1 + 1]? = some (.cells #[.int .u64 0, .int .u64 0, .int .u64 0, .int .u64 0] 26 (0, 0)) := heap_keep' hb (by repeat (first | (with_reducible exact HBr.out) | (with_reducible exact set4 HBr.out _ _ _ _) | (with_reducible apply set4) | (with_reducible refine heap_new' ?_ _; simp; done) | (with_reducible refine keep4 ?_ (by omega) _ _ _ _) | (with_reducible refine heap_old ?_ _) | (with_reducible refine heap_drew ?_) | (with_reducible refine heap_set_ne ?_ (by simp <;> omega) _)))
    clear hb HB HBa cBa fBa zBa HBb cBb fBb zBb HBr cBr fBr zBr
    have HB := HBn; clear HBn
    have HBa := Lib.hid hBa_; have cBa := cells4 hBa_; have fBa := frozen_of hBa_; have zBa := lt_of_heap hBa_; clear hBa_
    have HBb := Lib.hid hBb_; have cBb := cells4 hBb_; have fBb := frozen_of hBb_; have zBb := lt_of_heap hBb_; clear hBb_
    have HBr := Lib.hid hBr_; have cBr := cells4 hBr_; have fBr := frozen_of hBr_; have zBr := lt_of_heap hBr_; clear hBr_
    have kz1 := zBr
    go_wp2
    refine Rg.region_ (n := 36) [0, 0, 3, 7] [1, 1, 1, 0] [25, 26, 27, 28] [[(5, none)], [], [(25, some 0), (26, some 1)], [(27, some 2)]] 4 (by kernel_rfl) (by kernel_rfl) (by rfl) ?_
    intro W hW
    have hBa_ : W.heap[w.heap.size]? = some (.cells #[.int .u64 x0, .int .u64 x1, .int .u64 x2, .int .u64 x3] 26 (0, 0)) := by rw [hW]; exact (by repeat (first | (with_reducible exact HBa.out) | (with_reducible exact set4 HBa.out _ _ _ _) | (with_reducible apply set4) | (with_reducible refine heap_new' ?_ _; simp; done) | (with_reducible refine keep4 ?_ (by omega) _ _ _ _) | (with_reducible refine heap_old ?_ _) | (with_reducible refine heap_drew ?_) | (with_reducible refine heap_set_ne ?_ (by simp <;> omega) _)))
    have hBb_ : W.heap[w.heap.size + 1]? = some (.cells #[.int .u64 y0, .int .u64 y1, .int .u64 y2, .int .u64 y3] 26 (0, 0)) := by rw [hW]; exact (by repeat (first | (with_reducible exact HBb.out) | (with_reducible exact set4 HBb.out _ _ _ _) | (with_reducible apply set4) | (with_reducible refine heap_new' ?_ _; simp; done) | (with_reducible refine keep4 ?_ (by omega) _ _ _ _) | (with_reducible refine heap_old ?_ _) | (with_reducible refine heap_drew ?_) | (with_reducible refine heap_set_ne ?_ (by simp <;> omega) _)))
    have hBr_ : W.heap[w.heap.size + 1 + 1]? = some (.cells #[.int .u64 0, .int .u64 0, .int .u64 0, .int .u64 0] 26 (0, 0)) := by rw [hW]; exact (by repeat (first | (with_reducible exact HBr.out) | (with_reducible exact set4 HBr.out _ _ _ _) | (with_reducible apply set4) | (with_reducible refine heap_new' ?_ _; simp; done) | (with_reducible refine keep4 ?_ (by omega) _ _ _ _) | (with_reducible refine heap_old ?_ _) | (with_reducible refine heap_drew ?_) | (with_reducible refine heap_set_ne ?_ (by simp <;> omega) _)))
    have hBo_ : W.heap[we.heap.size]? = some (.cells #[.int .u64 t0, .int .u64 t1, .int .u64 t2, .int .u64 t3] 26 (0, 0)) := by rw [hW]; exact (by repeat (first | (with_reducible refine heap_new' ?_ _; simp; done) | (with_reducible refine keep4 ?_ (by omega) _ _ _ _) | (with_reducible refine heap_old ?_ _) | (with_reducible refine heap_drew ?_) | (with_reducible refine heap_set_ne ?_ (by simp <;> omega) _)))
    have HB0 : Below w.heap.size w W := by rw [hW]; have hB0 := HB.out; have hS0 := hB0.size; first | exact hB0.drew | exact (set4_below hB0 (by omega) _ _ _ _).drew | go_grown
    change Rg.Chain' _ _ _ _ _ [(0, 1, 25, [(5, none)]), (1, 1, 26, []), (2, 1, 27, [(25, some 0), (26, some 1)]), (3, 0, 28, [(27, some 2)])] [(0, 1, 25, [(5, none)]), (1, 1, 26, []), (2, 1, 27, [(25, some 0), (26, some 1)]), (3, 0, 28, [(27, some 2)])] _
    apply Rg.ch_def (by rfl) (fun a w1 _ => Rg.wanted_none (by rfl))
    · rintro a w1 hb ⟨e5, -⟩
      conv at e5 => rhs; whnf
      have n5 := e5
      simp only [Act.eval, Array.getD_eq_getD_getElem?] at n5
      apply Rg.gives_value
      · conv => lhs; simp [go_sem, n5, cells4 (heap_keep' hb hBa_), cells4 (heap_keep' hb hBb_), cells4 (heap_keep' hb hBr_), cells4 (heap_keep' hb hBo_)]
      · exact ⟨rfl, Below.refl _ _⟩
    apply Rg.ch_def (by rfl) (fun a w1 _ => Rg.wanted_none (by rfl))
    · rintro a w1 hb -
      apply Rg.gives_enter
      · exact run_call Try.func21 (by kernel_rfl) rfl #[] (by rfl) (by simp)
      · refine (HO.out _).mono ?_
        rintro e w2 ⟨rfl, hb2⟩
        exact ⟨_, rfl, rfl, hb2⟩
    apply Rg.ch_def (by rfl) (fun a w1 _ => Rg.wanted_none (by rfl))
    · rintro a w1 hb ⟨e25, e26, -⟩
      replace e25 : a.eval (.tmp 25) = _ := e25
      replace e26 : a.eval (.tmp 26) = _ := e26
      apply Rg.gives_enter
      · apply run_call Try.func40 (by kernel_rfl) rfl _ (by rfl)
        conv => lhs; simp only [List.map_toArray, List.map_cons, List.map_nil, eval_const_, eval_global_, e25, e26]
      · refine (HL.out _).mono ?_
        rintro e w2 ⟨rfl, hb2⟩
        exact ⟨_, rfl, rfl, hb2⟩
    apply Rg.ch_pure (by rfl)
    · rintro a w1 ⟨e27, -⟩
      replace e27 : a.eval (.tmp 27) = _ := e27
      have n27 := e27
      simp only [Act.eval, Array.getD_eq_getD_getElem?] at n27
      apply Rg.yields_run (Rg.wanted_none (by rfl))
      intro w2
      conv => lhs; simp [go_sem, n27]
    intro w1 hb1
    rintro _ rfl _ rfl _ rfl _ rfl
    change Go.wpList _ _ _ _ _ _
    simp only [List.drop_succ_cons, List.drop_zero, List.drop_nil, Act.put, List.setIfInBounds_toArray, List.set_cons_succ, List.set_cons_zero]
    change Go.NoPanic _ _ _ _
    refine NoPanic.normal ?_
    have HBn : Hid (Below w.heap.size w w1) := Lib.hid (below_call HB0 HB0.size hb1)
    have hBa__ := heap_keep' hb1 hBa_
    have hBb__ := heap_keep' hb1 hBb_
    have hBr__ := heap_keep' hb1 hBr_
    have hBo__ := heap_keep' hb1 hBo_
    clear hb1 HB0 HB hBa_ HBa cBa fBa zBa hBb_ HBb cBb fBb zBb hBr_ HBr cBr fBr zBr hBo_
    clear hW
    obtain ⟨wf, rfl⟩ : ∃ x : World, x = w1 := ⟨_, rfl⟩
    have HB := HBn; clear HBn
    have HBa := Lib.hid hBa__; have cBa := cells4 hBa__; have fBa := frozen_of hBa__; have zBa := lt_of_heap hBa__; clear hBa__
    have HBb := Lib.hid hBb__; have cBb := cells4 hBb__; have fBb := frozen_of hBb__; have zBb := lt_of_heap hBb__; clear hBb__
    have HBr := Lib.hid hBr__; have cBr := cells4 hBr__; have fBr := frozen_of hBr__; have zBr := lt_of_heap hBr__; clear hBr__
    have HBo := Lib.hid hBo__; have cBo := cells4 hBo__; have fBo := frozen_of hBo__; have zBo := lt_of_heap hBo__; clear hBo__
    go_wp2
    refine Rg.region_ (n := 36) [0, 0, 3, 7, 15, 15, 31] [1, 1, 1, 0, 0, 0, 2] [30, 31, 32, 29, 33, 34, 0] [[(5, none)], [], [(30, some 0), (31, some 1)], [(32, some 2)], [(29, some 3)], [(29, some 3)], [(5, none), (33, some 4)]] 6 (by kernel_rfl) (by kernel_rfl) (by rfl) ?_
    intro W hW
    have hBa_ : W.heap[w.heap.size]? = some (.cells #[.int .u64 x0, .int .u64 x1, .int .u64 x2, .int .u64 x3] 26 (0, 0)) := by rw [hW]; exact (by repeat (first | (with_reducible exact HBa.out) | (with_reducible exact set4 HBa.out _ _ _ _) | (with_reducible apply set4) | (with_reducible refine heap_new' ?_ _; simp; done) | (with_reducible refine keep4 ?_ (by omega) _ _ _ _) | (with_reducible refine heap_old ?_ _) | (with_reducible refine heap_drew ?_) | (with_reducible refine heap_set_ne ?_ (by simp <;> omega) _)))
    have hBb_ : W.heap[w.heap.size + 1]? = some (.cells #[.int .u64 y0, .int .u64 y1, .int .u64 y2, .int .u64 y3] 26 (0, 0)) := by rw [hW]; exact (by repeat (first | (with_reducible exact HBb.out) | (with_reducible exact set4 HBb.out _ _ _ _) | (with_reducible apply set4) | (with_reducible refine heap_new' ?_ _; simp; done) | (with_reducible refine keep4 ?_ (by omega) _ _ _ _) | (with_reducible refine heap_old ?_ _) | (with_reducible refine heap_drew ?_) | (with_reducible refine heap_set_ne ?_ (by simp <;> omega) _)))
    have hBr_ : W.heap[w.heap.size + 1 + 1]? = some (.cells #[.int .u64 0, .int .u64 0, .int .u64 0, .int .u64 0] 26 (0, 0)) := by rw [hW]; exact (by repeat (first | (with_reducible exact HBr.out) | (with_reducible exact set4 HBr.out _ _ _ _) | (with_reducible apply set4) | (with_reducible refine heap_new' ?_ _; simp; done) | (with_reducible refine keep4 ?_ (by omega) _ _ _ _) | (with_reducible refine heap_old ?_ _) | (with_reducible refine heap_drew ?_) | (with_reducible refine heap_set_ne ?_ (by simp <;> omega) _)))
    have hBo_ : W.heap[we.heap.size]? = some (.cells #[.int .u64 t0, .int .u64 t1, .int .u64 t2, .int .u64 t3] 26 (0, 0)) := by rw [hW]; exact (by repeat (first | (with_reducible exact HBo.out) | (with_reducible exact set4 HBo.out _ _ _ _) | (with_reducible apply set4) | (with_reducible refine heap_new' ?_ _; simp; done) | (with_reducible refine keep4 ?_ (by omega) _ _ _ _) | (with_reducible refine heap_old ?_ _) | (with_reducible refine heap_drew ?_) | (with_reducible refine heap_set_ne ?_ (by simp <;> omega) _)))
    have HB0 : Below w.heap.size w W := by rw [hW]; have hB0 := HB.out; have hS0 := hB0.size; first | exact hB0.drew | exact (set4_below hB0 (by omega) _ _ _ _).drew | go_grown
    change Rg.Chain' _ _ _ _ _ [(0, 1, 30, [(5, none)]), (1, 1, 31, []), (2, 1, 32, [(30, some 0), (31, some 1)]), (3, 0, 29, [(32, some 2)]), (4, 0, 33, [(29, some 3)]), (5, 0, 34, [(29, some 3)])] [(0, 1, 30, [(5, none)]), (1, 1, 31, []), (2, 1, 32, [(30, some 0), (31, some 1)]), (3, 0, 29, [(32, some 2)]), (4, 0, 33, [(29, some 3)]), (5, 0, 34, [(29, some 3)])] _
    apply Rg.ch_def (by rfl) (fun a w1 _ => Rg.wanted_none (by rfl))
    · rintro a w1 hb ⟨e5, -⟩
      conv at e5 => rhs; whnf
      have n5 := e5
      simp only [Act.eval, Array.getD_eq_getD_getElem?] at n5
      apply Rg.gives_value
      · conv => lhs; simp [go_sem, n5, cells4 (heap_keep' hb hBa_), cells4 (heap_keep' hb hBb_), cells4 (heap_keep' hb hBr_), cells4 (heap_keep' hb hBo_)]
      · exact ⟨rfl, Below.refl _ _⟩
    apply Rg.ch_def (by rfl) (fun a w1 _ => Rg.wanted_none (by rfl))
    · rintro a w1 hb -
      apply Rg.gives_enter
      · exact run_call Try.func21 (by kernel_rfl) rfl #[] (by rfl) (by simp)
      · refine (HO.out _).mono ?_
        rintro e w2 ⟨rfl, hb2⟩
        exact ⟨_, rfl, rfl, hb2⟩
    apply Rg.ch_def (by rfl) (fun a w1 _ => Rg.wanted_none (by rfl))
    · rintro a w1 hb ⟨e30, e31, -⟩
      replace e30 : a.eval (.tmp 30) = _ := e30
      replace e31 : a.eval (.tmp 31) = _ := e31
      apply Rg.gives_enter
      · apply run_call Try.func47 (by kernel_rfl) rfl _ (by rfl)
        conv => lhs; simp only [List.map_toArray, List.map_cons, List.map_nil, eval_const_, eval_global_, e30, e31]
      · refine (HM.out _).mono ?_
        rintro e w2 ⟨rfl, hb2⟩
        exact ⟨_, rfl, rfl, hb2⟩
    apply Rg.ch_pure (by rfl)
    · rintro a w1 ⟨e32, -⟩
      replace e32 : a.eval (.tmp 32) = _ := e32
      have n32 := e32
      simp only [Act.eval, Array.getD_eq_getD_getElem?] at n32
      apply Rg.yields_run (Rg.wanted_none (by rfl))
      intro w2
      conv => lhs; simp [go_sem, n32]
    apply Rg.ch_pure (by rfl)
    · rintro a w1 ⟨e29, -⟩
      replace e29 : a.eval (.tmp 29) = _ := e29
      have n29 := e29
      simp only [Act.eval, Array.getD_eq_getD_getElem?] at n29
      apply Rg.yields_run (Rg.wanted_none (by rfl))
      intro w2
      conv => lhs; simp [go_sem, n29]
    apply Rg.ch_pure (by rfl)
    · rintro a w1 ⟨e29, -⟩
      replace e29 : a.eval (.tmp 29) = _ := e29
      have n29 := e29
      simp only [Act.eval, Array.getD_eq_getD_getElem?] at n29
      apply Rg.yields_run (Rg.wanted_none (by rfl))
      intro w2
      conv => lhs; simp [go_sem, n29]
    intro w1 hb1
    rintro _ rfl _ rfl _ rfl _ rfl _ rfl _ rfl
    change Go.wpList _ _ _ _ _ _
    simp only [List.drop_succ_cons, List.drop_zero, List.drop_nil, Act.put, List.setIfInBounds_toArray, List.set_cons_succ, List.set_cons_zero]
    have HBn : Hid (Below w.heap.size w w1) := Lib.hid (below_call HB0 HB0.size hb1)
    have hBa__ := heap_keep' hb1 hBa_
    have hBb__ := heap_keep' hb1 hBb_
    have hBr__ := heap_keep' hb1 hBr_
    have hBo__ := heap_keep' hb1 hBo_
    clear hb1 HB0 HB hBa_ HBa cBa fBa zBa hBb_ HBb cBb fBb zBb hBr_ HBr cBr fBr zBr hBo_ HBo cBo fBo zBo
    clear hW
    obtain ⟨wg, rfl⟩ : ∃ x : World, x = w1 := ⟨_, rfl⟩
    have HB := HBn; clear HBn
    have HBa := Lib.hid hBa__; have cBa := cells4 hBa__; have fBa := frozen_of hBa__; have zBa := lt_of_heap hBa__; clear hBa__
    have HBb := Lib.hid hBb__; have cBb := cells4 hBb__; have fBb := frozen_of hBb__; have zBb := lt_of_heap hBb__; clear hBb__
    have HBr := Lib.hid hBr__; have cBr := cells4 hBr__; have fBr := frozen_of hBr__; have zBr := lt_of_heap hBr__; clear hBr__
    have HBo := Lib.hid hBo__; have cBo := cells4 hBo__; have fBo := frozen_of hBo__; have zBo := lt_of_heap hBo__; clear hBo__
    go_wp2
    refine NoPanic.normal ?_
    go_wp2
    have hK := set4 (keep4 (b' := we.heap.size) HBr.out (by omega) (.int .u64 d0) (.int .u64 d1) (.int .u64 d2) (.int .u64 d3)) (.int .u64 d0) (.int .u64 d1) (.int .u64 d2) (.int .u64 d3)
    have hL := set4_below (set4_below HB.out (b := we.heap.size) (by omega) (.int .u64 d0) (.int .u64 d1) (.int .u64 d2) (.int .u64 d3)) (b := w.heap.size + 1 + 1) (by omega) (.int .u64 d0) (.int .u64 d1) (.int .u64 d2) (.int .u64 d3)
    have hQ := cells4 hK
    exact bodyPost_ret (v := .agg #[.int .u64 d0, .int .u64 d1, .int .u64 d2, .int .u64 d3]) (by simp [results, Try.results27, go_sem, hQ]) rfl ⟨rfl, hL⟩

end Go.Proofs.Ytgeldhdijochdaa
/- A region that draws its order and makes several variables: besides what each operation leaves, the new variables' blocks are pairwise other ones. Conditions: none. -/
namespace Go.Proofs.Ytgeldhdijochdaa.Rg
set_option linter.unusedVariables false
set_option linter.unusedSimpArgs false
open Go Go.RowKit

section
variable {P : Program} {ops : Array Oper} {A K : List Nat}

def blkOf : Value → Option Nat
  | .pointer (some x) => some x.block
  | _ => none
/-- An operation that makes a variable, whatever comes. -/
def isNew (o : Oper) : Bool := (match o.op with | .alloc _ => true | _ => false) && o.guard.isNone
theorem isNew_spec {o : Oper} (h : isNew o = true) : (∃ t, o.op = .alloc t) ∧ o.guard = none := by
  unfold isNew at h
  rw [Bool.and_eq_true] at h
  refine ⟨?_, by simpa using h.2⟩
  cases ho : o.op <;> simp [ho] at h ⊢

/-- The variables that are made lie in blocks of their own. -/
def Dist (ops : Array Oper) (a : Act) : Prop := ∀ (i j : Nat) (oi oj : Oper) (si sj : Tmp), i ≠ j → ops[i]? = some oi → ops[j]? = some oj → isNew oi = true → isNew oj = true → oi.dst = some si → oj.dst = some sj →
  blkOf (a.eval (.tmp si)) ≠ blkOf (a.eval (.tmp sj))

structure Fr (ops : Array Oper) (L : Array Bool) (a : Act) (w : World) : Prop where
  lt : ∀ (i : Nat) (o : Oper) (s : Tmp), ops[i]? = some o → isNew o = true → L.getD i false = true → o.dst = some s → ∃ b, blkOf (a.eval (.tmp s)) = some b ∧ b < w.heap.size
  ne : ∀ (i j : Nat) (oi oj : Oper) (si sj : Tmp), i ≠ j → ops[i]? = some oi → ops[j]? = some oj → isNew oi = true → isNew oj = true → L.getD i false = true → L.getD j false = true → oi.dst = some si → oj.dst = some sj →
    blkOf (a.eval (.tmp si)) ≠ blkOf (a.eval (.tmp sj))

theorem zero_world {P : Program} {w w' : World} {t : TypeId} {z : Value} (h : (zeroValue t).run P w = .ok z w') : w' = w := by
  have hT : ∀ {i : TypeInfo} {w1 : World}, (typeInfo t).run P w = .ok i w1 → w1 = w := by
    intro i w1 h
    simp only [typeInfo, Sem.run_bind, run_program, Result.andThen] at h
    split at h <;> simp_all
  simp only [zeroValue, Sem.run_bind] at h
  cases hi : (typeInfo t).run P w with
  | halt _ _ => simp [hi, Result.andThen] at h
  | ok i w1 =>
    have e := hT hi
    subst e
    simp only [hi, Result.andThen] at h
    split at h <;> simp_all

theorem gives_new {o : Oper} {a : Act} {w : World} {R : Value → World → Prop} (hn : isNew o = true) (h : gives P o a w R) : gives P o a w fun v w' => R v w' ∧ (blkOf v = some w.heap.size ∧ w.heap.size < w'.heap.size) := by
  obtain ⟨⟨t, ht⟩, _⟩ := isNew_spec hn
  unfold gives at *
  have e : (execOp a.eval o).run P w = match (zeroValue t).run P w with
      | .ok z w1 => .ok (.value (.pointer (some ⟨w1.heap.size, 0, none⟩))) (w1.alloc (.cells z.cells t))
      | .halt x w1 => .halt x w1 := by
    simp only [execOp, ht, Instr.alloc, Sem.run_bind]
    cases (zeroValue t).run P w with
    | ok z w1 => simp [Result.andThen, newVar]; rfl
    | halt x w1 => rfl
  rw [e] at h ⊢
  cases hz : (zeroValue t).run P w with
  | halt x w1 => rw [hz] at h; exact h.elim
  | ok z w1 =>
    rw [hz] at h
    obtain rfl := zero_world hz
    exact ⟨h, rfl, by simp⟩

theorem Fr.put (hc : Check ops A K) {L : Array Bool} {a : Act} {w w' : World} (h : Fr ops L a w) (hL : L.size = ops.size) {i : Nat} {o : Oper} {s : Tmp} (ho : ops[i]? = some o) (hs : o.dst = some s) (hlt : s < a.tmps.size) {v : Value}
    (hb : w.heap.size ≤ w'.heap.size) (hv : isNew o = true → blkOf v = some w.heap.size ∧ w.heap.size < w'.heap.size) : Fr ops (L.setIfInBounds i true) (a.put o.dst v) w' := by
  have hsz := (Array.getElem?_eq_some_iff.1 ho).1
  have hLi : i < L.size := by rw [hL]; exact hsz
  have hev : ∀ (j : Nat) (oj : Oper) (t : Tmp), j ≠ i → ops[j]? = some oj → oj.dst = some t → (a.put o.dst v).eval (.tmp t) = a.eval (.tmp t) := fun j oj t hji hj ht =>
    Act.eval_put fun d hd he => by
      rw [hs] at hd; injection hd with hd; injection he with he
      have e : t = s := he.trans hd.symm
      subst e
      have h1 := hc.one i o t ho hs
      have h2 := hc.one j oj t hj ht
      rw [h1] at h2
      injection h2 with h2
      exact hji h2.symm
  have hsf : (a.put o.dst v).eval (.tmp s) = v := by rw [hs, eval_put_self hlt]
  constructor
  · intro j oj t hj hn hl ht
    by_cases hji : j = i
    · subst hji
      have e : oj = o := Option.some.inj (hj.symm.trans ho)
      subst e
      have e : t = s := Option.some.inj (ht.symm.trans hs)
      subst e
      rw [hsf]
      exact ⟨_, (hv hn).1, (hv hn).2⟩
    · rw [getD_set hLi, if_neg (Ne.symm hji)] at hl
      obtain ⟨b, hb1, hb2⟩ := h.lt j oj t hj hn hl ht
      rw [hev j oj t hji hj ht]
      exact ⟨b, hb1, by omega⟩
  · intro j k oj ok t u hjk hj hk hnj hnk hlj hlk ht hu
    by_cases hji : j = i
    · subst hji
      have e : oj = o := Option.some.inj (hj.symm.trans ho)
      subst e
      have e : t = s := Option.some.inj (ht.symm.trans hs)
      subst e
      rw [getD_set hLi, if_neg hjk] at hlk
      obtain ⟨b, hb1, hb2⟩ := h.lt k ok u hk hnk hlk hu
      rw [hsf, hev k ok u (Ne.symm hjk) hk hu, hb1, (hv hnj).1]
      intro e
      injection e with e
      omega
    · by_cases hki : k = i
      · subst hki
        have e : ok = o := Option.some.inj (hk.symm.trans ho)
        subst e
        have e : u = s := Option.some.inj (hu.symm.trans hs)
        subst e
        rw [getD_set hLi, if_neg (Ne.symm hji)] at hlj
        obtain ⟨b, hb1, hb2⟩ := h.lt j oj t hj hnj hlj ht
        rw [hsf, hev j oj t hji hj ht, hb1, (hv hnk).1]
        intro e
        injection e with e
        omega
      · rw [getD_set hLi, if_neg (Ne.symm hji)] at hlj
        rw [getD_set hLi, if_neg (Ne.symm hki)] at hlk
        rw [hev j oj t hji hj ht, hev k ok u hki hk hu]
        exact h.ne j k oj ok t u hjk hj hk hnj hnk hlj hlk ht hu

theorem finish2 (hc : Check ops A K) {Q : Exit → Act → World → Prop} {W : World} {a0 : Act} {sp : Nat → World → Value → Prop}
    (hsl : ∀ (i : Nat) (o : Oper) (s : Tmp), ops[i]? = some o → o.dst = some s → s < a0.tmps.size) (hnk : ∀ (i : Nat) (o : Oper), ops[i]? = some o → isNew o = true → at_ K i = 1)
    (hfin : ∀ w, Below W.heap.size W w → Fin ops sp (fun b w => Dist ops b → wpList P ops (NoPanic Q) ((tailL ops K).filterMap (ops[·]?)) b w) w (headL ops K) a0)
    {n : Nat} (L : Array Bool) (a : Act) (w : World) (hn : unl ops L = n) (hI : Inv ops K sp W a0 L a w) (hF : Fr ops L a w) (hdone : ∀ j, j < ops.size → at_ K j ≠ 2 → L.getD j false = true) : wpAny P .any ops (NoPanic Q) n L a w := by
  rw [← hn]
  refine tail_any hc (tailL ops K) L a w hI.size (List.Pairwise.sublist List.filter_sublist List.pairwise_lt_range) (fun j hj => ?_) (fun j hj => ?_) hI.closed ?_
  · unfold tailL at hj
    rw [List.mem_filter, List.mem_range] at hj
    exact ⟨hj.1, by simpa using hj.2⟩
  · unfold tailL
    rw [List.mem_filter, List.mem_range]
    constructor
    · intro hl
      refine ⟨hj, ?_⟩
      by_cases hk : at_ K j = 2
      · simp [hk]
      · rw [hdone j hj hk] at hl; cases hl
    · rintro ⟨_, hk⟩
      exact hI.notail j hj (by simpa using hk)
  · have hmemh : ∀ d, d ∈ headL ops K → d < ops.size ∧ at_ K d ≠ 2 := fun d hd => by
      unfold headL at hd
      rw [List.mem_filter, List.mem_range] at hd
      exact ⟨hd.1, by simpa using hd.2⟩
    have hw : ∀ d, d < ops.size → ∀ s, dstOf ops d = some s → writerOf ops s = some d := fun d hd s hs => by
      have ho : ops[d]? = some ops[d] := by rw [Array.getElem?_eq_getElem]
      refine hc.one d ops[d] s ho ?_
      unfold dstOf at hs
      rw [ho] at hs
      exact hs
    have hf := fin_apply (fun d => match dstOf ops d with | some s => a.eval (.tmp s) | none => undef) (headL ops K) a0 (hfin w hI.below) (fun d hd => by
      obtain ⟨hlt, hk⟩ := hmemh d hd
      have ho : ops[d]? = some ops[d] := by rw [Array.getElem?_eq_getElem]
      obtain ⟨s, hs⟩ := (hc.heads d ops[d] ho hk).1
      have hds : dstOf ops d = some s := by unfold dstOf; rw [ho]; exact hs
      simp only [hds]
      have h1 := hI.slot s
      rw [hw d hlt s hds] at h1
      simp only at h1
      rw [if_pos (hdone d hlt hk)] at h1
      exact h1)
    have hpf := puts_facts (ops := ops) (fun d => match dstOf ops d with | some s => a.eval (.tmp s) | none => undef) (headL ops K) a0
    have e : (headL ops K).foldl (fun b d => b.put (dstOf ops d) (match dstOf ops d with | some s => a.eval (.tmp s) | none => undef)) a0 = a := by
      refine act_ext (hpf.1.trans hI.defers.symm) (hpf.2.trans hI.tmps.symm) fun s => ?_
      have h1 := hI.slot s
      by_cases hx : ∃ d, d ∈ headL ops K ∧ dstOf ops d = some s
      · obtain ⟨d, hd, hds⟩ := hx
        obtain ⟨hlt, hk⟩ := hmemh d hd
        have hu : ∀ x ∈ headL ops K, dstOf ops x = some s → x = d := fun x hx hxs => by
          have h2 := hw x (hmemh x hx).1 s hxs
          rw [hw d hlt s hds] at h2
          injection h2 with h2
          exact h2.symm
        have hlts : s < a0.tmps.size := hsl d ops[d] s (by rw [Array.getElem?_eq_getElem]) (by unfold dstOf at hds; rw [Array.getElem?_eq_getElem hlt] at hds; exact hds)
        rw [puts_some _ s d hds _ _ hd hu hlts]
        simp only [hds]
      · rw [puts_none _ s _ _ fun d hd hds => hx ⟨d, hd, hds⟩]
        split at h1
        · rename_i d hd
          have hdlt : d < ops.size := by
            unfold writerOf at hd
            exact List.mem_range.1 (List.mem_of_find?_eq_some hd)
          have hds : dstOf ops d = some s := by
            unfold writerOf at hd
            have := List.find?_some hd
            unfold dstOf
            simpa using this
          have hnl : L.getD d false = false := by
            by_cases hk : at_ K d = 2
            · exact hI.notail d hdlt hk
            · exact absurd ⟨d, by unfold headL; rw [List.mem_filter, List.mem_range]; exact ⟨hdlt, by simpa using hk⟩, hds⟩ hx
          rw [if_neg (by rw [hnl]; exact Bool.false_ne_true)] at h1
          exact h1.symm
        · exact h1.symm
    rw [e] at hf
    have hK2 : ∀ i o, ops[i]? = some o → isNew o = true → L.getD i false = true := fun i o ho hn => hdone i (Array.getElem?_eq_some_iff.1 ho).1 (by rw [hnk i o ho hn]; decide)
    exact hf fun i j oi oj si sj hij hi hj hni hnj hsi hsj => hF.ne i j oi oj si sj hij hi hj hni hnj (hK2 i oi hi hni) (hK2 j oj hj hnj) hsi hsj

theorem inv_any2 (hc : Check ops A K) {Q : Exit → Act → World → Prop} {W : World} {a0 : Act} {sp : Nat → World → Value → Prop}
    (hsl : ∀ (i : Nat) (o : Oper) (s : Tmp), ops[i]? = some o → o.dst = some s → s < a0.tmps.size) (hnk : ∀ (i : Nat) (o : Oper), ops[i]? = some o → isNew o = true → at_ K i = 1)
    (hst : ∀ i, i < ops.size → at_ K i ≠ 2 → Stable (sp i) ∧ StepOK P ops A K W a0 sp i (sp i))
    (hfin : ∀ w, Below W.heap.size W w → Fin ops sp (fun b w => Dist ops b → wpList P ops (NoPanic Q) ((tailL ops K).filterMap (ops[·]?)) b w) w (headL ops K) a0) :
    ∀ (n : Nat) (L : Array Bool) (a : Act) (w : World), unl ops L = n → Inv ops K sp W a0 L a w → Fr ops L a w → wpAny P .any ops (NoPanic Q) n L a w := by
  intro n
  induction n with
  | zero =>
    intro L a w hn hI hF
    have hall : ∀ j, j < ops.size → L.getD j false = true := fun j hj => by
      unfold unl at hn
      rw [List.countP_eq_zero] at hn
      simpa using hn j (List.mem_range.2 hj)
    exact finish2 hc hsl hnk hfin L a w hn hI hF (fun j hj _ => hall j hj)
  | succ n ih =>
    intro L a w hn hI hF
    by_cases hdone : ∀ j, j < ops.size → at_ K j ≠ 2 → L.getD j false = true
    · exact finish2 hc hsl hnk hfin L a w hn hI hF hdone
    · have hex : ∃ j, j < ops.size ∧ at_ K j ≠ 2 ∧ L.getD j false = false := by
        apply Classical.byContradiction
        intro hno
        exact hdone fun j hj hk => by
          cases hl : L.getD j false with
          | true => rfl
          | false => exact absurd ⟨j, hj, hk, hl⟩ hno
      obtain ⟨j0, hj0⟩ := hex
      obtain ⟨h, ⟨hh1, hh2, hh3⟩, hmin⟩ := least_unl (p := fun j => j < ops.size ∧ at_ K j ≠ 2 ∧ L.getD j false = false) j0 hj0
      obtain ⟨oh, hoh⟩ : ∃ o, ops[h]? = some o := ⟨ops[h], by rw [Array.getElem?_eq_getElem]⟩
      have hhr : h ∈ Region.ready .any ops L := by
        have hL : h < L.size := by rw [hI.size]; exact hh1
        refine mem_ready.2 ⟨by simp [hL] at hh3 ⊢; exact hh3, oh, hoh, fun e he hb => ?_⟩
        have hlt := (hc.anc h oh hoh).2 e he hb
        have hk := (hc.heads h oh hoh hh2).2 e he hb
        cases hl : L.getD e.on false with
        | true => rfl
        | false => exact absurd ⟨by omega, hk, hl⟩ (hmin e.on hlt)
      have hlt0 : ∀ (i : Nat) (o : Oper) (s : Tmp), ops[i]? = some o → o.dst = some s → s < a.tmps.size := fun i o s ho hs => by rw [hI.tmps]; exact hsl i o s ho hs
      by_cases hpure : ∃ i, i ∈ Region.ready .any ops L ∧ at_ K i = 0
      · obtain ⟨i, hi, hk0⟩ := hpure
        obtain ⟨_, o, ho, hall⟩ := mem_ready.1 hi
        have hlt := (Array.getElem?_eq_some_iff.1 ho).1
        have hk : at_ K i ≠ 2 := by omega
        obtain ⟨s, hs⟩ := (hc.heads i o ho hk).1
        have hstep := (hst i hlt hk).2
        unfold StepOK at hstep
        simp only [ho] at hstep
        have h1 := hstep a w hI.below (hI.reads hc ho hi hk)
        rw [if_pos hk0] at h1
        obtain ⟨v, hy, hv⟩ := h1
        have hcount := unl_set (ops := ops) (i := i) hlt (by rw [hI.size]; exact hlt) (getD_of_ready hi)
        refine wpAny_first ho (fun j o cs b hj => Region.noSelect_spec hc.sel j o cs b hj) (fun c a w hq => hq.elim) n L a w (fun j oj hj hne hun hno => ?_) hi hy ?_
        · rcases hc.pure_ i o ho hk0 j oj hj hne with ⟨e, he, hb, hon⟩ | hb | hap
          · exact absurd hon (hno e he hb)
          · have := closed_anc hc hI.closed i o ho hall j hb
            have hjl : j < L.size := by rw [hI.size]; exact (Array.getElem?_eq_some_iff.1 hj).1
            simp [hjl] at this hun
            rw [this] at hun
            cases hun
          · exact hap
        · exact ih _ _ _ (by omega) (hI.put hc ho hi hk hs (hsl i o s ho hs) (fun j hj hkj => (hst j hj hkj).1) (Below.refl _ _) hI.below hv)
            (hF.put hc hI.size ho hs (hlt0 i o s ho hs) (Nat.le_refl _) fun hn => by rw [hnk i o ho hn] at hk0; cases hk0)
      · refine ⟨fun h0 => absurd hhr (by rw [h0]; exact List.not_mem_nil), fun i hi => ?_⟩
        obtain ⟨_, o, ho, hall⟩ := mem_ready.1 hi
        have hlt := (Array.getElem?_eq_some_iff.1 ho).1
        have hk0 : at_ K i ≠ 0 := fun e => hpure ⟨i, hi, e⟩
        have hk : at_ K i ≠ 2 := by
          intro hk2
          have hkh : at_ K h ≠ 0 := fun e => hpure ⟨h, hhr, e⟩
          have := closed_anc hc hI.closed i o ho hall h ((hc.tails i o ho hk2).1 h hh1 hkh hh2)
          rw [hh3] at this
          cases this
        obtain ⟨s, hs⟩ := (hc.heads i o ho hk).1
        have hstep := (hst i hlt hk).2
        unfold StepOK at hstep
        simp only [ho] at hstep
        have h1 := hstep a w hI.below (hI.reads hc ho hi hk)
        rw [if_neg hk0] at h1
        have hcount := unl_set (ops := ops) (i := i) hlt (by rw [hI.size]; exact hlt) (getD_of_ready hi)
        unfold wpOp
        simp only [ho]
        split
        · rename_i hw
          by_cases hn : isNew o = true
          · exact .inl (wp_of_gives (gives_new hn (h1.1 hw)) fun v w' ⟨⟨hb, hv⟩, hnw⟩ => ih _ _ _ (by omega) (hI.put hc ho hi hk hs (hsl i o s ho hs) (fun j hj hkj => (hst j hj hkj).1) hb (hI.below.trans (hb.mono hI.below.size)) hv)
              (hF.put hc hI.size ho hs (hlt0 i o s ho hs) hb.size fun _ => hnw))
          · exact .inl (wp_of_gives (h1.1 hw) fun v w' ⟨hb, hv⟩ => ih _ _ _ (by omega) (hI.put hc ho hi hk hs (hsl i o s ho hs) (fun j hj hkj => (hst j hj hkj).1) hb (hI.below.trans (hb.mono hI.below.size)) hv)
              (hF.put hc hI.size ho hs (hlt0 i o s ho hs) hb.size fun h => absurd h hn))
        · rename_i hw
          exact ih _ _ _ (by omega) (hI.put hc ho hi hk hs (hsl i o s ho hs) (fun j hj hkj => (hst j hj hkj).1) (Below.refl _ _) hI.below (h1.2 (by simpa using hw)))
            (hF.put hc hI.size ho hs (hlt0 i o s ho hs) (Nat.le_refl _) fun hn => by
              have := (isNew_spec hn).2
              simp [Region.wanted, this] at hw)

def newB (ops : Array Oper) (K : List Nat) : Bool := (List.range ops.size).all fun i => match ops[i]? with | some o => !isNew o || at_ K i == 1 | none => true

theorem rep_false (n j : Nat) : (Array.replicate n false).getD j false = false := by
  rcases Nat.lt_or_ge j n with hj | hj <;> simp [hj]

theorem region2_ {l : List Oper} {id n : Nat} {Q : Exit → Act → World → Prop} {a : Act} {w : World} (A K : List Nat) (D : List Tmp) (R : List (List (Tmp × Option Nat))) (m : Nat) (hm : P.follows .mixedOrders = true)
    (hB : (allB l.toArray n A K D R m && newB l.toArray K) = true) (hn : a.tmps.size = n)
    (h : ∀ W, W = w.drew → Chain' P l.toArray W a (fun b w => Dist l.toArray b → wpList P l.toArray (NoPanic Q) (l.drop m) b w) ((headL l.toArray K).map fun i => (i, at_ K i, D.getD i 0, R.getD i [])) ((headL l.toArray K).map fun i => (i, at_ K i, D.getD i 0, R.getD i [])) (fun _ _ _ => True)) : (Code.region id l.toArray true).wp P Q a w := by
  simp only [allB, Bool.and_eq_true] at hB
  obtain ⟨⟨⟨⟨⟨h1, h2⟩, h3⟩, h4⟩, h5⟩, h6⟩ := hB
  have hc := check_of h1
  refine wp_region_noPanic (wp_region_any hm ?_)
  have hsl : ∀ (i : Nat) (o : Oper) (s : Tmp), l.toArray[i]? = some o → o.dst = some s → s < a.tmps.size := fun i o s ho hs => by
    have hmem : o ∈ l.toArray.toList := by simpa using Array.mem_of_getElem? ho
    have := List.all_eq_true.1 h2 o hmem
    simp only [hs, decide_eq_true_eq] at this
    rw [hn]; exact this
  have hnk : ∀ (i : Nat) (o : Oper), l.toArray[i]? = some o → isNew o = true → at_ K i = 1 := fun i o ho hno => by
    have := List.all_eq_true.1 h6 i (List.mem_range.2 (Array.getElem?_eq_some_iff.1 ho).1)
    simpa [ho, hno] using this
  have hmem : ∀ i, i < l.toArray.size → at_ K i ≠ 2 → i ∈ headL l.toArray K := fun i hi hk => by
    unfold headL
    rw [List.mem_filter, List.mem_range]
    exact ⟨hi, by simpa using hk⟩
  have hh : Chain P l.toArray A K w.drew a (headL l.toArray K) (fun b w => Dist l.toArray b → wpList P l.toArray (NoPanic Q) ((tailL l.toArray K).filterMap (l.toArray[·]?)) b w) (headL l.toArray K) (fun _ _ _ => True) := by
    refine chain_of (D := D) h3 (fun i hi => ?_) _ _ (fun i hi => ?_) ?_
    · have := List.all_eq_true.1 h4 i hi
      simpa using this
    · unfold headL at hi
      rw [List.mem_filter, List.mem_range] at hi
      exact hi.1
    · rw [beq_iff_eq] at h5
      rw [h5]
      have := drop_range l m
      rw [show l.toArray.size = l.length from rfl, this]
      exact h _ rfl
  obtain ⟨sp, _, h7, h8⟩ := chain_all hc (headL l.toArray K) _ (List.Pairwise.sublist List.filter_sublist List.pairwise_lt_range) (fun i hi => by
    unfold headL at hi
    rw [List.mem_filter, List.mem_range] at hi
    exact hi.1) hh
  have hrep := rep_false l.toArray.size
  have hunl : unl l.toArray (Array.replicate l.toArray.size false) = l.toArray.size := by
    unfold unl
    rw [List.countP_eq_length.2 fun i _ => by rw [hrep i, Bool.not_false], List.length_range]
  refine inv_any2 hc hsl hnk (fun i hi hk => h7 i (hmem i hi hk)) h8 _ _ _ _ hunl ⟨by simp, fun j oj _ hl => absurd hl (by rw [hrep j]; exact Bool.false_ne_true), fun j _ _ => hrep j, rfl, rfl, Below.refl _ _, fun s => ?_⟩
    ⟨fun i o s _ _ hl => absurd hl (by rw [hrep i]; exact Bool.false_ne_true), fun i j oi oj si sj _ _ _ _ _ hl => absurd hl (by rw [hrep i]; exact Bool.false_ne_true)⟩
  split
  · rename_i d _
    rw [hrep d]
    exact if_neg Bool.false_ne_true ▸ rfl
  · rfl
end
end Go.Proofs.Ytgeldhdijochdaa.Rg
/- A region that draws its order, where an operation may write on into a row of the call's own: what all operations keep is a relation St between worlds that the caller names. Conditions: none. -/
namespace Go.Proofs.Ytgeldhdijochdaa.Rg
set_option linter.unusedVariables false
set_option linter.unusedSimpArgs false
open Go Go.RowKit

section
variable {P : Program} {ops : Array Oper} {A K : List Nat} {St : World → World → Prop}

def StableS (St : World → World → Prop) (g : World → Value → Prop) : Prop := ∀ w w' v, St w w' → g w v → g w' v
theorem stable_isS (u : Value) : StableS St (Is u) := fun _ _ _ _ h => h

def StepOKS (St : World → World → Prop) (P : Program) (ops : Array Oper) (A K : List Nat) (W : World) (a0 : Act) (sp : Nat → World → Value → Prop) (i : Nat) (g : World → Value → Prop) : Prop :=
  match ops[i]? with
  | none => True
  | some o => ∀ a w, Below W.heap.size W w → ReadL ops A sp a0 i a w (o.looksAt ops) →
    if at_ K i = 0 then ∃ v, Yields P ops o v a ∧ g w v
    else (Region.wanted o (yielded ops a.tmps) = true → gives P o a w fun v w' => St w w' ∧ g w' v) ∧ (Region.wanted o (yielded ops a.tmps) = false → g w undef)

def ChainS (St : World → World → Prop) (P : Program) (ops : Array Oper) (A K : List Nat) (W : World) (a0 : Act) (hd : List Nat) (T : Act → World → Prop) : List Nat → (Nat → World → Value → Prop) → Prop
  | [], sp => ∀ w, Below W.heap.size W w → Fin ops sp T w hd a0
  | i :: r, sp => ∃ g, StableS St g ∧ StepOKS St P ops A K W a0 sp i g ∧ ChainS St P ops A K W a0 hd T r fun j => if j = i then g else sp j

theorem step_congrS {W : World} {a0 : Act} {sp sp' : Nat → World → Value → Prop} {i : Nat} {g : World → Value → Prop} (h : ∀ d, (at_ A i).testBit d = true → sp' d = sp d)
    (hs : StepOKS St P ops A K W a0 sp i g) : StepOKS St P ops A K W a0 sp' i g := by
  unfold StepOKS at *
  split
  · trivial
  · rename_i o ho
    simp only [ho] at hs
    exact fun a w hB hr => hs a w hB (read_congr h _ hr)

theorem chain_allS (hc : Check ops A K) {W : World} {a0 : Act} {hd : List Nat} {T : Act → World → Prop} : ∀ (todo : List Nat) (sp : Nat → World → Value → Prop), todo.Pairwise (· < ·) → (∀ i ∈ todo, i < ops.size) →
    ChainS St P ops A K W a0 hd T todo sp → ∃ sp' : Nat → World → Value → Prop, (∀ j, j ∉ todo → sp' j = sp j) ∧ (∀ i ∈ todo, StableS St (sp' i) ∧ StepOKS St P ops A K W a0 sp' i (sp' i)) ∧ ∀ w, Below W.heap.size W w → Fin ops sp' T w hd a0
  | [], sp, _, _, h => ⟨sp, fun _ _ => rfl, fun _ hi => (nomatch hi), h⟩
  | i :: r, sp, hp, hlt, h => by
    obtain ⟨g, hg, hs, h⟩ := h
    rw [List.pairwise_cons] at hp
    obtain ⟨sp', h1, h2, h3⟩ := chain_allS hc r _ hp.2 (fun j hj => hlt j (by simp [hj])) h
    have hir : i ∉ r := fun hi => Nat.lt_irrefl _ (hp.1 i hi)
    have hi : sp' i = g := by rw [h1 i hir, if_pos rfl]
    have hlt' := hlt i (by simp)
    have hk : ∀ d, (at_ A i).testBit d = true → sp' d = sp d := fun d hdd => by
      have hlt := anc_lt hc i ops[i] (by rw [Array.getElem?_eq_getElem hlt']) d hdd
      rw [h1 d (fun hd => by have := hp.1 d hd; omega), if_neg (by omega)]
    refine ⟨sp', fun j hj => ?_, fun j hj => ?_, h3⟩
    · rw [List.mem_cons, not_or] at hj
      rw [h1 j hj.2, if_neg hj.1]
    · rcases List.mem_cons.1 hj with rfl | hj
      · rw [hi]; exact ⟨hg, step_congrS hk hs⟩
      · exact h2 j hj

theorem Inv.putS (hc : Check ops A K) {sp : Nat → World → Value → Prop} {W : World} {a0 : Act} {L : Array Bool} {a : Act} {w w' : World} (h : Inv ops K sp W a0 L a w) {i : Nat} {o : Oper} {s : Tmp} (ho : ops[i]? = some o)
    (hr : i ∈ Region.ready .any ops L) (hk : at_ K i ≠ 2) (hs : o.dst = some s) (hlt : s < a0.tmps.size) {v : Value} (hst : ∀ j, j < ops.size → at_ K j ≠ 2 → StableS St (sp j)) (hb : St w w') (hb0 : Below W.heap.size W w') (hv : sp i w' v) :
    Inv ops K sp W a0 (L.setIfInBounds i true) (a.put o.dst v) w' := by
  have hsz := (Array.getElem?_eq_some_iff.1 ho).1
  have hL : i < L.size := by rw [h.size]; exact hsz
  obtain ⟨_, o', ho', hall⟩ := mem_ready.1 hr
  have : o' = o := Option.some.inj (ho'.symm.trans ho)
  subst this
  refine ⟨by simp [h.size], fun j oj hj hl e he hbd => ?_, fun j hj hkj => ?_, ?_, ?_, hb0, fun t => ?_⟩
  · rw [getD_set hL] at hl ⊢
    by_cases hij : i = j
    · subst hij
      have : oj = o' := Option.some.inj (hj.symm.trans ho)
      subst this
      split
      · rfl
      · exact hall e he hbd
    · rw [if_neg hij] at hl
      split
      · rfl
      · exact h.closed j oj hj hl e he hbd
  · rw [getD_set hL, if_neg (fun (e : i = j) => hk (e ▸ hkj))]; exact h.notail j hj hkj
  · rw [hs]; exact h.defers
  · rw [hs]; simp [Act.put, h.tmps]
  · have h1 := h.slot t
    have hw := hc.one i o' s ho hs
    by_cases hst' : s = t
    · subst hst'
      rw [hw]
      simp only
      rw [getD_set hL, if_pos rfl, if_pos rfl, hs, eval_put_self (by rw [h.tmps]; exact hlt)]
      exact hv
    · have hev : (a.put o'.dst v).eval (.tmp t) = a.eval (.tmp t) := Act.eval_put (fun d hd he => by rw [hs] at hd; injection hd with hd; injection he with he; exact hst' (hd.trans he.symm))
      rw [hev]
      split
      · rename_i d hd
        simp only [hd] at h1
        rw [getD_set hL]
        have hdlt : d < ops.size := by
          unfold writerOf at hd
          exact List.mem_range.1 (List.mem_of_find?_eq_some hd)
        by_cases hid : i = d
        · subst hid
          exfalso
          unfold writerOf at hd
          have := List.find?_some hd
          simp only [ho, Option.bind_some, hs, beq_iff_eq, Option.some.injEq] at this
          exact hst' this
        · rw [if_neg hid]
          split
          · rename_i hld
            rw [if_pos hld] at h1
            refine hst d hdlt (fun hk2 => ?_) _ _ _ hb h1
            rw [h.notail d hdlt hk2] at hld
            cases hld
          · rename_i hld
            rw [if_neg hld] at h1
            exact h1
      · rename_i hd
        simp only [hd] at h1
        exact h1

theorem inv_anyS (hrf : ∀ w, St w w) {W0 : Nat} (hsb : ∀ w w', St w w' → Below W0 w w') (hc : Check ops A K) {Q : Exit → Act → World → Prop} {W : World} (hW : W0 = W.heap.size) {a0 : Act} {sp : Nat → World → Value → Prop}
    (hsl : ∀ (i : Nat) (o : Oper) (s : Tmp), ops[i]? = some o → o.dst = some s → s < a0.tmps.size) (hnk : ∀ (i : Nat) (o : Oper), ops[i]? = some o → isNew o = true → at_ K i = 1)
    (hst : ∀ i, i < ops.size → at_ K i ≠ 2 → StableS St (sp i) ∧ StepOKS St P ops A K W a0 sp i (sp i))
    (hfin : ∀ w, Below W.heap.size W w → Fin ops sp (fun b w => Dist ops b → wpList P ops (NoPanic Q) ((tailL ops K).filterMap (ops[·]?)) b w) w (headL ops K) a0) :
    ∀ (n : Nat) (L : Array Bool) (a : Act) (w : World), unl ops L = n → Inv ops K sp W a0 L a w → Fr ops L a w → wpAny P .any ops (NoPanic Q) n L a w := by
  intro n
  induction n with
  | zero =>
    intro L a w hn hI hF
    have hall : ∀ j, j < ops.size → L.getD j false = true := fun j hj => by
      unfold unl at hn
      rw [List.countP_eq_zero] at hn
      simpa using hn j (List.mem_range.2 hj)
    exact finish2 hc hsl hnk hfin L a w hn hI hF (fun j hj _ => hall j hj)
  | succ n ih =>
    intro L a w hn hI hF
    by_cases hdone : ∀ j, j < ops.size → at_ K j ≠ 2 → L.getD j false = true
    · exact finish2 hc hsl hnk hfin L a w hn hI hF hdone
    · have hex : ∃ j, j < ops.size ∧ at_ K j ≠ 2 ∧ L.getD j false = false := by
        apply Classical.byContradiction
        intro hno
        exact hdone fun j hj hk => by
          cases hl : L.getD j false with
          | true => rfl
          | false => exact absurd ⟨j, hj, hk, hl⟩ hno
      obtain ⟨j0, hj0⟩ := hex
      obtain ⟨h, ⟨hh1, hh2, hh3⟩, hmin⟩ := least_unl (p := fun j => j < ops.size ∧ at_ K j ≠ 2 ∧ L.getD j false = false) j0 hj0
      obtain ⟨oh, hoh⟩ : ∃ o, ops[h]? = some o := ⟨ops[h], by rw [Array.getElem?_eq_getElem]⟩
      have hhr : h ∈ Region.ready .any ops L := by
        have hL : h < L.size := by rw [hI.size]; exact hh1
        refine mem_ready.2 ⟨by simp [hL] at hh3 ⊢; exact hh3, oh, hoh, fun e he hb => ?_⟩
        have hlt := (hc.anc h oh hoh).2 e he hb
        have hk := (hc.heads h oh hoh hh2).2 e he hb
        cases hl : L.getD e.on false with
        | true => rfl
        | false => exact absurd ⟨by omega, hk, hl⟩ (hmin e.on hlt)
      have hlt0 : ∀ (i : Nat) (o : Oper) (s : Tmp), ops[i]? = some o → o.dst = some s → s < a.tmps.size := fun i o s ho hs => by rw [hI.tmps]; exact hsl i o s ho hs
      by_cases hpure : ∃ i, i ∈ Region.ready .any ops L ∧ at_ K i = 0
      · obtain ⟨i, hi, hk0⟩ := hpure
        obtain ⟨_, o, ho, hall⟩ := mem_ready.1 hi
        have hlt := (Array.getElem?_eq_some_iff.1 ho).1
        have hk : at_ K i ≠ 2 := by omega
        obtain ⟨s, hs⟩ := (hc.heads i o ho hk).1
        have hstep := (hst i hlt hk).2
        unfold StepOKS at hstep
        simp only [ho] at hstep
        have h1 := hstep a w hI.below (hI.reads hc ho hi hk)
        rw [if_pos hk0] at h1
        obtain ⟨v, hy, hv⟩ := h1
        have hcount := unl_set (ops := ops) (i := i) hlt (by rw [hI.size]; exact hlt) (getD_of_ready hi)
        refine wpAny_first ho (fun j o cs b hj => Region.noSelect_spec hc.sel j o cs b hj) (fun c a w hq => hq.elim) n L a w (fun j oj hj hne hun hno => ?_) hi hy ?_
        · rcases hc.pure_ i o ho hk0 j oj hj hne with ⟨e, he, hb, hon⟩ | hb | hap
          · exact absurd hon (hno e he hb)
          · have := closed_anc hc hI.closed i o ho hall j hb
            have hjl : j < L.size := by rw [hI.size]; exact (Array.getElem?_eq_some_iff.1 hj).1
            simp [hjl] at this hun
            rw [this] at hun
            cases hun
          · exact hap
        · exact ih _ _ _ (by omega) (hI.putS (St := St) hc ho hi hk hs (hsl i o s ho hs) (fun j hj hkj => (hst j hj hkj).1) (hrf _) hI.below hv)
            (hF.put hc hI.size ho hs (hlt0 i o s ho hs) (Nat.le_refl _) fun hn => by rw [hnk i o ho hn] at hk0; cases hk0)
      · refine ⟨fun h0 => absurd hhr (by rw [h0]; exact List.not_mem_nil), fun i hi => ?_⟩
        obtain ⟨_, o, ho, hall⟩ := mem_ready.1 hi
        have hlt := (Array.getElem?_eq_some_iff.1 ho).1
        have hk0 : at_ K i ≠ 0 := fun e => hpure ⟨i, hi, e⟩
        have hk : at_ K i ≠ 2 := by
          intro hk2
          have hkh : at_ K h ≠ 0 := fun e => hpure ⟨h, hhr, e⟩
          have := closed_anc hc hI.closed i o ho hall h ((hc.tails i o ho hk2).1 h hh1 hkh hh2)
          rw [hh3] at this
          cases this
        obtain ⟨s, hs⟩ := (hc.heads i o ho hk).1
        have hstep := (hst i hlt hk).2
        unfold StepOKS at hstep
        simp only [ho] at hstep
        have h1 := hstep a w hI.below (hI.reads hc ho hi hk)
        rw [if_neg hk0] at h1
        have hcount := unl_set (ops := ops) (i := i) hlt (by rw [hI.size]; exact hlt) (getD_of_ready hi)
        unfold wpOp
        simp only [ho]
        split
        · rename_i hw
          by_cases hn : isNew o = true
          · exact .inl (wp_of_gives (gives_new hn (h1.1 hw)) fun v w' ⟨⟨hb, hv⟩, hnw⟩ => ih _ _ _ (by omega) (hI.putS (St := St) hc ho hi hk hs (hsl i o s ho hs) (fun j hj hkj => (hst j hj hkj).1) hb (hI.below.trans (hW ▸ hsb _ _ hb)) hv)
              (hF.put hc hI.size ho hs (hlt0 i o s ho hs) (hsb _ _ hb).size fun _ => hnw))
          · exact .inl (wp_of_gives (h1.1 hw) fun v w' ⟨hb, hv⟩ => ih _ _ _ (by omega) (hI.putS (St := St) hc ho hi hk hs (hsl i o s ho hs) (fun j hj hkj => (hst j hj hkj).1) hb (hI.below.trans (hW ▸ hsb _ _ hb)) hv)
              (hF.put hc hI.size ho hs (hlt0 i o s ho hs) (hsb _ _ hb).size fun h => absurd h hn))
        · rename_i hw
          exact ih _ _ _ (by omega) (hI.putS (St := St) hc ho hi hk hs (hsl i o s ho hs) (fun j hj hkj => (hst j hj hkj).1) (hrf _) hI.below (h1.2 (by simpa using hw)))
            (hF.put hc hI.size ho hs (hlt0 i o s ho hs) (Nat.le_refl _) fun hn => by
              have := (isNew_spec hn).2
              simp [Region.wanted, this] at hw)

def StepS (St : World → World → Prop) (P : Program) (ops : Array Oper) (W : World) (a0 : Act) (sp : Nat → World → Value → Prop) (k : Nat) (rd : List (Tmp × Option Nat)) (o : Oper) (g : World → Value → Prop) : Prop :=
  ∀ a w, Below W.heap.size W w → RdL sp a0 a w rd →
    if k = 0 then ∃ v, Yields P ops o v a ∧ g w v
    else (Region.wanted o (yielded ops a.tmps) = true → gives P o a w fun v w' => St w w' ∧ g w' v) ∧ (Region.wanted o (yielded ops a.tmps) = false → g w undef)

def ChainS' (St : World → World → Prop) (P : Program) (ops : Array Oper) (W : World) (a0 : Act) (T : Act → World → Prop) (hd : List (Nat × Nat × Tmp × List (Tmp × Option Nat))) : List (Nat × Nat × Tmp × List (Tmp × Option Nat)) → (Nat → World → Value → Prop) → Prop
  | [], sp => ∀ w, Below W.heap.size W w → FinD sp T w hd a0
  | (i, k, _, rd) :: r, sp => ∃ g, StableS St g ∧ (∀ o, ops[i]? = some o → StepS St P ops W a0 sp k rd o g) ∧ ChainS' St P ops W a0 T hd r fun j => if j = i then g else sp j

theorem chain_ofS {W : World} {a0 : Act} {hd : List Nat} {T : Act → World → Prop} {R : List (List (Tmp × Option Nat))} {D : List Tmp} (hR : readsB ops A R = true) (hD : ∀ i ∈ hd, dstOf ops i = some (D.getD i 0)) : ∀ (todo : List Nat) (sp : Nat → World → Value → Prop), (∀ i ∈ todo, i < ops.size) →
    ChainS' St P ops W a0 T (hd.map fun i => (i, at_ K i, D.getD i 0, R.getD i [])) (todo.map fun i => (i, at_ K i, D.getD i 0, R.getD i [])) sp → ChainS St P ops A K W a0 hd T todo sp
  | [], _, _, h => fun w hb => fin_of hd a0 hD (h w hb)
  | i :: r, sp, hlt, h => by
    obtain ⟨g, hg, hs, h⟩ := h
    refine ⟨g, hg, ?_, chain_ofS hR hD r _ (fun j hj => hlt j (by simp [hj])) h⟩
    have hi := hlt i (by simp)
    have ho : ops[i]? = some ops[i] := by rw [Array.getElem?_eq_getElem]
    have h1 := hs _ ho
    unfold StepOKS
    simp only [ho]
    intro a w hB hr
    refine h1 a w hB ?_
    have h2 := List.all_eq_true.1 hR i (List.mem_range.2 hi)
    rw [beq_iff_eq] at h2
    rw [← h2]
    unfold readsOf
    simp only [ho]
    exact rdL_of _ hr

theorem regionS_ (St : World → World → World → Prop) (hrf : ∀ W w, St W w w) (hsb : ∀ W w w', St W w w' → Below W.heap.size w w') {l : List Oper} {id n : Nat} {Q : Exit → Act → World → Prop} {a : Act} {w : World} (A K : List Nat) (D : List Tmp) (R : List (List (Tmp × Option Nat))) (m : Nat) (hm : P.follows .mixedOrders = true)
    (hB : (allB l.toArray n A K D R m && newB l.toArray K) = true) (hn : a.tmps.size = n)
    (h : ∀ W, W = w.drew → ChainS' (St W) P l.toArray W a (fun b w => Dist l.toArray b → wpList P l.toArray (NoPanic Q) (l.drop m) b w) ((headL l.toArray K).map fun i => (i, at_ K i, D.getD i 0, R.getD i [])) ((headL l.toArray K).map fun i => (i, at_ K i, D.getD i 0, R.getD i [])) (fun _ _ _ => True)) : (Code.region id l.toArray true).wp P Q a w := by
  simp only [allB, Bool.and_eq_true] at hB
  obtain ⟨⟨⟨⟨⟨h1, h2⟩, h3⟩, h4⟩, h5⟩, h6⟩ := hB
  have hc := check_of h1
  refine wp_region_noPanic (wp_region_any hm ?_)
  have hsl : ∀ (i : Nat) (o : Oper) (s : Tmp), l.toArray[i]? = some o → o.dst = some s → s < a.tmps.size := fun i o s ho hs => by
    have hmem : o ∈ l.toArray.toList := by simpa using Array.mem_of_getElem? ho
    have := List.all_eq_true.1 h2 o hmem
    simp only [hs, decide_eq_true_eq] at this
    rw [hn]; exact this
  have hnk : ∀ (i : Nat) (o : Oper), l.toArray[i]? = some o → isNew o = true → at_ K i = 1 := fun i o ho hno => by
    have := List.all_eq_true.1 h6 i (List.mem_range.2 (Array.getElem?_eq_some_iff.1 ho).1)
    simpa [ho, hno] using this
  have hmem : ∀ i, i < l.toArray.size → at_ K i ≠ 2 → i ∈ headL l.toArray K := fun i hi hk => by
    unfold headL
    rw [List.mem_filter, List.mem_range]
    exact ⟨hi, by simpa using hk⟩
  have hh : ChainS (St w.drew) P l.toArray A K w.drew a (headL l.toArray K) (fun b w => Dist l.toArray b → wpList P l.toArray (NoPanic Q) ((tailL l.toArray K).filterMap (l.toArray[·]?)) b w) (headL l.toArray K) (fun _ _ _ => True) := by
    refine chain_ofS (D := D) h3 (fun i hi => ?_) _ _ (fun i hi => ?_) ?_
    · have := List.all_eq_true.1 h4 i hi
      simpa using this
    · unfold headL at hi
      rw [List.mem_filter, List.mem_range] at hi
      exact hi.1
    · rw [beq_iff_eq] at h5
      rw [h5]
      have := drop_range l m
      rw [show l.toArray.size = l.length from rfl, this]
      exact h _ rfl
  obtain ⟨sp, _, h7, h8⟩ := chain_allS hc (headL l.toArray K) _ (List.Pairwise.sublist List.filter_sublist List.pairwise_lt_range) (fun i hi => by
    unfold headL at hi
    rw [List.mem_filter, List.mem_range] at hi
    exact hi.1) hh
  have hrep := rep_false l.toArray.size
  have hunl : unl l.toArray (Array.replicate l.toArray.size false) = l.toArray.size := by
    unfold unl
    rw [List.countP_eq_length.2 fun i _ => by rw [hrep i, Bool.not_false], List.length_range]
  refine inv_anyS (hrf w.drew) (hsb w.drew) hc rfl hsl hnk (fun i hi hk => h7 i (hmem i hi hk)) h8 _ _ _ _ hunl ⟨by simp, fun j oj _ hl => absurd hl (by rw [hrep j]; exact Bool.false_ne_true), fun j _ _ => hrep j, rfl, rfl, Below.refl _ _, fun s => ?_⟩
    ⟨fun i o s _ _ hl => absurd hl (by rw [hrep i]; exact Bool.false_ne_true), fun i j oi oj si sj _ _ _ _ _ hl => absurd hl (by rw [hrep i]; exact Bool.false_ne_true)⟩
  split
  · rename_i d _
    rw [hrep d]
    exact if_neg Bool.false_ne_true ▸ rfl
  · rfl

section
variable {W : World} {a0 : Act} {T : Act → World → Prop} {hd r : List (Nat × Nat × Tmp × List (Tmp × Option Nat))} {t : Tmp} {sp : Nat → World → Value → Prop} {i : Nat} {rd : List (Tmp × Option Nat)} {o : Oper} {u : Value}

/-- One that yields u in whatever world. -/
theorem ch_pureS (ho : ops[i]? = some o) (h : ∀ a w, RdL sp a0 a w rd → Yields P ops o u a) (h2 : ChainS' St P ops W a0 T hd r fun j => if j = i then Is u else sp j) : ChainS' St P ops W a0 T hd ((i, 0, t, rd) :: r) sp :=
  ⟨Is u, stable_isS u, fun o' ho' a w _ hr => by
    have : o' = o := Option.some.inj (ho'.symm.trans ho)
    subst this
    rw [if_pos rfl]
    exact ⟨u, h a w hr, rfl⟩, h2⟩

/-- One whose value meets g. -/
theorem ch_relS (g : World → Value → Prop) (hg : StableS St g) (ho : ops[i]? = some o) (hw : ∀ a w, RdL sp a0 a w rd → Region.wanted o (yielded ops a.tmps) = true) (h : ∀ a w, Below W.heap.size W w → RdL sp a0 a w rd → gives P o a w fun v w' => g w' v ∧ St w w')
    (h2 : ChainS' St P ops W a0 T hd r fun j => if j = i then g else sp j) : ChainS' St P ops W a0 T hd ((i, 1, t, rd) :: r) sp :=
  ⟨g, hg, fun o' ho' a w hB hr => by
    have : o' = o := Option.some.inj (ho'.symm.trans ho)
    subst this
    rw [if_neg (by decide)]
    refine ⟨fun _ => ?_, fun h0 => absurd h0 (by rw [hw a w hr]; decide)⟩
    have := h a w hB hr
    unfold gives at *
    generalize (execOp a.eval o').run P w = r at *
    cases r with
    | ok n w' =>
      cases n with
      | value v => exact ⟨this.2, this.1⟩
      | skip => exact ⟨this.2, this.1⟩
      | enter f args => exact Calls.mono this fun e w'' ⟨v, he, hv, hb⟩ => ⟨v, he, hb, hv⟩
      | _ => exact this.elim
    | halt x w' => exact this.elim, h2⟩
theorem ch_defS (ho : ops[i]? = some o) (hcv : ∀ w w', Below W.heap.size W w → Below w.heap.size w w' → St w w') (hw : ∀ a w, RdL sp a0 a w rd → Region.wanted o (yielded ops a.tmps) = true) (h : ∀ a w, Below W.heap.size W w → RdL sp a0 a w rd → gives P o a w fun v w' => v = u ∧ Below w.heap.size w w')
    (h2 : ChainS' St P ops W a0 T hd r fun j => if j = i then Is u else sp j) : ChainS' St P ops W a0 T hd ((i, 1, t, rd) :: r) sp := by
  refine ch_relS (Is u) (stable_isS u) ho hw (fun a w hB hr => ?_) h2
  have := h a w hB hr
  unfold gives at *
  generalize (execOp a.eval o).run P w = r at *
  cases r with
  | ok n w' =>
    cases n with
    | value v => exact ⟨this.1, hcv _ _ hB this.2⟩
    | skip => exact ⟨this.1, hcv _ _ hB this.2⟩
    | enter f args => exact Calls.mono this fun e w'' ⟨v, he, hv, hb⟩ => ⟨v, he, hv, hcv _ _ hB hb⟩
    | _ => exact this.elim
  | halt x w' => exact this.elim
end
end
end Go.Proofs.Ytgeldhdijochdaa.Rg
/- @@NUM 26 The walk of residue's ScalarMul. Conditions: words are below 2^64. -/
namespace Go.Proofs.Ytgeldhdijochdaa
set_option linter.unusedVariables false
set_option linter.unusedSimpArgs false
open Go Go.RowKit
open Pl (V V8 W4 T256 pL le bytesOf)

/-- What all operations keep: what lay below W's end; a row of bytes may be written on with ys behind its first 32. -/
def St5 (ys : List Value) (W w w' : World) : Prop := Below W.heap.size w w' ∧ ∀ k, k < w.heap.size → w'.heap[k]? = w.heap[k]? ∨
  ∃ cs cs' : Array Value, w.heap[k]? = some (.cells cs 5 (0, 0)) ∧ w'.heap[k]? = some (.cells cs' 5 (0, 0)) ∧ cs'.size = cs.size ∧ 32 ≤ cs.size ∧ cs'.toList.take 64 = cs.toList.take 32 ++ ys
theorem st_refl (ys : List Value) (W w : World) : St5 ys W w w := ⟨Below.refl _ _, fun _ _ => .inl rfl⟩
theorem st_of {ys : List Value} {W w w' : World} (h1 : Below W.heap.size W w) (h2 : Below w.heap.size w w') : St5 ys W w w' := ⟨h2.mono h1.size, fun k hk => .inl (h2.block k hk)⟩
theorem st_box {ys : List Value} {W : World} (N : Nat) (cs : Array Value) : Rg.StableS (St5 ys W) (Rg.Box N 26 cs) := fun w w' v h ⟨b, hv, hn, hh⟩ => by
  refine ⟨b, hv, hn, ?_⟩
  rcases h.2 b (Array.getElem?_eq_some_iff.1 hh).1 with h | ⟨c1, c2, h1, _⟩
  · exact h.trans hh
  · rw [hh] at h1; cases h1
/-- A row of n bytes that the call owns. -/
def OwnB (N n : Nat) (xs : List Nat) (w : World) (v : Value) : Prop := w.ownsRow N 5 1 v n (u8s xs)
theorem take_take_32 {l : List Value} {a b : List Value} (h : l.take 64 = a.take 32 ++ b) (ha : 32 ≤ a.length) : l.take 32 = a.take 32 := by
  have h2 := congrArg (List.take 32) h
  rw [List.take_take, List.take_left' (by rw [List.length_take]; omega)] at h2
  exact h2
theorem st_own {ys : List Value} {W : World} (N : Nat) (xs : List Nat) : Rg.StableS (St5 ys W) (OwnB N 32 xs) := fun w w' v h ⟨h1, h2⟩ => by
  refine ⟨h1, ?_⟩
  rcases h2 with h2 | ⟨g, cap, cur, hv, hN, hh, h3, h4, h5, h6⟩
  · exact .inl h2
  · rcases h.2 g (Array.getElem?_eq_some_iff.1 hh).1 with h | ⟨c1, c2, e1, e2, e3, e4, e5⟩
    · exact .inr ⟨g, cap, cur, hv, hN, h.trans hh, h3, h4, h5, h6⟩
    · rw [hh] at e1
      injection e1 with e1
      injection e1 with e1
      subst e1
      exact .inr ⟨g, cap, c2, hv, hN, e2, h3, h4, e3.trans h5, by rw [← h6]; exact take_take_32 e5 (by simpa using e4)⟩
theorem st_own64 {ys xs : List Nat} {W : World} (N : Nat) (hx : xs.length = 32) : Rg.StableS (St5 (u8s ys) W) (OwnB N 64 (xs ++ ys)) := fun w w' v h ⟨h1, h2⟩ => by
  refine ⟨h1, ?_⟩
  rcases h2 with h2 | ⟨g, cap, cur, hv, hN, hh, h3, h4, h5, h6⟩
  · exact .inl h2
  · rcases h.2 g (Array.getElem?_eq_some_iff.1 hh).1 with h | ⟨c1, c2, e1, e2, e3, e4, e5⟩
    · exact .inr ⟨g, cap, cur, hv, hN, h.trans hh, h3, h4, h5, h6⟩
    · rw [hh] at e1
      injection e1 with e1
      injection e1 with e1
      subst e1
      refine .inr ⟨g, cap, c2, hv, hN, e2, h3, h4, e3.trans h5, ?_⟩
      have h7 := congrArg (List.take 32) h6
      rw [List.take_take, u8s_append, List.take_left' (by rw [u8s_length, hx])] at h7
      rw [show 64 * 1 = 64 from rfl, e5, u8s_append]
      congr 1

theorem app_gives {o : Oper} {a : Act} {w W : World} {xs ys : List Nat} (s x : Operand) (hgd : o.op = .call { callee := .builtin .append, args := #[s, x], argTypes := #[35, 35] }) (hB : Below W.heap.size W w) (hx : xs.length = 32) (hy : ys.length = 32)
    (e1 : OwnB W.heap.size 32 xs w (a.eval s)) (e2 : OwnB W.heap.size 32 ys w (a.eval x)) : Rg.gives Try.prog o a w fun v w' => OwnB W.heap.size 64 (xs ++ ys) w' v ∧ St5 (u8s ys) W w w' := by
  obtain ⟨i0, hi, hz0, hz1, hz2⟩ := info_parts info_u8
  have hown := e1
  obtain ⟨_, h2⟩ := e1
  obtain ⟨_, k2⟩ := e2
  have hyl : (u8s ys).length = 32 := by rw [u8s_length, hy]
  have hxl : (u8s xs).length = 32 := by rw [u8s_length, hx]
  rcases h2 with ⟨_, h2⟩ | ⟨g, cap, cur, hv, hN, hh, h3, h4, h5, h6⟩
  · cases h2
  rcases k2 with ⟨_, k2⟩ | ⟨g2, cap2, cur2, kv, kN, kh, k3, k4, k5, k6⟩
  · cases k2
  have hgw := (Array.getElem?_eq_some_iff.1 hh).1
  have hnews : ∀ j u, (u8s ys)[j]? = some u → w.cell? ((⟨g2, 0, none⟩ : Addr).add j) = some u := by
    have := World.ownsRow.cells (w := w) (base := W.heap.size) (e := 5) (size := 1) (n := 32) (v := .slice (some ⟨g2, 0, none⟩) 32 cap2) (xs := u8s ys) ⟨by rw [hyl], .inr ⟨g2, cap2, cur2, rfl, kN, kh, k3, k4, k5, k6⟩⟩ (g := g2) rfl
    exact this
  have h1 : ∀ u ∈ u8s ys, u.oneCell' = true := fun u hu => by
    simp only [u8s, List.mem_map] at hu
    obtain ⟨z, _, rfl⟩ := hu
    rfl
  by_cases hroom : 32 + 32 ≤ cap
  · have hr := run_append_room (P := Try.prog) w 35 o.type 5 i0 Try.underlying35 hi g 32 cap cur hh ⟨g2, 0, none⟩ 32 cap2 (u8s ys) (by rw [hz1, hyl]) hnews h1 hroom (by rw [hz1, hyl, h5]; omega)
    rw [hz1, hyl] at hr
    refine Rg.gives_value (v := .slice (some ⟨g, 0, none⟩) (32 + 32) cap) (w' := w.setRow g (cur.toList.take (32 * 1) ++ u8s ys ++ cur.toList.drop (32 * 1 + 32)).toArray) ?_ ⟨⟨by rw [u8s_length, List.length_append, hx, hy], .inr ⟨g, cap, _, rfl, hN, setRow_heap w g cur _ 5 _ hh, hroom, h4, ?_, ?_⟩⟩, ⟨?_, fun k hk => ?_⟩⟩
    · simp only [execOp, hgd, resolve, invoke, builtin, Sem.run_bind, Sem.run_pure, Result.andThen_ok, List.map_toArray, List.map_cons, List.map_nil, hv, kv, hr]
    · simp only [List.size_toArray, List.length_append, List.length_take, List.length_drop, Array.length_toList, hyl]
      omega
    · have hl : (cur.toList.take (32 * 1) ++ u8s ys).length = 64 := by simp only [List.length_append, List.length_take, Array.length_toList, hyl]; omega
      rw [show 64 * 1 = 64 from rfl, u8s_append, ← h6]
      show List.take 64 _ = _
      rw [← hl]
      exact List.take_left
    · exact ⟨rfl, rfl, rfl, by simp, fun k hk => setRow_other w g k _ (by omega)⟩
    · by_cases hkg : k = g
      · subst hkg
        refine .inr ⟨cur, _, hh, setRow_heap w k cur _ 5 _ hh, ?_, by omega, ?_⟩
        · simp only [List.size_toArray, List.length_append, List.length_take, List.length_drop, Array.length_toList, hyl]
          omega
        · have hl : (cur.toList.take 32 ++ u8s ys).length = 64 := by simp only [List.length_append, List.length_take, Array.length_toList, hyl]; omega
          show List.take 64 _ = _
          rw [← hl]
          exact List.take_left
      · exact .inl (setRow_other w g k _ hkg)
  · have holds : ∀ j u, (u8s xs)[j]? = some u → w.cell? ((⟨g, 0, none⟩ : Addr).add j) = some u := by
      rw [hv] at hown
      exact World.ownsRow.cells hown (g := g) rfl
    have hr := run_append_grow (P := Try.prog) w 35 o.type 5 i0 (.int .u8 0) Try.underlying35 hi hz0 ⟨g, 0, none⟩ 32 cap (u8s xs) (by rw [hz1, hxl]) holds ⟨g2, 0, none⟩ 32 cap2 (u8s ys) (by rw [hz1, hyl]) hnews (by omega) (by omega) (by rw [hz2]; exact growslice_fits (by omega) (by omega))
    have hge := grownCap_ge w (32 + 32) cap 5
    have hcm := grownCap_le_maxLen w (32 + 32) cap 5 (by unfold maxLen; omega)
    have hBd := st_of (ys := u8s ys) hB (w' := w.drew.alloc (.cells ((u8s xs).toArray ++ (u8s ys).toArray ++ Builtin.zeroCells (Value.int .u8 0).cells (grownCap w (32 + 32) cap 5 - (32 + 32))) 5)) ((Below.refl w.heap.size w).drew.alloc (Nat.le_refl _) _)
    refine Rg.gives_value (v := .slice (some ⟨w.heap.size, 0, none⟩) (32 + 32) (grownCap w (32 + 32) cap 5)) ?_ ⟨⟨by rw [u8s_length, List.length_append, hx, hy], .inr ⟨w.heap.size, _, _, rfl, hB.size, heap_alloc_new w.drew _, hge, hcm, ?_, ?_⟩⟩, hBd⟩
    · simp only [execOp, hgd, resolve, invoke, builtin, Sem.run_bind, Sem.run_pure, Result.andThen_ok, List.map_toArray, List.map_cons, List.map_nil, hv, kv, hr]
    · simp only [Array.size_append, List.size_toArray, size_zeroCells, hxl, hyl]
      have : (Value.int .u8 0).cells.size = 1 := rfl
      rw [this]; omega
    · simp only [Array.toList_append, List.append_assoc]
      rw [← List.append_assoc, ← u8s_append]
      have hl : (u8s (xs ++ ys)).length = 64 * 1 := by rw [u8s_length, List.length_append, hx, hy]
      rw [← hl]
      exact List.take_left

end Go.Proofs.Ytgeldhdijochdaa
/- @@NUM 26 The walk of residue's ScalarMul. Conditions: words are below 2^64. -/
namespace Go.Proofs.Ytgeldhdijochdaa
set_option linter.unusedVariables false
set_option linter.unusedSimpArgs false
open Go Go.RowKit
open Pl (V V8 W4 T256 pL le bytesOf)

theorem array_ptr (b o c : Nat) (w : World) : (Instr.arrayAt 26 (.slice (some ⟨b, o, none⟩) 4 c)).run Try.prog w = .ok (.pointer (some ⟨b, o, none⟩)) w := by kernel_rfl
theorem own_bts {N : Nat} {zs : List Nat} {w : World} {v : Value} (h : OwnB N 64 zs w v) (hz : zs.length = 64) : Bts w.heap.size w v zs := by
  refine bts_owned (n := N) ?_
  rw [hz]; exact h

theorem own_mono {N M n : Nat} {zs : List Nat} {w : World} {v : Value} (h : w.ownsRow M 5 1 v n (u8s zs)) (hN : N ≤ M) : OwnB N n zs w v := by
  obtain ⟨h1, h2⟩ := h
  refine ⟨h1, ?_⟩
  rcases h2 with h2 | ⟨g, cap, cur, e, hb, h3⟩
  · exact .inl h2
  · exact .inr ⟨g, cap, cur, e, Nat.le_trans hN hb, h3⟩

set_option maxHeartbeats 4000000 in
theorem ScalarMul_fact (a0 a1 a2 a3 b0 b1 b2 b3 : Nat) (ha : W4 a0 a1 a2 a3) (hb : W4 b0 b1 b2 b3) : ∃ r0 r1 r2 r3 : Nat, (W4 r0 r1 r2 r3 ∧ V r0 r1 r2 r3 = V a0 a1 a2 a3 * V b0 b1 b2 b3 % pL) ∧ ∀ w : World,
    Calls Try.prog 26 #[.agg #[.int .u64 a0, .int .u64 a1, .int .u64 a2, .int .u64 a3], .agg #[.int .u64 b0, .int .u64 b1, .int .u64 b2, .int .u64 b3]] w fun e w' => e = .returned (.agg #[.int .u64 r0, .int .u64 r1, .int .u64 r2, .int .u64 r3]) ∧ Below w.heap.size w w' := by
  obtain ⟨x0, x1, x2, x3, x4, x5, x6, x7, ⟨hl, hh, hv⟩, FP⟩ := product_fact a0 a1 a2 a3 b0 b1 b2 b3 ha hb
  obtain ⟨xs, hxs⟩ : ∃ xs, bytesOf 32 (V x0 x1 x2 x3) = xs := ⟨_, rfl⟩
  obtain ⟨ys, hys⟩ : ∃ ys, bytesOf 32 (V x4 x5 x6 x7) = ys := ⟨_, rfl⟩
  have lx : xs.length = 32 := by rw [← hxs, Pl.bytesOf_length]
  have ly : ys.length = 32 := by rw [← hys, Pl.bytesOf_length]
  have lz : (xs ++ ys).length = 64 := by rw [List.length_append, lx, ly]
  obtain ⟨r0, r1, r2, r3, ⟨hr, hrv⟩, FS⟩ := Scalar_fact (xs ++ ys) (fun j hj => by
    rw [List.getElem?_eq_getElem hj, Option.getD_some]
    have hm := List.getElem_mem hj
    generalize (xs ++ ys)[j] = y at hm ⊢
    rcases List.mem_append.1 hm with h | h
    · rw [← hxs] at h; exact Pl.bytesOf_lt _ _ _ h
    · rw [← hys] at h; exact Pl.bytesOf_lt _ _ _ h) (by omega) (by omega)
  have hle : le (xs ++ ys) = V a0 a1 a2 a3 * V b0 b1 b2 b3 := by
    rw [Pl.le_append, lx, ← hxs, ← hys, Pl.le_bytes32 (Pl.V_lt hl), Pl.le_bytes32 (Pl.V_lt hh), ← hv]
    unfold V8
    rw [show (256 : Nat) ^ 32 = T256 from by decide +kernel]
  rw [hle] at hrv
  have HL := Lib.hid (Bytes_fact x0 x1 x2 x3 hl); have HH := Lib.hid (Bytes_fact x4 x5 x6 x7 hh)
  rw [hxs] at HL; rw [hys] at HH
  have HP := Lib.hid FP; have HS := Lib.hid FS
  refine ⟨r0, r1, r2, r3, ⟨hr, hrv⟩, fun w => ?_⟩
  clear FP FS hxs hys hle hrv hr hv hl hh ha hb
  go_enter Try.func26, Try.ntmps26
  go_wp2_with (fail)
  go_at_call 52
  refine (HP.out _).mono ?_
  rintro e wa ⟨rfl, hb⟩
  have HBn : Hid (Below w.heap.size w wa) := Lib.hid ((fun (h : Below _ _ _) => below_call h h.size hb) (by first | go_grown))
  have hBa_ : wa.heap[w.heap.size]? = some (.cells #[.int .u64 a0, .int .u64 a1, .int .u64 a2, .int .u64 a3] 26 (0, 0)) := heap_keep' hb (by repeat (first | (with_reducible refine heap_new' ?_ _; simp; done) | (with_reducible refine keep4 ?_ (by omega) _ _ _ _) | (with_reducible refine heap_old ?_ _) | (with_reducible refine heap_drew ?_) | (with_reducible refine heap_set_ne ?_ (by simp <;> omega) _)))
  have hBb_ : wa.heap[w.heap.size + 1]? = some (.cells #[.int .u64 b0, .int .u64 b1, .int .u64 b2, .int .u64 b3] 26 (0, 0)) := heap_keep' hb (by repeat (first | (with_reducible refine heap_new' ?_ _; simp; done) | (with_reducible refine keep4 ?_ (by omega) _ _ _ _) | (with_reducible refine heap_old ?_ _) | (with_reducible refine heap_drew ?_) | (with_reducible refine heap_set_ne ?_ (by simp <;> omega) _)))
  have hBr_ : wa.heap[w.heap.size + 1 + 1]? = some (.cells #[.int .u64 0, .int .u64 0, .int .u64 0, .int .u64 0] 26 (0, 0)) := heap_keep' hb (by repeat (first | (with_reducible refine heap_new' ?_ _; simp; done) | (with_reducible refine keep4 ?_ (by omega) _ _ _ _) | (with_reducible refine heap_old ?_ _) | (with_reducible refine heap_drew ?_) | (with_reducible refine heap_set_ne ?_ (by simp <;> omega) _)))
  clear hb
  have HB := HBn; clear HBn
  have HBa := Lib.hid hBa_; have cBa := cells4 hBa_; have fBa := frozen_of hBa_; have zBa := lt_of_heap hBa_; clear hBa_
  have HBb := Lib.hid hBb_; have cBb := cells4 hBb_; have fBb := frozen_of hBb_; have zBb := lt_of_heap hBb_; clear hBb_
  have HBr := Lib.hid hBr_; have cBr := cells4 hBr_; have fBr := frozen_of hBr_; have zBr := lt_of_heap hBr_; clear hBr_
  have kz1 := zBr
  go_wp2
  refine Rg.regionS_ (fun W => St5 (u8s ys) W) (fun _ _ => st_refl _ _ _) (fun _ _ _ h => h.1) (n := 25) [0, 1, 3, 7, 0, 16, 48, 127, 255, 511, 1023, 2047, 2047, 0, 12287, 32767] [0, 0, 1, 1, 0, 0, 1, 1, 1, 1, 0, 0, 0, 1, 2, 2] [12, 13, 14, 15, 16, 17, 18, 19, 20, 21, 11, 22, 23, 6, 0, 7] [[(5, none)], [(12, some 0)], [(13, some 1)], [(14, some 2)], [(5, none)], [(16, some 4)], [(17, some 5)], [(18, some 6)], [(15, some 3), (19, some 7)], [(20, some 8)], [(21, some 9)], [(11, some 10)], [(11, some 10)], [], [(6, some 13), (22, some 11)], [(23, some 12)]] 14 (by kernel_rfl) (by kernel_rfl) (by rfl) ?_
  intro W hW
  have hBa_ : W.heap[w.heap.size]? = some (.cells #[.int .u64 a0, .int .u64 a1, .int .u64 a2, .int .u64 a3] 26 (0, 0)) := by rw [hW]; exact (by repeat (first | (with_reducible exact HBa.out) | (with_reducible exact set4 HBa.out _ _ _ _) | (with_reducible apply set4) | (with_reducible refine heap_new' ?_ _; simp; done) | (with_reducible refine keep4 ?_ (by omega) _ _ _ _) | (with_reducible refine heap_old ?_ _) | (with_reducible refine heap_drew ?_) | (with_reducible refine heap_set_ne ?_ (by simp <;> omega) _)))
  have hBb_ : W.heap[w.heap.size + 1]? = some (.cells #[.int .u64 b0, .int .u64 b1, .int .u64 b2, .int .u64 b3] 26 (0, 0)) := by rw [hW]; exact (by repeat (first | (with_reducible exact HBb.out) | (with_reducible exact set4 HBb.out _ _ _ _) | (with_reducible apply set4) | (with_reducible refine heap_new' ?_ _; simp; done) | (with_reducible refine keep4 ?_ (by omega) _ _ _ _) | (with_reducible refine heap_old ?_ _) | (with_reducible refine heap_drew ?_) | (with_reducible refine heap_set_ne ?_ (by simp <;> omega) _)))
  have hBr_ : W.heap[w.heap.size + 1 + 1]? = some (.cells #[.int .u64 0, .int .u64 0, .int .u64 0, .int .u64 0] 26 (0, 0)) := by rw [hW]; exact (by repeat (first | (with_reducible exact HBr.out) | (with_reducible exact set4 HBr.out _ _ _ _) | (with_reducible apply set4) | (with_reducible refine heap_new' ?_ _; simp; done) | (with_reducible refine keep4 ?_ (by omega) _ _ _ _) | (with_reducible refine heap_old ?_ _) | (with_reducible refine heap_drew ?_) | (with_reducible refine heap_set_ne ?_ (by simp <;> omega) _)))
  have hBx_ : W.heap[wa.heap.size]? = some (.cells #[.int .u64 x0, .int .u64 x1, .int .u64 x2, .int .u64 x3, .int .u64 x4, .int .u64 x5, .int .u64 x6, .int .u64 x7] 74 (0, 0)) := by rw [hW]; exact (by repeat (first | (with_reducible refine heap_new' ?_ _; simp; done) | (with_reducible refine keep4 ?_ (by omega) _ _ _ _) | (with_reducible refine heap_old ?_ _) | (with_reducible refine heap_drew ?_) | (with_reducible refine heap_set_ne ?_ (by simp <;> omega) _)))
  have HB0 : Below w.heap.size w W := by rw [hW]; have hB0 := HB.out; have hS0 := hB0.size; first | exact hB0.drew | exact (set4_below hB0 (by omega) _ _ _ _).drew | go_grown
  change Rg.ChainS' _ _ _ _ _ _ [(0, 0, 12, [(5, none)]), (1, 0, 13, [(12, some 0)]), (2, 1, 14, [(13, some 1)]), (3, 1, 15, [(14, some 2)]), (4, 0, 16, [(5, none)]), (5, 0, 17, [(16, some 4)]), (6, 1, 18, [(17, some 5)]), (7, 1, 19, [(18, some 6)]), (8, 1, 20, [(15, some 3), (19, some 7)]), (9, 1, 21, [(20, some 8)]), (10, 0, 11, [(21, some 9)]), (11, 0, 22, [(11, some 10)]), (12, 0, 23, [(11, some 10)]), (13, 1, 6, [])] [(0, 0, 12, [(5, none)]), (1, 0, 13, [(12, some 0)]), (2, 1, 14, [(13, some 1)]), (3, 1, 15, [(14, some 2)]), (4, 0, 16, [(5, none)]), (5, 0, 17, [(16, some 4)]), (6, 1, 18, [(17, some 5)]), (7, 1, 19, [(18, some 6)]), (8, 1, 20, [(15, some 3), (19, some 7)]), (9, 1, 21, [(20, some 8)]), (10, 0, 11, [(21, some 9)]), (11, 0, 22, [(11, some 10)]), (12, 0, 23, [(11, some 10)]), (13, 1, 6, [])] _
  apply Rg.ch_pureS (by rfl)
  · rintro a w1 ⟨e5, -⟩
    conv at e5 => rhs; whnf
    have n5 := e5
    simp only [Act.eval, Array.getD_eq_getD_getElem?] at n5
    apply Rg.yields_run (Rg.wanted_none (by rfl))
    intro w2
    conv => lhs; simp [go_sem, n5, array_ptr]
  apply Rg.ch_pureS (by rfl)
  · rintro a w1 ⟨e12, -⟩
    replace e12 : a.eval (.tmp 12) = _ := e12
    have n12 := e12
    simp only [Act.eval, Array.getD_eq_getD_getElem?] at n12
    apply Rg.yields_run (Rg.wanted_none (by rfl))
    intro w2
    conv => lhs; simp [go_sem, n12, array_ptr]
  apply Rg.ch_defS (by rfl) (fun _ _ h1 h2 => st_of h1 h2) (fun a w1 _ => Rg.wanted_none (by rfl))
  · rintro a w1 hb ⟨e13, -⟩
    replace e13 : a.eval (.tmp 13) = _ := e13
    have n13 := e13
    simp only [Act.eval, Array.getD_eq_getD_getElem?] at n13
    apply Rg.gives_value
    · conv => lhs; simp [go_sem, n13, cells4 (heap_keep' hb hBa_), cells4 (heap_keep' hb hBb_), cells4 (heap_keep' hb hBr_), cells8 (heap_keep' hb hBx_)]
    · exact ⟨rfl, Below.refl _ _⟩
  -- operation 3
  refine Rg.ch_relS (OwnB W.heap.size 32 xs) (st_own _ _) (by rfl) (fun a w1 _ => Rg.wanted_none (by rfl)) ?_ ?_
  · rintro a w1 hb ⟨e14, -⟩
    replace e14 : a.eval (.tmp 14) = _ := e14
    apply Rg.gives_enter
    · apply run_call Try.func16 (by kernel_rfl) rfl _ (by rfl)
      conv => lhs; simp only [List.map_toArray, List.map_cons, List.map_nil, eval_const_, eval_global_, e14]
    · refine (HL.out _).mono ?_
      rintro e w2 ⟨⟨v, rfl, hown⟩, hb2⟩
      exact ⟨_, rfl, own_mono hown hb.size, st_of hb hb2⟩
  apply Rg.ch_pureS (by rfl)
  · rintro a w1 ⟨e5, -⟩
    conv at e5 => rhs; whnf
    have n5 := e5
    simp only [Act.eval, Array.getD_eq_getD_getElem?] at n5
    apply Rg.yields_run (Rg.wanted_none (by rfl))
    intro w2
    conv => lhs; simp [go_sem, n5, array_ptr]
  apply Rg.ch_pureS (by rfl)
  · rintro a w1 ⟨e16, -⟩
    replace e16 : a.eval (.tmp 16) = _ := e16
    have n16 := e16
    simp only [Act.eval, Array.getD_eq_getD_getElem?] at n16
    apply Rg.yields_run (Rg.wanted_none (by rfl))
    intro w2
    conv => lhs; simp [go_sem, n16, array_ptr]
  apply Rg.ch_defS (by rfl) (fun _ _ h1 h2 => st_of h1 h2) (fun a w1 _ => Rg.wanted_none (by rfl))
  · rintro a w1 hb ⟨e17, -⟩
    replace e17 : a.eval (.tmp 17) = _ := e17
    have n17 := e17
    simp only [Act.eval, Array.getD_eq_getD_getElem?] at n17
    apply Rg.gives_value
    · conv => lhs; simp [go_sem, n17, cells4 (heap_keep' hb hBa_), cells4 (heap_keep' hb hBb_), cells4 (heap_keep' hb hBr_), cells8 (heap_keep' hb hBx_)]
    · exact ⟨rfl, Below.refl _ _⟩
  -- operation 7
  refine Rg.ch_relS (OwnB W.heap.size 32 ys) (st_own _ _) (by rfl) (fun a w1 _ => Rg.wanted_none (by rfl)) ?_ ?_
  · rintro a w1 hb ⟨e18, -⟩
    replace e18 : a.eval (.tmp 18) = _ := e18
    apply Rg.gives_enter
    · apply run_call Try.func16 (by kernel_rfl) rfl _ (by rfl)
      conv => lhs; simp only [List.map_toArray, List.map_cons, List.map_nil, eval_const_, eval_global_, e18]
    · refine (HH.out _).mono ?_
      rintro e w2 ⟨⟨v, rfl, hown⟩, hb2⟩
      exact ⟨_, rfl, own_mono hown hb.size, st_of hb hb2⟩
  -- operation 8
  refine Rg.ch_relS (OwnB W.heap.size 64 (xs ++ ys)) (st_own64 _ lx) (by rfl) (fun a w1 _ => Rg.wanted_none (by rfl)) ?_ ?_
  · rintro a w1 hb ⟨e15, e19, -⟩
    exact app_gives (.tmp 15) (.tmp 19) rfl hb lx ly e15 e19
  -- operation 9
  apply Rg.ch_defS (by rfl) (fun _ _ h1 h2 => st_of h1 h2) (fun a w1 _ => Rg.wanted_none (by rfl))
  · rintro a w1 hb ⟨e20, -⟩
    apply Rg.gives_enter
    · apply run_call Try.func25 (by kernel_rfl) rfl _ (by rfl)
      conv => lhs; simp only [List.map_toArray, List.map_cons, List.map_nil, eval_const_, eval_global_]
    · refine (HS.out _ _ (own_bts e20 lz)).mono ?_
      rintro e w2 ⟨rfl, hb2⟩
      exact ⟨_, rfl, rfl, hb2⟩
  apply Rg.ch_pureS (by rfl)
  · rintro a w1 ⟨e21, -⟩
    replace e21 : a.eval (.tmp 21) = _ := e21
    have n21 := e21
    simp only [Act.eval, Array.getD_eq_getD_getElem?] at n21
    apply Rg.yields_run (Rg.wanted_none (by rfl))
    intro w2
    conv => lhs; simp [go_sem, n21, array_ptr]
  apply Rg.ch_pureS (by rfl)
  · rintro a w1 ⟨e11, -⟩
    replace e11 : a.eval (.tmp 11) = _ := e11
    have n11 := e11
    simp only [Act.eval, Array.getD_eq_getD_getElem?] at n11
    apply Rg.yields_run (Rg.wanted_none (by rfl))
    intro w2
    conv => lhs; simp [go_sem, n11, array_ptr]
  apply Rg.ch_pureS (by rfl)
  · rintro a w1 ⟨e11, -⟩
    replace e11 : a.eval (.tmp 11) = _ := e11
    have n11 := e11
    simp only [Act.eval, Array.getD_eq_getD_getElem?] at n11
    apply Rg.yields_run (Rg.wanted_none (by rfl))
    intro w2
    conv => lhs; simp [go_sem, n11, array_ptr]
  apply Rg.ch_relS (Rg.Box W.heap.size 26 _) (st_box _ _) (by rfl) (fun a w1 _ => Rg.wanted_none (by rfl))
  · rintro a w1 hb -
    apply Rg.gives_value
    · conv => lhs; simp [go_sem]
    · exact ⟨⟨_, rfl, hb.size, heap_new _ _⟩, st_of hb ((Below.refl _ _).alloc (Nat.le_refl _) _)⟩
  intro w1 hb1
  rintro _ rfl _ rfl _ rfl v15 hv15 _ rfl _ rfl _ rfl v19 hv19 v20 hv20 _ rfl _ rfl _ rfl _ rfl v6 ⟨b6, rfl, ge6, hh6⟩
  intro hDist
  simp only [Act.put, List.setIfInBounds_toArray, List.set_cons_succ, List.set_cons_zero] at hDist
  clear hDist
  change Go.wpList _ _ _ _ _ _
  simp only [List.drop_succ_cons, List.drop_zero, List.drop_nil, Act.put, List.setIfInBounds_toArray, List.set_cons_succ, List.set_cons_zero]
  have HBn : Hid (Below w.heap.size w w1) := Lib.hid (below_call HB0 HB0.size hb1)
  have hBa__ := heap_keep' hb1 hBa_
  have hBb__ := heap_keep' hb1 hBb_
  have hBr__ := heap_keep' hb1 hBr_
  have hBx__ := heap_keep' hb1 hBx_
  have ltBa_wb := lt_of_heap hBa_
  have ltBb_wb := lt_of_heap hBb_
  have ltBr_wb := lt_of_heap hBr_
  have ltBx_wb := lt_of_heap hBx_
  clear hb1 HB0 HB hBa_ HBa cBa fBa zBa hBb_ HBb cBb fBb zBb hBr_ HBr cBr fBr zBr hBx_
  clear hW
  obtain ⟨wb, rfl⟩ : ∃ x : World, x = w1 := ⟨_, rfl⟩
  have HB := HBn; clear HBn
  have HBa := Lib.hid hBa__; have cBa := cells4 hBa__; have fBa := frozen_of hBa__; have zBa := lt_of_heap hBa__; clear hBa__
  have HBb := Lib.hid hBb__; have cBb := cells4 hBb__; have fBb := frozen_of hBb__; have zBb := lt_of_heap hBb__; clear hBb__
  have HBr := Lib.hid hBr__; have cBr := cells4 hBr__; have fBr := frozen_of hBr__; have zBr := lt_of_heap hBr__; clear hBr__
  have HBx := Lib.hid hBx__; have cBx := cells8 hBx__; have fBx := frozen_of hBx__; have zBx := lt_of_heap hBx__; clear hBx__
  have HBo := Lib.hid hh6; have cBo := cells4 hh6; have fBo := frozen_of hh6; have zBo := lt_of_heap hh6; clear hh6
  go_wp2
  refine NoPanic.normal ?_
  go_wp2
  have hK := set4 (keep4 (b' := b6) HBr.out (by omega) (.int .u64 r0) (.int .u64 r1) (.int .u64 r2) (.int .u64 r3)) (.int .u64 r0) (.int .u64 r1) (.int .u64 r2) (.int .u64 r3)
  have hL := set4_below (set4_below HB.out (b := b6) (by omega) (.int .u64 r0) (.int .u64 r1) (.int .u64 r2) (.int .u64 r3)) (b := w.heap.size + 1 + 1) (by omega) (.int .u64 r0) (.int .u64 r1) (.int .u64 r2) (.int .u64 r3)
  have hQ := cells4 hK
  exact bodyPost_ret (v := .agg #[.int .u64 r0, .int .u64 r1, .int .u64 r2, .int .u64 r3]) (by simp [results, Try.results26, go_sem, hQ]) rfl ⟨rfl, hL⟩

end Go.Proofs.Ytgeldhdijochdaa
/- The machine's contracts of residue's Order, Scalar, ScalarAdd and ScalarMul. Conditions: none. -/
namespace Go.Proofs.Ytgeldhdijochdaa.Am
set_option linter.unusedVariables false
set_option linter.unusedSimpArgs false
open Go Go.RowKit
open Pl (V W4 T256 pP pL le)
set_option linter.unusedSectionVars false
section
variable [GT]
def nSadd (a b : Nat) : Nat := (a % T256 + b % T256) % pL
def nSmul (a b : Nat) : Nat := a % T256 * (b % T256) % pL
/-- Bytes as a scalar. -/
def nSca (l : List Int) : Nat := leI l % pL
theorem Order_ent : EntOK Try.prog 21 (e0N pL) :=
  ok_e0N ⟨_, Try.func21, by kernel_rfl, by kernel_rfl⟩ ⟨6346243789798364141, 1503914060200516822, 0, 1152921504606846976, ⟨Pl.pL_W, Pl.pL_words⟩, Order_fact⟩
theorem sadd_ent : EntOK Try.prog 27 (e2N nSadd) :=
  ok_e2N ⟨_, Try.func27, by kernel_rfl, by kernel_rfl⟩ (fun a0 a1 a2 a3 b0 b1 b2 b3 ha hb => by
    obtain ⟨r0, r1, r2, r3, ⟨hr, hv⟩, hc⟩ := ScalarAdd_fact a0 a1 a2 a3 b0 b1 b2 b3 ha hb
    exact ⟨r0, r1, r2, r3, ⟨hr, by rw [hv]; unfold nSadd; rw [Nat.mod_eq_of_lt (Pl.V_lt ha), Nat.mod_eq_of_lt (Pl.V_lt hb)]⟩, hc⟩) (fun a b => by unfold nSadd; rw [mm, mm])
theorem smul_ent : EntOK Try.prog 26 (e2N nSmul) :=
  ok_e2N ⟨_, Try.func26, by kernel_rfl, by kernel_rfl⟩ (fun a0 a1 a2 a3 b0 b1 b2 b3 ha hb => by
    obtain ⟨r0, r1, r2, r3, ⟨hr, hv⟩, hc⟩ := ScalarMul_fact a0 a1 a2 a3 b0 b1 b2 b3 ha hb
    exact ⟨r0, r1, r2, r3, ⟨hr, by rw [hv]; unfold nSmul; rw [Nat.mod_eq_of_lt (Pl.V_lt ha), Nat.mod_eq_of_lt (Pl.V_lt hb)]⟩, hc⟩) (fun a b => by unfold nSmul; rw [mm, mm])
theorem bts_of1 {w : World} {a : Option Addr} {cap : Nat} {l : List Int} (h : RowAt w ⟨a, cap⟩ .u8 l) (hb : isBs l) (hl : 1 ≤ l.length) : Bts w.heap.size w (.slice a l.length cap) (l.map Int.toNat) := by
  obtain ⟨_, h2, h3⟩ := h
  rcases h2 with rfl | ⟨x, rfl, hc⟩
  · simp at hl
  · refine .inr ⟨x, cap, by rw [List.length_map], h3 x rfl, fun j hj => ?_⟩
    rw [List.length_map] at hj
    have hz := hb l[j] (List.getElem_mem hj)
    refine hc j _ ?_
    rw [List.getElem?_map, List.getElem?_map, List.getElem?_eq_getElem hj]
    simp only [Option.map_some, Option.getD_some, Option.some.injEq, Value.int.injEq, true_and]
    omega
theorem pL_T : pL < T256 := by decide +kernel
theorem scalar_ent : EntOK Try.prog 25 (entB [.sl .u8] (nE (fun l => isBs l ∧ 1 ≤ l.length ∧ l.length ≤ 64) nSca 0)) := ok_nE (has Try.func25 (by kernel_rfl) (by kernel_rfl)) fun l a cap w hl hrow => by
  obtain ⟨hb, h1, h2⟩ := hl
  obtain ⟨r0, r1, r2, r3, ⟨hw, hv⟩, hc⟩ := Scalar_fact (l.map Int.toNat) (fun j hj => by
    rw [List.length_map] at hj
    have := hb l[j] (List.getElem_mem hj)
    rw [List.getElem?_map, List.getElem?_eq_getElem hj]
    simp only [Option.map_some, Option.getD_some]
    omega) (by rw [List.length_map]; exact h1) (by rw [List.length_map]; exact h2)
  have := hc _ w (bts_of1 hrow hb h1)
  rw [num_of (fun _ => ⟨none, 0⟩) hw (show _ = nSca l from hv)] at this
  exact this
end
end Go.Proofs.Ytgeldhdijochdaa.Am
/- Law 09's CurveBack. Conditions: none. -/
namespace Go.Proofs.Ytgeldhdijochdaa.Am
set_option linter.unusedVariables false
set_option linter.unusedSimpArgs false
open Go Go.RowKit
open Pl (pP T256)
set_option linter.unusedSectionVars false
open Pl (pL W4 V)
section
variable [GT]
noncomputable def bkO : List (Nat × Ent) := [(10, vEnt vaw9), (16, eBy), (25, entB [.sl .u8] (nE (fun l => isBs l ∧ 1 ≤ l.length ∧ l.length ≤ 64) nSca 0)), (21, e0N pL), (27, e2N nSadd), (26, e2N nSmul), (28, e1B nZero), (20, vEnt vbase), (13, eTimes), (29, vEnt vminusP), (30, vEnt vgood)]
theorem bkO_ok : OOK Try.prog bkO := ook_of (l := [(10, vEnt vaw9), (16, eBy), (25, entB [.sl .u8] (nE (fun l => isBs l ∧ 1 ≤ l.length ∧ l.length ≤ 64) nSca 0)), (21, e0N pL), (27, e2N nSadd), (26, e2N nSmul), (28, e1B nZero), (20, vEnt vbase), (13, eTimes), (29, vEnt vminusP), (30, vEnt vgood)]) ⟨aw9_ent, by_ent, scalar_ent, Order_ent, sadd_ent, smul_ent, Zero_ent, base_ent, times_ent, minusP_ent, good_ent, trivial⟩
noncomputable abbrev fBk : Func := Try.f6
theorem bk_run (n : Nat) : wholeV tyT bkO (atH 5 1 (isB true) (atH 10 4 (isB true) (atH 10 7 (isN (pL - 1)) (atH 10 11 (isB true) (atH 10 15 (isB true) noH))))) [] 4000 fBk [.av (.one (.num n))] = some (ofV (.bool true), [0 + 32 ≤ (byI n).length, isBs (cutI (byI n) 0 32) ∧ 1 ≤ (cutI (byI n) 0 32).length ∧ (cutI (byI n) 0 32).length ≤ 64, tB (nZero (nSmul (nSadd pL 0) (nSca (cutI (byI n) 0 32)))) true, True, True, tB (numEq (tmX (nBx) (nBy) (n)) (tmX (nBx) (nBy) ((nSca (cutI (byI n) 0 32)))) && (numEq (tmY (nBx) (nBy) (n)) (tmY (nBx) (nBy) ((nSca (cutI (byI n) 0 32)))) && true)) true, tN ((words pL).set 0 (IntKind.wrap .u64 ((words pL).getD 0 0 - 1))) (pL - 1), True, tB (numEq (tmX (nBx) (nBy) (pL - 1)) (nSub 0 nBx) && (numEq (tmY (nBx) (nBy) (pL - 1)) (nBy) && true)) true, tB (nGood (tmX (nBx) (nBy) (n)) (tmY (nBx) (nBy) (n))) true]) := by kernel_rfl
theorem pL_less : Pl.Pt.mul (pL - 1) eB = eB.neg := by
  refine Pl.Pt.add_right_cancel (S := eB) ?_
  rw [Pl.Pt.neg_add, ← base_order]
  conv => rhs; rw [show pL = (pL - 1) + 1 from by decide +kernel]
  rfl
theorem sz_zero (k : Nat) : nZero (nSmul (nSadd pL 0) k) = true := by
  have : nSadd pL 0 = 0 := by decide +kernel
  rw [this]
  unfold nSmul nZero
  rw [Nat.zero_mod, Nat.zero_mul, Nat.zero_mod, Nat.zero_mod]
  rfl
theorem lawCurveBack_fact (a0 a1 a2 a3 : Nat) (ha : W4 a0 a1 a2 a3) (w : World) (hgw : GWok w.heap.size [] w) : Calls Try.prog 6 #[.agg #[.int .u64 a0, .int .u64 a1, .int .u64 a2, .int .u64 a3]] w fun e w' => e = .returned (.bool true) ∧ Below w.heap.size w w' := by
  have hn := Pl.V_lt ha
  have hnum := num_of (fun _ => ⟨none, 0⟩) ha rfl
  rw [hnum]
  generalize V a0 a1 a2 a3 = n at *
  have hrun := bk_run n
  have hc : cutI (byI n) 0 32 = byI n := cut_full' (byI_32 n).1
  have hk : nSca (byI n) = n % pL := by unfold nSca; rw [leI_byI, Nat.mod_eq_of_lt hn]
  rw [hc, hk, nBx_val, nBy_val] at hrun
  have hkT : n % pL < T256 := Nat.lt_of_le_of_lt (Nat.mod_le _ _) hn
  have t1 := tmp eB hn
  have t2 := tmp eB hkT
  have t3 := tmp eB (n := pL - 1) (by decide +kernel)
  have hm := Pl.Pt.mul_mod base_order n
  have e4 : nSub 0 eB.x.val = eB.neg.x.val := nSub0_val eB.x
  have e5 : eB.neg.y.val = eB.y.val := rfl
  simp only [t1, t2, t3, pL_less, e4, e5, ← hm] at hrun
  exact am_val tyT_ok bkO_ok mixed_ Try.func6 (by kernel_rfl) hrun ⟨by rw [(byI_32 n).1]; decide, ⟨(byI_32 n).2, by rw [(byI_32 n).1]; decide, by rw [(byI_32 n).1]; decide⟩, tB_iff.2 (sz_zero _), trivial, trivial, eqP_self _ _, tN_of (by decide +kernel), trivial, eqP_self _ _, tB_iff.2 (good_val _), trivial⟩ (by kernel_rfl) (by kernel_rfl) (fun _ => ⟨none, 0⟩) w hgw
end
end Go.Proofs.Ytgeldhdijochdaa.Am
/- No variable of the package is known: none is read. Conditions: none. -/
namespace Go.Proofs.Ytgeldhdijochdaa.Am
set_option linter.unusedVariables false
set_option linter.unusedSimpArgs false
open Go
instance gt0 : GT := ⟨[]⟩
theorem gw0 {N : Nat} {M : List Nat} {w : World} : GWok N M w := fun x h => by cases h
end Go.Proofs.Ytgeldhdijochdaa.Am
