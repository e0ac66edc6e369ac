/- @@NUM 25 The walk of law 08's ResidueFermat. Conditions: words are below 2^64. -/
import Derived.Test.YtldnjbpcdojffaaR12
import Derived.Test.YtldnjbpcdojffaaR9
import Derived.Test.YtldnjbpcdojffaaField
namespace Go.Proofs.Ytldnjbpcdojffaa
set_option linter.unusedVariables false
set_option linter.unusedSimpArgs false
open Go Go.RowKit
open Pl (V V8 W4 T256 pP)
attribute [local go_sem ↓] eql_num neq_num

theorem W4_one {n : Nat} (h : n < 18446744073709551616) : W4 n 0 0 0 := by unfold W4; omega
theorem V_one {n : Nat} : V n 0 0 0 = n := by unfold V; omega

set_option maxHeartbeats 4000000 in
theorem ferm_zero (a0 a1 a2 a3 n m : Nat) (ha : W4 a0 a1 a2 a3) (hza : V a0 a1 a2 a3 % pP = 0) : ∀ w : World, Calls Try.prog 7 #[.agg #[.int .u64 a0, .int .u64 a1, .int .u64 a2, .int .u64 a3], .int .u8 n, .int .u8 m] w fun e w' => e = .returned (.bool true) ∧ Below w.heap.size w w' := by
  have h1 : W4 1 0 0 0 := W4_one (by omega)
  obtain ⟨p0, p1, p2, p3, hpp, FP⟩ := prime_fact
  obtain ⟨l0, l1, l2, l3, ⟨hl, hlw⟩, FS⟩ := Sub_fact p0 p1 p2 p3 1 0 0 0 hpp.1 h1
  have hlv : V l0 l1 l2 l3 = pP - 1 := by rw [hlw, hpp.2, V_one]; decide +kernel
  obtain ⟨s0, s1, s2, s3, ⟨hs, hsv⟩, FA⟩ := Add1_fact a0 a1 a2 a3 ha
  obtain ⟨z, hz, FZ⟩ := zero_fact s0 s1 s2 s3
  obtain ⟨f0, f1, f2, f3, ⟨hf, hfv⟩, FF⟩ := Power_fact a0 a1 a2 a3 l0 l1 l2 l3 ha hl
  obtain rfl : z = true := hz.2 (by rw [hsv]; exact hza)
  obtain ⟨y, hy, FY⟩ := zero_fact f0 f1 f2 f3
  obtain rfl : y = true := hy.2 (by rw [hfv, hlv]; exact Pl.pow_zero_mod hza (by decide +kernel))
  have H0 := Lib.hid awake_fact
  have HP := Lib.hid FP; have HS := Lib.hid FS; have HA := Lib.hid FA; have HZ := Lib.hid FZ; have HF := Lib.hid FF; have HY := Lib.hid FY
  clear FP FS FA FZ FF FY hy hza hz hfv hf hsv hs hlv hlw hl hpp h1 ha
  intro w
  go_enter Try.func7, Try.ntmps7
  go_wp2_with (fail)
  go_at_call 13
  refine (H0.out _).mono ?_
  rintro e wa ⟨rfl, hb⟩
  have HBn : Hid (Below w.heap.size w wa) := Lib.hid (below_call (by first | go_grown) (by first | (simp; omega) | simp | omega) hb)
  have hX_ : wa.heap[w.heap.size]? = some (.cells #[.int .u64 a0, .int .u64 a1, .int .u64 a2, .int .u64 a3] 25 (0, 0)) := heap_keep' hb (by repeat (first | (with_reducible refine heap_new' ?_ _; simp; done) | (with_reducible refine keep4 ?_ (by omega) _ _ _ _) | (with_reducible refine heap_old ?_ _) | (with_reducible refine heap_drew ?_) | (with_reducible refine heap_set_ne ?_ (by simp <;> omega) _)))
  clear hb
  have HB := HBn; clear HBn
  have HX := Lib.hid hX_; have cX := cells4 hX_; have fX := frozen_of hX_; have zX := lt_of_heap hX_; clear hX_
  go_wp2_with (fail)
  go_at_call 24
  refine (HP.out _).mono ?_
  rintro e wb ⟨rfl, hb⟩
  have HBn : Hid (Below w.heap.size w wb) := Lib.hid (below_call (by have hB0 := HB.out; have hS0 := hB0.size; first | exact hB0 | exact set4_below hB0 (by omega) _ _ _ _ | go_grown) (by have hB0 := HB.out; have hS0 := hB0.size; first | exact hS0 | (rw [size4]; exact hS0) | (simp; omega) | simp | omega) hb)
  have hX_ : wb.heap[w.heap.size]? = some (.cells #[.int .u64 a0, .int .u64 a1, .int .u64 a2, .int .u64 a3] 25 (0, 0)) := heap_keep' hb (by repeat (first | (with_reducible exact HX.out) | (with_reducible exact set4 HX.out _ _ _ _) | (with_reducible refine heap_new' ?_ _; simp; done) | (with_reducible refine keep4 ?_ (by omega) _ _ _ _) | (with_reducible refine heap_old ?_ _) | (with_reducible refine heap_drew ?_) | (with_reducible refine heap_set_ne ?_ (by simp <;> omega) _)))
  clear hb HB HX cX fX zX
  have HB := HBn; clear HBn
  have HX := Lib.hid hX_; have cX := cells4 hX_; have fX := frozen_of hX_; have zX := lt_of_heap hX_; clear hX_
  go_wp2_with (fail)
  go_at_call 26
  refine (HS.out _).mono ?_
  rintro e wc ⟨rfl, hb⟩
  have HBn : Hid (Below w.heap.size w wc) := Lib.hid (below_call (by have hB0 := HB.out; have hS0 := hB0.size; first | exact hB0 | exact set4_below hB0 (by omega) _ _ _ _ | go_grown) (by have hB0 := HB.out; have hS0 := hB0.size; first | exact hS0 | (rw [size4]; exact hS0) | (simp; omega) | simp | omega) hb)
  have hX_ : wc.heap[w.heap.size]? = some (.cells #[.int .u64 a0, .int .u64 a1, .int .u64 a2, .int .u64 a3] 25 (0, 0)) := heap_keep' hb (by repeat (first | (with_reducible exact HX.out) | (with_reducible exact set4 HX.out _ _ _ _) | (with_reducible refine heap_new' ?_ _; simp; done) | (with_reducible refine keep4 ?_ (by omega) _ _ _ _) | (with_reducible refine heap_old ?_ _) | (with_reducible refine heap_drew ?_) | (with_reducible refine heap_set_ne ?_ (by simp <;> omega) _)))
  clear hb HB HX cX fX zX
  have HB := HBn; clear HBn
  have HX := Lib.hid hX_; have cX := cells4 hX_; have fX := frozen_of hX_; have zX := lt_of_heap hX_; clear hX_
  go_wp2_with (fail)
  go_at_call 23
  refine (HA.out _ _ (heap_new' (by simp) _)).mono ?_
  rintro e wd ⟨rfl, hb⟩
  have HBn : Hid (Below w.heap.size w wd) := Lib.hid (below_call (by have hB0 := HB.out; have hS0 := hB0.size; first | exact hB0 | exact set4_below hB0 (by omega) _ _ _ _ | go_grown) (by have hB0 := HB.out; have hS0 := hB0.size; first | exact hS0 | (rw [size4]; exact hS0) | (simp; omega) | simp | omega) hb)
  have hX_ : wd.heap[w.heap.size]? = some (.cells #[.int .u64 a0, .int .u64 a1, .int .u64 a2, .int .u64 a3] 25 (0, 0)) := heap_keep' hb (by repeat (first | (with_reducible exact HX.out) | (with_reducible exact set4 HX.out _ _ _ _) | (with_reducible refine heap_new' ?_ _; simp; done) | (with_reducible refine keep4 ?_ (by omega) _ _ _ _) | (with_reducible refine heap_old ?_ _) | (with_reducible refine heap_drew ?_) | (with_reducible refine heap_set_ne ?_ (by simp <;> omega) _)))
  have hBl_ : wd.heap[wc.heap.size]? = some (.cells #[.int .u64 l0, .int .u64 l1, .int .u64 l2, .int .u64 l3] 25 (0, 0)) := heap_keep' hb (by repeat (first | (with_reducible refine heap_new' ?_ _; simp; done) | (with_reducible refine keep4 ?_ (by omega) _ _ _ _) | (with_reducible refine heap_old ?_ _) | (with_reducible refine heap_drew ?_) | (with_reducible refine heap_set_ne ?_ (by simp <;> omega) _)))
  have hBo_ : wd.heap[wc.heap.size + 1]? = some (.cells #[.int .u64 1, .int .u64 0, .int .u64 0, .int .u64 0] 25 (0, 0)) := heap_keep' hb (by repeat (first | (with_reducible refine heap_new' ?_ _; simp; done) | (with_reducible refine keep4 ?_ (by omega) _ _ _ _) | (with_reducible refine heap_old ?_ _) | (with_reducible refine heap_drew ?_) | (with_reducible refine heap_set_ne ?_ (by simp <;> omega) _)))
  clear hb HB HX cX fX zX
  have HB := HBn; clear HBn
  have HX := Lib.hid hX_; have cX := cells4 hX_; have fX := frozen_of hX_; have zX := lt_of_heap hX_; clear hX_
  have HBl := Lib.hid hBl_; have cBl := cells4 hBl_; have fBl := frozen_of hBl_; have zBl := lt_of_heap hBl_; clear hBl_
  have HBo := Lib.hid hBo_; have cBo := cells4 hBo_; have fBo := frozen_of hBo_; have zBo := lt_of_heap hBo_; clear hBo_
  go_wp2_with (fail)
  go_at_call 15
  refine (HZ.out _).mono ?_
  rintro e we ⟨rfl, hb⟩
  have HBn : Hid (Below w.heap.size w we) := Lib.hid (below_call (by have hB0 := HB.out; have hS0 := hB0.size; first | exact hB0 | exact set4_below hB0 (by omega) _ _ _ _ | go_grown) (by have hB0 := HB.out; have hS0 := hB0.size; first | exact hS0 | (rw [size4]; exact hS0) | (simp; omega) | simp | omega) hb)
  have hX_ : we.heap[w.heap.size]? = some (.cells #[.int .u64 a0, .int .u64 a1, .int .u64 a2, .int .u64 a3] 25 (0, 0)) := heap_keep' hb (by repeat (first | (with_reducible exact HX.out) | (with_reducible exact set4 HX.out _ _ _ _) | (with_reducible refine heap_new' ?_ _; simp; done) | (with_reducible refine keep4 ?_ (by omega) _ _ _ _) | (with_reducible refine heap_old ?_ _) | (with_reducible refine heap_drew ?_) | (with_reducible refine heap_set_ne ?_ (by simp <;> omega) _)))
  have hBl_ : we.heap[wc.heap.size]? = some (.cells #[.int .u64 l0, .int .u64 l1, .int .u64 l2, .int .u64 l3] 25 (0, 0)) := heap_keep' hb (by repeat (first | (with_reducible exact HBl.out) | (with_reducible exact set4 HBl.out _ _ _ _) | (with_reducible refine heap_new' ?_ _; simp; done) | (with_reducible refine keep4 ?_ (by omega) _ _ _ _) | (with_reducible refine heap_old ?_ _) | (with_reducible refine heap_drew ?_) | (with_reducible refine heap_set_ne ?_ (by simp <;> omega) _)))
  have hBo_ : we.heap[wc.heap.size + 1]? = some (.cells #[.int .u64 1, .int .u64 0, .int .u64 0, .int .u64 0] 25 (0, 0)) := heap_keep' hb (by repeat (first | (with_reducible exact HBo.out) | (with_reducible exact set4 HBo.out _ _ _ _) | (with_reducible refine heap_new' ?_ _; simp; done) | (with_reducible refine keep4 ?_ (by omega) _ _ _ _) | (with_reducible refine heap_old ?_ _) | (with_reducible refine heap_drew ?_) | (with_reducible refine heap_set_ne ?_ (by simp <;> omega) _)))
  clear hb HB HX cX fX zX HBl cBl fBl zBl HBo cBo fBo zBo
  have HB := HBn; clear HBn
  have HX := Lib.hid hX_; have cX := cells4 hX_; have fX := frozen_of hX_; have zX := lt_of_heap hX_; clear hX_
  have HBl := Lib.hid hBl_; have cBl := cells4 hBl_; have fBl := frozen_of hBl_; have zBl := lt_of_heap hBl_; clear hBl_
  have HBo := Lib.hid hBo_; have cBo := cells4 hBo_; have fBo := frozen_of hBo_; have zBo := lt_of_heap hBo_; clear hBo_
  go_wp2_with (fail)
  go_at_call 34
  refine (HF.out _).mono ?_
  rintro e wf ⟨rfl, hb⟩
  have HBn : Hid (Below w.heap.size w wf) := Lib.hid (below_call (by have hB0 := HB.out; have hS0 := hB0.size; first | exact hB0 | exact set4_below hB0 (by omega) _ _ _ _ | go_grown) (by have hB0 := HB.out; have hS0 := hB0.size; first | exact hS0 | (rw [size4]; exact hS0) | (simp; omega) | simp | omega) hb)
  have hX_ : wf.heap[w.heap.size]? = some (.cells #[.int .u64 a0, .int .u64 a1, .int .u64 a2, .int .u64 a3] 25 (0, 0)) := heap_keep' hb (by repeat (first | (with_reducible exact HX.out) | (with_reducible exact set4 HX.out _ _ _ _) | (with_reducible refine heap_new' ?_ _; simp; done) | (with_reducible refine keep4 ?_ (by omega) _ _ _ _) | (with_reducible refine heap_old ?_ _) | (with_reducible refine heap_drew ?_) | (with_reducible refine heap_set_ne ?_ (by simp <;> omega) _)))
  have hBl_ : wf.heap[wc.heap.size]? = some (.cells #[.int .u64 l0, .int .u64 l1, .int .u64 l2, .int .u64 l3] 25 (0, 0)) := heap_keep' hb (by repeat (first | (with_reducible exact HBl.out) | (with_reducible exact set4 HBl.out _ _ _ _) | (with_reducible refine heap_new' ?_ _; simp; done) | (with_reducible refine keep4 ?_ (by omega) _ _ _ _) | (with_reducible refine heap_old ?_ _) | (with_reducible refine heap_drew ?_) | (with_reducible refine heap_set_ne ?_ (by simp <;> omega) _)))
  have hBo_ : wf.heap[wc.heap.size + 1]? = some (.cells #[.int .u64 1, .int .u64 0, .int .u64 0, .int .u64 0] 25 (0, 0)) := heap_keep' hb (by repeat (first | (with_reducible exact HBo.out) | (with_reducible exact set4 HBo.out _ _ _ _) | (with_reducible refine heap_new' ?_ _; simp; done) | (with_reducible refine keep4 ?_ (by omega) _ _ _ _) | (with_reducible refine heap_old ?_ _) | (with_reducible refine heap_drew ?_) | (with_reducible refine heap_set_ne ?_ (by simp <;> omega) _)))
  clear hb HB HX cX fX zX HBl cBl fBl zBl HBo cBo fBo zBo
  have HB := HBn; clear HBn
  have HX := Lib.hid hX_; have cX := cells4 hX_; have fX := frozen_of hX_; have zX := lt_of_heap hX_; clear hX_
  have HBl := Lib.hid hBl_; have cBl := cells4 hBl_; have fBl := frozen_of hBl_; have zBl := lt_of_heap hBl_; clear hBl_
  have HBo := Lib.hid hBo_; have cBo := cells4 hBo_; have fBo := frozen_of hBo_; have zBo := lt_of_heap hBo_; clear hBo_
  go_wp2_with (fail)
  go_at_call 15
  refine (HY.out _).mono ?_
  rintro e wg ⟨rfl, hb⟩
  have HBn : Hid (Below w.heap.size w wg) := Lib.hid (below_call (by have hB0 := HB.out; have hS0 := hB0.size; first | exact hB0 | exact set4_below hB0 (by omega) _ _ _ _ | go_grown) (by have hB0 := HB.out; have hS0 := hB0.size; first | exact hS0 | (rw [size4]; exact hS0) | (simp; omega) | simp | omega) hb)
  have hX_ : wg.heap[w.heap.size]? = some (.cells #[.int .u64 a0, .int .u64 a1, .int .u64 a2, .int .u64 a3] 25 (0, 0)) := heap_keep' hb (by repeat (first | (with_reducible exact HX.out) | (with_reducible exact set4 HX.out _ _ _ _) | (with_reducible refine heap_new' ?_ _; simp; done) | (with_reducible refine keep4 ?_ (by omega) _ _ _ _) | (with_reducible refine heap_old ?_ _) | (with_reducible refine heap_drew ?_) | (with_reducible refine heap_set_ne ?_ (by simp <;> omega) _)))
  have hBl_ : wg.heap[wc.heap.size]? = some (.cells #[.int .u64 l0, .int .u64 l1, .int .u64 l2, .int .u64 l3] 25 (0, 0)) := heap_keep' hb (by repeat (first | (with_reducible exact HBl.out) | (with_reducible exact set4 HBl.out _ _ _ _) | (with_reducible refine heap_new' ?_ _; simp; done) | (with_reducible refine keep4 ?_ (by omega) _ _ _ _) | (with_reducible refine heap_old ?_ _) | (with_reducible refine heap_drew ?_) | (with_reducible refine heap_set_ne ?_ (by simp <;> omega) _)))
  have hBo_ : wg.heap[wc.heap.size + 1]? = some (.cells #[.int .u64 1, .int .u64 0, .int .u64 0, .int .u64 0] 25 (0, 0)) := heap_keep' hb (by repeat (first | (with_reducible exact HBo.out) | (with_reducible exact set4 HBo.out _ _ _ _) | (with_reducible refine heap_new' ?_ _; simp; done) | (with_reducible refine keep4 ?_ (by omega) _ _ _ _) | (with_reducible refine heap_old ?_ _) | (with_reducible refine heap_drew ?_) | (with_reducible refine heap_set_ne ?_ (by simp <;> omega) _)))
  clear hb HB HX cX fX zX HBl cBl fBl zBl HBo cBo fBo zBo
  have HB := HBn; clear HBn
  have HX := Lib.hid hX_; have cX := cells4 hX_; have fX := frozen_of hX_; have zX := lt_of_heap hX_; clear hX_
  have HBl := Lib.hid hBl_; have cBl := cells4 hBl_; have fBl := frozen_of hBl_; have zBl := lt_of_heap hBl_; clear hBl_
  have HBo := Lib.hid hBo_; have cBo := cells4 hBo_; have fBo := frozen_of hBo_; have zBo := lt_of_heap hBo_; clear hBo_
  go_wp2
  go_ret
  refine ⟨rfl, ?_⟩
  have hB0 := HB.out; have hS0 := hB0.size; first | exact hB0 | go_grown

set_option maxHeartbeats 4000000 in
theorem ferm_other (a0 a1 a2 a3 n m : Nat) (ha : W4 a0 a1 a2 a3) (hn : n < 256) (hm : m < 256) (hza : V a0 a1 a2 a3 % pP ≠ 0) : ∀ w : World, Calls Try.prog 7 #[.agg #[.int .u64 a0, .int .u64 a1, .int .u64 a2, .int .u64 a3], .int .u8 n, .int .u8 m] w fun e w' => e = .returned (.bool true) ∧ Below w.heap.size w w' := by
  have h1 : W4 1 0 0 0 := W4_one (by omega)
  have hnm : n * m < 65536 := Nat.mul_lt_mul'' hn hm
  obtain ⟨p0, p1, p2, p3, hpp, FP⟩ := prime_fact
  obtain ⟨l0, l1, l2, l3, ⟨hl, hlw⟩, FS⟩ := Sub_fact p0 p1 p2 p3 1 0 0 0 hpp.1 h1
  have hlv : V l0 l1 l2 l3 = pP - 1 := by rw [hlw, hpp.2, V_one]; decide +kernel
  obtain ⟨s0, s1, s2, s3, ⟨hs, hsv⟩, FA⟩ := Add1_fact a0 a1 a2 a3 ha
  obtain ⟨z, hz, FZ⟩ := zero_fact s0 s1 s2 s3
  obtain ⟨f0, f1, f2, f3, ⟨hf, hfv⟩, FF⟩ := Power_fact a0 a1 a2 a3 l0 l1 l2 l3 ha hl
  obtain ⟨g0, g1, g2, g3, ⟨hg, hgv⟩, FG⟩ := Power_fact a0 a1 a2 a3 n 0 0 0 ha (W4_one (by omega))
  obtain ⟨x0, x1, x2, x3, ⟨hx, hxv⟩, FX⟩ := Power_fact g0 g1 g2 g3 m 0 0 0 hg (W4_one (by omega))
  obtain ⟨y0, y1, y2, y3, ⟨hy, hyv⟩, FY⟩ := Power_fact a0 a1 a2 a3 (n * m) 0 0 0 ha (W4_one (by omega))
  obtain rfl : z = false := by
    cases z
    · rfl
    · exact absurd (hz.1 rfl) (by rw [hsv]; exact hza)
  have E1 : eqL [(f0 : Int), f1, f2, f3] [1, 0, 0, 0] = true := (eqL_V hf h1).2 (by rw [hfv, hlv, V_one]; exact Pl.fermat hza)
  have E2 : eqL [(x0 : Int), x1, x2, x3] [(y0 : Int), y1, y2, y3] = true := (eqL_V hx hy).2 (by
    rw [hxv, hyv, V_one, V_one, hgv, V_one, ← Nat.pow_mod, ← Nat.pow_mul])
  obtain ⟨k, hk⟩ : ∃ k : Nat, n * m = k := ⟨_, rfl⟩
  have cm : IntKind.u64.wrap ((n : Int) * (m : Int)) = (k : Int) := by
    have e : (n : Int) * (m : Int) = (k : Int) := by rw [← hk]; push_cast; rfl
    rw [e, IntKind.wrap_u64]; omega
  have cx : IntKind.u64.wrap (n : Int) = (n : Int) := by rw [IntKind.wrap_u64]; omega
  have cy : IntKind.u64.wrap (m : Int) = (m : Int) := by rw [IntKind.wrap_u64]; omega
  have cm2 : ((n : Int) * (m : Int)) % 18446744073709551616 = (k : Int) := by rw [← cm, IntKind.wrap_u64]
  rw [hk] at FY
  have H0 := Lib.hid awake_fact
  have HP := Lib.hid FP; have HS := Lib.hid FS; have HA := Lib.hid FA; have HZ := Lib.hid FZ; have HF := Lib.hid FF; have HY := Lib.hid FY; have HG := Lib.hid FG; have HX := Lib.hid FX
  clear FP FS FA FZ FF FY FG FX hk hyv hy hxv hx hgv hg hza hz hfv hf hsv hs hlv hlw hl hpp h1 ha hnm
  intro w
  go_enter Try.func7, Try.ntmps7
  go_wp2_with (fail)
  go_at_call 13
  refine (H0.out _).mono ?_
  rintro e wa ⟨rfl, hb⟩
  have HBn : Hid (Below w.heap.size w wa) := Lib.hid (below_call (by first | go_grown) (by first | (simp; omega) | simp | omega) hb)
  have hBa_ : wa.heap[w.heap.size]? = some (.cells #[.int .u64 a0, .int .u64 a1, .int .u64 a2, .int .u64 a3] 25 (0, 0)) := heap_keep' hb (by repeat (first | (with_reducible refine heap_new' ?_ _; simp; done) | (with_reducible refine keep4 ?_ (by omega) _ _ _ _) | (with_reducible refine heap_old ?_ _) | (with_reducible refine heap_drew ?_) | (with_reducible refine heap_set_ne ?_ (by simp <;> omega) _)))
  clear hb
  have HB := HBn; clear HBn
  have HBa := Lib.hid hBa_; have cBa := cells4 hBa_; have fBa := frozen_of hBa_; have zBa := lt_of_heap hBa_; clear hBa_
  go_wp2_with (fail)
  go_at_call 24
  refine (HP.out _).mono ?_
  rintro e wb ⟨rfl, hb⟩
  have HBn : Hid (Below w.heap.size w wb) := Lib.hid (below_call (by have hB0 := HB.out; have hS0 := hB0.size; first | exact hB0 | exact set4_below hB0 (by omega) _ _ _ _ | go_grown) (by have hB0 := HB.out; have hS0 := hB0.size; first | exact hS0 | (rw [size4]; exact hS0) | (simp; omega) | simp | omega) hb)
  have hBa_ : wb.heap[w.heap.size]? = some (.cells #[.int .u64 a0, .int .u64 a1, .int .u64 a2, .int .u64 a3] 25 (0, 0)) := heap_keep' hb (by repeat (first | (with_reducible exact HBa.out) | (with_reducible exact set4 HBa.out _ _ _ _) | (with_reducible refine heap_new' ?_ _; simp; done) | (with_reducible refine keep4 ?_ (by omega) _ _ _ _) | (with_reducible refine heap_old ?_ _) | (with_reducible refine heap_drew ?_) | (with_reducible refine heap_set_ne ?_ (by simp <;> omega) _)))
  clear hb HB HBa cBa fBa zBa
  have HB := HBn; clear HBn
  have HBa := Lib.hid hBa_; have cBa := cells4 hBa_; have fBa := frozen_of hBa_; have zBa := lt_of_heap hBa_; clear hBa_
  go_wp2_with (fail)
  go_at_call 26
  refine (HS.out _).mono ?_
  rintro e wc ⟨rfl, hb⟩
  have HBn : Hid (Below w.heap.size w wc) := Lib.hid (below_call (by have hB0 := HB.out; have hS0 := hB0.size; first | exact hB0 | exact set4_below hB0 (by omega) _ _ _ _ | go_grown) (by have hB0 := HB.out; have hS0 := hB0.size; first | exact hS0 | (rw [size4]; exact hS0) | (simp; omega) | simp | omega) hb)
  have hBa_ : wc.heap[w.heap.size]? = some (.cells #[.int .u64 a0, .int .u64 a1, .int .u64 a2, .int .u64 a3] 25 (0, 0)) := heap_keep' hb (by repeat (first | (with_reducible exact HBa.out) | (with_reducible exact set4 HBa.out _ _ _ _) | (with_reducible refine heap_new' ?_ _; simp; done) | (with_reducible refine keep4 ?_ (by omega) _ _ _ _) | (with_reducible refine heap_old ?_ _) | (with_reducible refine heap_drew ?_) | (with_reducible refine heap_set_ne ?_ (by simp <;> omega) _)))
  clear hb HB HBa cBa fBa zBa
  have HB := HBn; clear HBn
  have HBa := Lib.hid hBa_; have cBa := cells4 hBa_; have fBa := frozen_of hBa_; have zBa := lt_of_heap hBa_; clear hBa_
  go_wp2_with (fail)
  go_at_call 23
  refine (HA.out _ _ (heap_new' (by simp) _)).mono ?_
  rintro e wd ⟨rfl, hb⟩
  have HBn : Hid (Below w.heap.size w wd) := Lib.hid (below_call (by have hB0 := HB.out; have hS0 := hB0.size; first | exact hB0 | exact set4_below hB0 (by omega) _ _ _ _ | go_grown) (by have hB0 := HB.out; have hS0 := hB0.size; first | exact hS0 | (rw [size4]; exact hS0) | (simp; omega) | simp | omega) hb)
  have hBa_ : wd.heap[w.heap.size]? = some (.cells #[.int .u64 a0, .int .u64 a1, .int .u64 a2, .int .u64 a3] 25 (0, 0)) := heap_keep' hb (by repeat (first | (with_reducible exact HBa.out) | (with_reducible exact set4 HBa.out _ _ _ _) | (with_reducible refine heap_new' ?_ _; simp; done) | (with_reducible refine keep4 ?_ (by omega) _ _ _ _) | (with_reducible refine heap_old ?_ _) | (with_reducible refine heap_drew ?_) | (with_reducible refine heap_set_ne ?_ (by simp <;> omega) _)))
  have hBl_ : wd.heap[wc.heap.size]? = some (.cells #[.int .u64 l0, .int .u64 l1, .int .u64 l2, .int .u64 l3] 25 (0, 0)) := heap_keep' hb (by repeat (first | (with_reducible refine heap_new' ?_ _; simp; done) | (with_reducible refine keep4 ?_ (by omega) _ _ _ _) | (with_reducible refine heap_old ?_ _) | (with_reducible refine heap_drew ?_) | (with_reducible refine heap_set_ne ?_ (by simp <;> omega) _)))
  have hBo_ : wd.heap[wc.heap.size + 1]? = some (.cells #[.int .u64 1, .int .u64 0, .int .u64 0, .int .u64 0] 25 (0, 0)) := heap_keep' hb (by repeat (first | (with_reducible refine heap_new' ?_ _; simp; done) | (with_reducible refine keep4 ?_ (by omega) _ _ _ _) | (with_reducible refine heap_old ?_ _) | (with_reducible refine heap_drew ?_) | (with_reducible refine heap_set_ne ?_ (by simp <;> omega) _)))
  clear hb HB HBa cBa fBa zBa
  have HB := HBn; clear HBn
  have HBa := Lib.hid hBa_; have cBa := cells4 hBa_; have fBa := frozen_of hBa_; have zBa := lt_of_heap hBa_; clear hBa_
  have HBl := Lib.hid hBl_; have cBl := cells4 hBl_; have fBl := frozen_of hBl_; have zBl := lt_of_heap hBl_; clear hBl_
  have HBo := Lib.hid hBo_; have cBo := cells4 hBo_; have fBo := frozen_of hBo_; have zBo := lt_of_heap hBo_; clear hBo_
  go_wp2_with (fail)
  go_at_call 15
  refine (HZ.out _).mono ?_
  rintro e we ⟨rfl, hb⟩
  have HBn : Hid (Below w.heap.size w we) := Lib.hid (below_call (by have hB0 := HB.out; have hS0 := hB0.size; first | exact hB0 | exact set4_below hB0 (by omega) _ _ _ _ | go_grown) (by have hB0 := HB.out; have hS0 := hB0.size; first | exact hS0 | (rw [size4]; exact hS0) | (simp; omega) | simp | omega) hb)
  have hBa_ : we.heap[w.heap.size]? = some (.cells #[.int .u64 a0, .int .u64 a1, .int .u64 a2, .int .u64 a3] 25 (0, 0)) := heap_keep' hb (by repeat (first | (with_reducible exact HBa.out) | (with_reducible exact set4 HBa.out _ _ _ _) | (with_reducible refine heap_new' ?_ _; simp; done) | (with_reducible refine keep4 ?_ (by omega) _ _ _ _) | (with_reducible refine heap_old ?_ _) | (with_reducible refine heap_drew ?_) | (with_reducible refine heap_set_ne ?_ (by simp <;> omega) _)))
  have hBl_ : we.heap[wc.heap.size]? = some (.cells #[.int .u64 l0, .int .u64 l1, .int .u64 l2, .int .u64 l3] 25 (0, 0)) := heap_keep' hb (by repeat (first | (with_reducible exact HBl.out) | (with_reducible exact set4 HBl.out _ _ _ _) | (with_reducible refine heap_new' ?_ _; simp; done) | (with_reducible refine keep4 ?_ (by omega) _ _ _ _) | (with_reducible refine heap_old ?_ _) | (with_reducible refine heap_drew ?_) | (with_reducible refine heap_set_ne ?_ (by simp <;> omega) _)))
  have hBo_ : we.heap[wc.heap.size + 1]? = some (.cells #[.int .u64 1, .int .u64 0, .int .u64 0, .int .u64 0] 25 (0, 0)) := heap_keep' hb (by repeat (first | (with_reducible exact HBo.out) | (with_reducible exact set4 HBo.out _ _ _ _) | (with_reducible refine heap_new' ?_ _; simp; done) | (with_reducible refine keep4 ?_ (by omega) _ _ _ _) | (with_reducible refine heap_old ?_ _) | (with_reducible refine heap_drew ?_) | (with_reducible refine heap_set_ne ?_ (by simp <;> omega) _)))
  clear hb HB HBa cBa fBa zBa HBl cBl fBl zBl HBo cBo fBo zBo
  have HB := HBn; clear HBn
  have HBa := Lib.hid hBa_; have cBa := cells4 hBa_; have fBa := frozen_of hBa_; have zBa := lt_of_heap hBa_; clear hBa_
  have HBl := Lib.hid hBl_; have cBl := cells4 hBl_; have fBl := frozen_of hBl_; have zBl := lt_of_heap hBl_; clear hBl_
  have HBo := Lib.hid hBo_; have cBo := cells4 hBo_; have fBo := frozen_of hBo_; have zBo := lt_of_heap hBo_; clear hBo_
  go_wp2_with (fail)
  go_at_call 34
  refine (HG.out _).mono ?_
  rintro e wf ⟨rfl, hb⟩
  have HBn : Hid (Below w.heap.size w wf) := Lib.hid (below_call (by have hB0 := HB.out; have hS0 := hB0.size; first | exact hB0 | exact set4_below hB0 (by omega) _ _ _ _ | go_grown) (by have hB0 := HB.out; have hS0 := hB0.size; first | exact hS0 | (rw [size4]; exact hS0) | (simp; omega) | simp | omega) hb)
  have hBa_ : wf.heap[w.heap.size]? = some (.cells #[.int .u64 a0, .int .u64 a1, .int .u64 a2, .int .u64 a3] 25 (0, 0)) := heap_keep' hb (by repeat (first | (with_reducible exact HBa.out) | (with_reducible exact set4 HBa.out _ _ _ _) | (with_reducible refine heap_new' ?_ _; simp; done) | (with_reducible refine keep4 ?_ (by omega) _ _ _ _) | (with_reducible refine heap_old ?_ _) | (with_reducible refine heap_drew ?_) | (with_reducible refine heap_set_ne ?_ (by simp <;> omega) _)))
  have hBl_ : wf.heap[wc.heap.size]? = some (.cells #[.int .u64 l0, .int .u64 l1, .int .u64 l2, .int .u64 l3] 25 (0, 0)) := heap_keep' hb (by repeat (first | (with_reducible exact HBl.out) | (with_reducible exact set4 HBl.out _ _ _ _) | (with_reducible refine heap_new' ?_ _; simp; done) | (with_reducible refine keep4 ?_ (by omega) _ _ _ _) | (with_reducible refine heap_old ?_ _) | (with_reducible refine heap_drew ?_) | (with_reducible refine heap_set_ne ?_ (by simp <;> omega) _)))
  have hBo_ : wf.heap[wc.heap.size + 1]? = some (.cells #[.int .u64 1, .int .u64 0, .int .u64 0, .int .u64 0] 25 (0, 0)) := heap_keep' hb (by repeat (first | (with_reducible exact HBo.out) | (with_reducible exact set4 HBo.out _ _ _ _) | (with_reducible refine heap_new' ?_ _; simp; done) | (with_reducible refine keep4 ?_ (by omega) _ _ _ _) | (with_reducible refine heap_old ?_ _) | (with_reducible refine heap_drew ?_) | (with_reducible refine heap_set_ne ?_ (by simp <;> omega) _)))
  clear hb HB HBa cBa fBa zBa HBl cBl fBl zBl HBo cBo fBo zBo
  have HB := HBn; clear HBn
  have HBa := Lib.hid hBa_; have cBa := cells4 hBa_; have fBa := frozen_of hBa_; have zBa := lt_of_heap hBa_; clear hBa_
  have HBl := Lib.hid hBl_; have cBl := cells4 hBl_; have fBl := frozen_of hBl_; have zBl := lt_of_heap hBl_; clear hBl_
  have HBo := Lib.hid hBo_; have cBo := cells4 hBo_; have fBo := frozen_of hBo_; have zBo := lt_of_heap hBo_; clear hBo_
  go_wp2_with (fail)
  go_at_call 34
  refine (HX.out _).mono ?_
  rintro e wg ⟨rfl, hb⟩
  have HBn : Hid (Below w.heap.size w wg) := Lib.hid (below_call (by have hB0 := HB.out; have hS0 := hB0.size; first | exact hB0 | exact set4_below hB0 (by omega) _ _ _ _ | go_grown) (by have hB0 := HB.out; have hS0 := hB0.size; first | exact hS0 | (rw [size4]; exact hS0) | (simp; omega) | simp | omega) hb)
  have hBa_ : wg.heap[w.heap.size]? = some (.cells #[.int .u64 a0, .int .u64 a1, .int .u64 a2, .int .u64 a3] 25 (0, 0)) := heap_keep' hb (by repeat (first | (with_reducible exact HBa.out) | (with_reducible exact set4 HBa.out _ _ _ _) | (with_reducible refine heap_new' ?_ _; simp; done) | (with_reducible refine keep4 ?_ (by omega) _ _ _ _) | (with_reducible refine heap_old ?_ _) | (with_reducible refine heap_drew ?_) | (with_reducible refine heap_set_ne ?_ (by simp <;> omega) _)))
  have hBl_ : wg.heap[wc.heap.size]? = some (.cells #[.int .u64 l0, .int .u64 l1, .int .u64 l2, .int .u64 l3] 25 (0, 0)) := heap_keep' hb (by repeat (first | (with_reducible exact HBl.out) | (with_reducible exact set4 HBl.out _ _ _ _) | (with_reducible refine heap_new' ?_ _; simp; done) | (with_reducible refine keep4 ?_ (by omega) _ _ _ _) | (with_reducible refine heap_old ?_ _) | (with_reducible refine heap_drew ?_) | (with_reducible refine heap_set_ne ?_ (by simp <;> omega) _)))
  have hBo_ : wg.heap[wc.heap.size + 1]? = some (.cells #[.int .u64 1, .int .u64 0, .int .u64 0, .int .u64 0] 25 (0, 0)) := heap_keep' hb (by repeat (first | (with_reducible exact HBo.out) | (with_reducible exact set4 HBo.out _ _ _ _) | (with_reducible refine heap_new' ?_ _; simp; done) | (with_reducible refine keep4 ?_ (by omega) _ _ _ _) | (with_reducible refine heap_old ?_ _) | (with_reducible refine heap_drew ?_) | (with_reducible refine heap_set_ne ?_ (by simp <;> omega) _)))
  clear hb HB HBa cBa fBa zBa HBl cBl fBl zBl HBo cBo fBo zBo
  have HB := HBn; clear HBn
  have HBa := Lib.hid hBa_; have cBa := cells4 hBa_; have fBa := frozen_of hBa_; have zBa := lt_of_heap hBa_; clear hBa_
  have HBl := Lib.hid hBl_; have cBl := cells4 hBl_; have fBl := frozen_of hBl_; have zBl := lt_of_heap hBl_; clear hBl_
  have HBo := Lib.hid hBo_; have cBo := cells4 hBo_; have fBo := frozen_of hBo_; have zBo := lt_of_heap hBo_; clear hBo_
  go_wp2
  refine Rg.region_ (n := 50) [0, 0, 3, 0, 15, 31, 63, 63, 63, 319, 63, 1087, 3903, 7999, 16319, 32767, 65535, 131071] [1, 1, 1, 1, 0, 0, 1, 1, 0, 0, 0, 0, 0, 0, 1, 0, 0, 0] [33, 34, 35, 36, 37, 38, 39, 40, 41, 42, 43, 44, 45, 46, 47, 48, 49, 6] [[(3, none)], [(7, none)], [(33, some 0), (34, some 1)], [(8, none)], [(35, some 2), (36, some 3)], [(37, some 4)], [(9, none), (38, some 5)], [(3, none), (38, some 5)], [(1, none), (38, some 5)], [(41, some 8), (38, some 5)], [(2, none), (38, some 5)], [(43, some 10), (38, some 5)], [(42, some 9), (44, some 11), (38, some 5)], [(45, some 12), (38, some 5)], [(40, some 7), (46, some 13), (38, some 5)], [(39, some 6), (47, some 14), (38, some 5)], [(38, some 5), (48, some 15)], [(49, some 16)]] 18 (by kernel_rfl) (by kernel_rfl) (by rfl) ?_
  intro W hW
  have hBa_ : W.heap[w.heap.size]? = some (.cells #[.int .u64 a0, .int .u64 a1, .int .u64 a2, .int .u64 a3] 25 (0, 0)) := by rw [hW]; exact (by repeat (first | (with_reducible exact HBa.out) | (with_reducible exact set4 HBa.out _ _ _ _) | (with_reducible refine heap_new' ?_ _; simp; done) | (with_reducible refine keep4 ?_ (by omega) _ _ _ _) | (with_reducible refine heap_old ?_ _) | (with_reducible refine heap_drew ?_) | (with_reducible refine heap_set_ne ?_ (by simp <;> omega) _)))
  have hBl_ : W.heap[wc.heap.size]? = some (.cells #[.int .u64 l0, .int .u64 l1, .int .u64 l2, .int .u64 l3] 25 (0, 0)) := by rw [hW]; exact (by repeat (first | (with_reducible exact HBl.out) | (with_reducible exact set4 HBl.out _ _ _ _) | (with_reducible refine heap_new' ?_ _; simp; done) | (with_reducible refine keep4 ?_ (by omega) _ _ _ _) | (with_reducible refine heap_old ?_ _) | (with_reducible refine heap_drew ?_) | (with_reducible refine heap_set_ne ?_ (by simp <;> omega) _)))
  have hBo_ : W.heap[wc.heap.size + 1]? = some (.cells #[.int .u64 1, .int .u64 0, .int .u64 0, .int .u64 0] 25 (0, 0)) := by rw [hW]; exact (by repeat (first | (with_reducible exact HBo.out) | (with_reducible exact set4 HBo.out _ _ _ _) | (with_reducible refine heap_new' ?_ _; simp; done) | (with_reducible refine keep4 ?_ (by omega) _ _ _ _) | (with_reducible refine heap_old ?_ _) | (with_reducible refine heap_drew ?_) | (with_reducible refine heap_set_ne ?_ (by simp <;> omega) _)))
  have hBx_ : W.heap[wg.heap.size]? = some (.cells #[.int .u64 x0, .int .u64 x1, .int .u64 x2, .int .u64 x3] 25 (0, 0)) := by rw [hW]; exact (by repeat (first | (with_reducible refine heap_new' ?_ _; simp; done) | (with_reducible refine keep4 ?_ (by omega) _ _ _ _) | (with_reducible refine heap_old ?_ _) | (with_reducible refine heap_drew ?_) | (with_reducible refine heap_set_ne ?_ (by simp <;> omega) _)))
  have HB0 : Below w.heap.size w W := by rw [hW]; have hB0 := HB.out; have hS0 := hB0.size; first | exact hB0.drew | exact (set4_below hB0 (by omega) _ _ _ _).drew | go_grown
  change Rg.Chain' _ _ _ _ _ [(0, 1, 33, [(3, none)]), (1, 1, 34, [(7, none)]), (2, 1, 35, [(33, some 0), (34, some 1)]), (3, 1, 36, [(8, none)]), (4, 0, 37, [(35, some 2), (36, some 3)]), (5, 0, 38, [(37, some 4)]), (6, 1, 39, [(9, none), (38, some 5)]), (7, 1, 40, [(3, none), (38, some 5)]), (8, 0, 41, [(1, none), (38, some 5)]), (9, 0, 42, [(41, some 8), (38, some 5)]), (10, 0, 43, [(2, none), (38, some 5)]), (11, 0, 44, [(43, some 10), (38, some 5)]), (12, 0, 45, [(42, some 9), (44, some 11), (38, some 5)]), (13, 0, 46, [(45, some 12), (38, some 5)]), (14, 1, 47, [(40, some 7), (46, some 13), (38, some 5)]), (15, 0, 48, [(39, some 6), (47, some 14), (38, some 5)]), (16, 0, 49, [(38, some 5), (48, some 15)]), (17, 0, 6, [(49, some 16)])] [(0, 1, 33, [(3, none)]), (1, 1, 34, [(7, none)]), (2, 1, 35, [(33, some 0), (34, some 1)]), (3, 1, 36, [(8, none)]), (4, 0, 37, [(35, some 2), (36, some 3)]), (5, 0, 38, [(37, some 4)]), (6, 1, 39, [(9, none), (38, some 5)]), (7, 1, 40, [(3, none), (38, some 5)]), (8, 0, 41, [(1, none), (38, some 5)]), (9, 0, 42, [(41, some 8), (38, some 5)]), (10, 0, 43, [(2, none), (38, some 5)]), (11, 0, 44, [(43, some 10), (38, some 5)]), (12, 0, 45, [(42, some 9), (44, some 11), (38, some 5)]), (13, 0, 46, [(45, some 12), (38, some 5)]), (14, 1, 47, [(40, some 7), (46, some 13), (38, some 5)]), (15, 0, 48, [(39, some 6), (47, some 14), (38, some 5)]), (16, 0, 49, [(38, some 5), (48, some 15)]), (17, 0, 6, [(49, some 16)])] _
  apply Rg.ch_def (by rfl) (fun a w1 _ => Rg.wanted_none (by rfl))
  · rintro a w1 hb ⟨e3, -⟩
    conv at e3 => rhs; whnf
    have n3 := e3
    simp only [Act.eval, Array.getD_eq_getD_getElem?] at n3
    apply Rg.gives_value
    · conv => lhs; simp [go_sem, n3, cells4 (heap_keep' hb hBa_), cells4 (heap_keep' hb hBl_), cells4 (heap_keep' hb hBo_), cells4 (heap_keep' hb hBx_)]
    · exact ⟨rfl, Below.refl _ _⟩
  apply Rg.ch_def (by rfl) (fun a w1 _ => Rg.wanted_none (by rfl))
  · rintro a w1 hb ⟨e7, -⟩
    conv at e7 => rhs; whnf
    have n7 := e7
    simp only [Act.eval, Array.getD_eq_getD_getElem?] at n7
    apply Rg.gives_value
    · conv => lhs; simp [go_sem, n7, cells4 (heap_keep' hb hBa_), cells4 (heap_keep' hb hBl_), cells4 (heap_keep' hb hBo_), cells4 (heap_keep' hb hBx_)]
    · exact ⟨rfl, Below.refl _ _⟩
  apply Rg.ch_def (by rfl) (fun a w1 _ => Rg.wanted_none (by rfl))
  · rintro a w1 hb ⟨e33, e34, -⟩
    replace e33 : a.eval (.tmp 33) = _ := e33
    replace e34 : a.eval (.tmp 34) = _ := e34
    apply Rg.gives_enter
    · apply run_call Try.func34 (by kernel_rfl) rfl _ (by rfl)
      conv => lhs; simp only [List.map_toArray, List.map_cons, List.map_nil, eval_const_, eval_global_, e33, e34]
    · refine (HF.out _).mono ?_
      rintro e w2 ⟨rfl, hb2⟩
      exact ⟨_, rfl, rfl, hb2⟩
  apply Rg.ch_def (by rfl) (fun a w1 _ => Rg.wanted_none (by rfl))
  · rintro a w1 hb ⟨e8, -⟩
    conv at e8 => rhs; whnf
    have n8 := e8
    simp only [Act.eval, Array.getD_eq_getD_getElem?] at n8
    apply Rg.gives_value
    · conv => lhs; simp [go_sem, n8, cells4 (heap_keep' hb hBa_), cells4 (heap_keep' hb hBl_), cells4 (heap_keep' hb hBo_), cells4 (heap_keep' hb hBx_)]
    · exact ⟨rfl, Below.refl _ _⟩
  apply Rg.ch_pure (by rfl)
  · rintro a w1 ⟨e35, e36, -⟩
    replace e35 : a.eval (.tmp 35) = _ := e35
    have n35 := e35
    simp only [Act.eval, Array.getD_eq_getD_getElem?] at n35
    replace e36 : a.eval (.tmp 36) = _ := e36
    have n36 := e36
    simp only [Act.eval, Array.getD_eq_getD_getElem?] at n36
    apply Rg.yields_run (Rg.wanted_none (by rfl))
    intro w2
    conv => lhs; simp [go_sem, n35, n36, E1, E2, cm, cm2, cx, cy]
  apply Rg.ch_pure (by rfl)
  · rintro a w1 ⟨e37, -⟩
    replace e37 : a.eval (.tmp 37) = _ := e37
    have n37 := e37
    simp only [Act.eval, Array.getD_eq_getD_getElem?] at n37
    apply Rg.yields_run (Rg.wanted_none (by rfl))
    intro w2
    conv => lhs; simp [go_sem, n37, E1, E2, cm, cm2, cx, cy]
  apply Rg.ch_def (by rfl) (fun a w1 h => by obtain ⟨-, e38, -⟩ := h; exact Rg.wanted_some (by rfl) (by rfl) e38)
  · rintro a w1 hb ⟨e9, e38, -⟩
    conv at e9 => rhs; whnf
    have n9 := e9
    simp only [Act.eval, Array.getD_eq_getD_getElem?] at n9
    replace e38 : a.eval (.tmp 38) = _ := e38
    have n38 := e38
    simp only [Act.eval, Array.getD_eq_getD_getElem?] at n38
    apply Rg.gives_value
    · conv => lhs; simp [go_sem, n9, n38, cells4 (heap_keep' hb hBa_), cells4 (heap_keep' hb hBl_), cells4 (heap_keep' hb hBo_), cells4 (heap_keep' hb hBx_)]
    · exact ⟨rfl, Below.refl _ _⟩
  apply Rg.ch_def (by rfl) (fun a w1 h => by obtain ⟨-, e38, -⟩ := h; exact Rg.wanted_some (by rfl) (by rfl) e38)
  · rintro a w1 hb ⟨e3, e38, -⟩
    conv at e3 => rhs; whnf
    have n3 := e3
    simp only [Act.eval, Array.getD_eq_getD_getElem?] at n3
    replace e38 : a.eval (.tmp 38) = _ := e38
    have n38 := e38
    simp only [Act.eval, Array.getD_eq_getD_getElem?] at n38
    apply Rg.gives_value
    · conv => lhs; simp [go_sem, n3, n38, cells4 (heap_keep' hb hBa_), cells4 (heap_keep' hb hBl_), cells4 (heap_keep' hb hBo_), cells4 (heap_keep' hb hBx_)]
    · exact ⟨rfl, Below.refl _ _⟩
  apply Rg.ch_pure (by rfl)
  · rintro a w1 ⟨e1, e38, -⟩
    conv at e1 => rhs; whnf
    have n1 := e1
    simp only [Act.eval, Array.getD_eq_getD_getElem?] at n1
    replace e38 : a.eval (.tmp 38) = _ := e38
    have n38 := e38
    simp only [Act.eval, Array.getD_eq_getD_getElem?] at n38
    apply Rg.yields_run (Rg.wanted_some (by rfl) (by rfl) e38)
    intro w2
    conv => lhs; simp [go_sem, n1, n38, E1, E2, cm, cm2, cx, cy]
  apply Rg.ch_pure (by rfl)
  · rintro a w1 ⟨e41, e38, -⟩
    replace e41 : a.eval (.tmp 41) = _ := e41
    have n41 := e41
    simp only [Act.eval, Array.getD_eq_getD_getElem?] at n41
    replace e38 : a.eval (.tmp 38) = _ := e38
    have n38 := e38
    simp only [Act.eval, Array.getD_eq_getD_getElem?] at n38
    apply Rg.yields_run (Rg.wanted_some (by rfl) (by rfl) e38)
    intro w2
    conv => lhs; simp [go_sem, n41, n38, E1, E2, cm, cm2, cx, cy]
  apply Rg.ch_pure (by rfl)
  · rintro a w1 ⟨e2, e38, -⟩
    conv at e2 => rhs; whnf
    have n2 := e2
    simp only [Act.eval, Array.getD_eq_getD_getElem?] at n2
    replace e38 : a.eval (.tmp 38) = _ := e38
    have n38 := e38
    simp only [Act.eval, Array.getD_eq_getD_getElem?] at n38
    apply Rg.yields_run (Rg.wanted_some (by rfl) (by rfl) e38)
    intro w2
    conv => lhs; simp [go_sem, n2, n38, E1, E2, cm, cm2, cx, cy]
  apply Rg.ch_pure (by rfl)
  · rintro a w1 ⟨e43, e38, -⟩
    replace e43 : a.eval (.tmp 43) = _ := e43
    have n43 := e43
    simp only [Act.eval, Array.getD_eq_getD_getElem?] at n43
    replace e38 : a.eval (.tmp 38) = _ := e38
    have n38 := e38
    simp only [Act.eval, Array.getD_eq_getD_getElem?] at n38
    apply Rg.yields_run (Rg.wanted_some (by rfl) (by rfl) e38)
    intro w2
    conv => lhs; simp [go_sem, n43, n38, E1, E2, cm, cm2, cx, cy]
  apply Rg.ch_pure (by rfl)
  · rintro a w1 ⟨e42, e44, e38, -⟩
    replace e42 : a.eval (.tmp 42) = _ := e42
    have n42 := e42
    simp only [Act.eval, Array.getD_eq_getD_getElem?] at n42
    replace e44 : a.eval (.tmp 44) = _ := e44
    have n44 := e44
    simp only [Act.eval, Array.getD_eq_getD_getElem?] at n44
    replace e38 : a.eval (.tmp 38) = _ := e38
    have n38 := e38
    simp only [Act.eval, Array.getD_eq_getD_getElem?] at n38
    apply Rg.yields_run (Rg.wanted_some (by rfl) (by rfl) e38)
    intro w2
    conv => lhs; simp [go_sem, n42, n44, n38, E1, E2, cm, cm2, cx, cy]
  apply Rg.ch_pure (by rfl)
  · rintro a w1 ⟨e45, e38, -⟩
    replace e45 : a.eval (.tmp 45) = _ := e45
    have n45 := e45
    simp only [Act.eval, Array.getD_eq_getD_getElem?] at n45
    replace e38 : a.eval (.tmp 38) = _ := e38
    have n38 := e38
    simp only [Act.eval, Array.getD_eq_getD_getElem?] at n38
    apply Rg.yields_run (Rg.wanted_some (by rfl) (by rfl) e38)
    intro w2
    conv => lhs; simp [go_sem, n45, n38, E1, E2, cm, cm2, cx, cy]
  apply Rg.ch_def (by rfl) (fun a w1 h => by obtain ⟨-, -, e38, -⟩ := h; exact Rg.wanted_some (by rfl) (by rfl) e38)
  · rintro a w1 hb ⟨e40, e46, e38, -⟩
    replace e40 : a.eval (.tmp 40) = _ := e40
    replace e46 : a.eval (.tmp 46) = _ := e46
    replace e38 : a.eval (.tmp 38) = _ := e38
    apply Rg.gives_enter
    · apply run_call Try.func34 (by kernel_rfl) rfl _ (by rfl)
      conv => lhs; simp only [List.map_toArray, List.map_cons, List.map_nil, eval_const_, eval_global_, e40, e46]
    · refine (HY.out _).mono ?_
      rintro e w2 ⟨rfl, hb2⟩
      exact ⟨_, rfl, rfl, hb2⟩
  apply Rg.ch_pure (by rfl)
  · rintro a w1 ⟨e39, e47, e38, -⟩
    replace e39 : a.eval (.tmp 39) = _ := e39
    have n39 := e39
    simp only [Act.eval, Array.getD_eq_getD_getElem?] at n39
    replace e47 : a.eval (.tmp 47) = _ := e47
    have n47 := e47
    simp only [Act.eval, Array.getD_eq_getD_getElem?] at n47
    replace e38 : a.eval (.tmp 38) = _ := e38
    have n38 := e38
    simp only [Act.eval, Array.getD_eq_getD_getElem?] at n38
    apply Rg.yields_run (Rg.wanted_some (by rfl) (by rfl) e38)
    intro w2
    conv => lhs; simp [go_sem, n39, n47, n38, E1, E2, cm, cm2, cx, cy]
  apply Rg.ch_pure (by rfl)
  · rintro a w1 ⟨e38, e48, -⟩
    replace e38 : a.eval (.tmp 38) = _ := e38
    have n38 := e38
    simp only [Act.eval, Array.getD_eq_getD_getElem?] at n38
    replace e48 : a.eval (.tmp 48) = _ := e48
    have n48 := e48
    simp only [Act.eval, Array.getD_eq_getD_getElem?] at n48
    apply Rg.yields_run (Rg.wanted_none (by rfl))
    intro w2
    conv => lhs; simp [go_sem, n38, n48, E1, E2, cm, cm2, cx, cy]
  apply Rg.ch_pure (by rfl)
  · rintro a w1 ⟨e49, -⟩
    replace e49 : a.eval (.tmp 49) = _ := e49
    have n49 := e49
    simp only [Act.eval, Array.getD_eq_getD_getElem?] at n49
    apply Rg.yields_run (Rg.wanted_none (by rfl))
    intro w2
    conv => lhs; simp [go_sem, n49, E1, E2, cm, cm2, cx, cy]
  intro w1 hb1
  rintro _ rfl _ rfl _ rfl _ rfl _ rfl _ rfl _ rfl _ rfl _ rfl _ rfl _ rfl _ rfl _ rfl _ rfl _ rfl _ rfl _ rfl _ rfl
  change Go.wpList _ _ _ _ _ _
  simp only [List.drop_succ_cons, List.drop_zero, List.drop_nil, Act.put, List.setIfInBounds_toArray, List.set_cons_succ, List.set_cons_zero]
  change Go.NoPanic _ _ _ _
  refine NoPanic.normal ?_
  have HBn : Hid (Below w.heap.size w w1) := Lib.hid (below_call HB0 HB0.size hb1)
  have hBa__ := heap_keep' hb1 hBa_
  have hBl__ := heap_keep' hb1 hBl_
  have hBo__ := heap_keep' hb1 hBo_
  have hBx__ := heap_keep' hb1 hBx_
  clear hb1 HB0 HB hBa_ HBa cBa fBa zBa hBl_ HBl cBl fBl zBl hBo_ HBo cBo fBo zBo hBx_
  clear hW
  obtain ⟨wh, rfl⟩ : ∃ x : World, x = w1 := ⟨_, rfl⟩
  have HB := HBn; clear HBn
  have HBa := Lib.hid hBa__; have cBa := cells4 hBa__; have fBa := frozen_of hBa__; have zBa := lt_of_heap hBa__; clear hBa__
  have HBl := Lib.hid hBl__; have cBl := cells4 hBl__; have fBl := frozen_of hBl__; have zBl := lt_of_heap hBl__; clear hBl__
  have HBo := Lib.hid hBo__; have cBo := cells4 hBo__; have fBo := frozen_of hBo__; have zBo := lt_of_heap hBo__; clear hBo__
  have HBx := Lib.hid hBx__; have cBx := cells4 hBx__; have fBx := frozen_of hBx__; have zBx := lt_of_heap hBx__; clear hBx__
  go_wp2
  go_ret
  refine ⟨rfl, ?_⟩
  have hB0 := HB.out; have hS0 := hB0.size; first | exact hB0 | go_grown

theorem ferm_fact (a0 a1 a2 a3 n m : Nat) (ha : W4 a0 a1 a2 a3) (hn : n < 256) (hm : m < 256) : ∀ w : World, Calls Try.prog 7 #[.agg #[.int .u64 a0, .int .u64 a1, .int .u64 a2, .int .u64 a3], .int .u8 n, .int .u8 m] w fun e w' => e = .returned (.bool true) ∧ Below w.heap.size w w' := by
  by_cases h : V a0 a1 a2 a3 % pP = 0
  · exact ferm_zero a0 a1 a2 a3 n m ha h
  · exact ferm_other a0 a1 a2 a3 n m ha hn hm h

end Go.Proofs.Ytldnjbpcdojffaa
