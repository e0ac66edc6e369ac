/- @@NUM 26 The walks of residue's Mul (of one, two, three numbers, and of none). Conditions: words are below 2^64. -/
import Derived.Test.YtgeldhdijochdaaZ6
import Derived.WalkSmall
set_option linter.unusedSectionVars false
namespace Go.Proofs.Ytgeldhdijochdaa
set_option linter.unusedVariables false
set_option linter.unusedSimpArgs false
open Go Go.RowKit
open Pl (V V8 W4 T256 pP)

set_option maxHeartbeats 1000000 in
theorem Mul0_fact : ∃ r0 r1 r2 r3 : Nat, (W4 r0 r1 r2 r3 ∧ V r0 r1 r2 r3 = 1) ∧ ∀ w : World,
    Calls Try.prog 22 #[.slice none 0 0] w fun e w' => e = .returned (.agg #[.int .u64 r0, .int .u64 r1, .int .u64 r2, .int .u64 r3]) ∧ Below w.heap.size w w' := by
  refine ⟨1, 0, 0, 0, ⟨by unfold W4; omega, by decide⟩, fun w => ?_⟩
  go_enter Try.func22, Try.ntmps22
  go_wp2
  refine wp_loop_rounds 1 ?_
  rw [rounds_succ]
  go_wp2
  refine bodyPost_ret (v := .agg #[.int .u64 1, .int .u64 0, .int .u64 0, .int .u64 0]) (by simp [results, Try.results22, go_sem]) rfl ⟨rfl, ?_⟩
  go_grown


set_option maxHeartbeats 4000000 in
theorem Mul1_fact (a0 a1 a2 a3 : Nat) (ha : W4 a0 a1 a2 a3) : ∃ r0 r1 r2 r3 : Nat, (W4 r0 r1 r2 r3 ∧ V r0 r1 r2 r3 = (V a0 a1 a2 a3) % pP) ∧ ∀ (b : Nat) (w : World), w.heap[b]? = some (.cells #[.int .u64 a0, .int .u64 a1, .int .u64 a2, .int .u64 a3] 26 (0, 0)) →
    Calls Try.prog 22 #[.slice (some ⟨b, 0, none⟩) 1 1] w fun e w' => e = .returned (.agg #[.int .u64 r0, .int .u64 r1, .int .u64 r2, .int .u64 r3]) ∧ Below w.heap.size w w' := by
  have hz : W4 1 0 0 0 := by unfold W4; omega
  obtain ⟨o00, o01, o02, o03, ⟨ho0, hov0⟩, FO0⟩ := mul_fact 1 0 0 0 a0 a1 a2 a3 hz ha
  refine ⟨o00, o01, o02, o03, ⟨ho0, ?_⟩, fun b w hL0 => ?_⟩
  · rw [hov0]
    simp only [Nat.mod_mul_mod, Nat.mul_mod_mod, Nat.mod_mod, show V 1 0 0 0 = 1 from by decide, Nat.one_mul]
  have HO0 := Lib.hid FO0
  clear FO0 hov0 ho0 hz ha
  have HL := Lib.hid hL0
  have zl : b < w.heap.size := lt_of_heap hL0
  clear hL0
  go_enter Try.func22, Try.ntmps22
  have cL0 := cells4 HL.out
  go_wp2
  refine wp_loop_rounds 2 ?_
  rw [rounds_succ]
  go_wp2_with (fail)
  go_at_call 46
  refine (HO0.out _).mono ?_
  rintro e wk1 ⟨rfl, hb⟩
  have hO1 : wk1.heap[w.heap.size + 1]? = some (.cells #[.int .u64 1, .int .u64 0, .int .u64 0, .int .u64 0] 26 (0, 0)) := heap_keep' hb (heap_old (heap_new' (by simp) _) _)
  have hR1 : wk1.heap[w.heap.size]? = some (.cells #[.int .u64 0, .int .u64 0, .int .u64 0, .int .u64 0] 26 (0, 0)) := heap_keep' hb (heap_old (heap_old (heap_new _ _) _) _)
  have hL1 : wk1.heap[b]? = some (.cells #[.int .u64 a0, .int .u64 a1, .int .u64 a2, .int .u64 a3] 26 (0, 0)) := heap_keep' hb (heap_old (heap_old (heap_old HL.out _) _) _)
  have HBn : Hid (Below w.heap.size w wk1) := below_call (by go_grown) (by simp; omega) hb
  clear cL0 hb
  have cO := cells4 hO1; have fO := frozen_of hO1; have zO := lt_of_heap hO1
  have HOc := Lib.hid hO1; have HRc := Lib.hid hR1; have HLc := Lib.hid hL1; have HBc := HBn
  clear hO1 hR1 hL1 HBn
  go_wp2
  obtain ⟨v1, hv⟩ : ∃ x : World, x = ((((wk1.setCell ⟨w.heap.size + 1, 0, none⟩ (.int .u64 o00)).setCell ⟨w.heap.size + 1, 1, none⟩ (.int .u64 o01)).setCell ⟨w.heap.size + 1, 2, none⟩ (.int .u64 o02)).setCell ⟨w.heap.size + 1, 3, none⟩ (.int .u64 o03)) := ⟨_, rfl⟩
  rw [← hv]
  have hO1 : v1.heap[w.heap.size + 1]? = some (.cells #[.int .u64 o00, .int .u64 o01, .int .u64 o02, .int .u64 o03] 26 (0, 0)) := by rw [hv]; exact set4 HOc.out _ _ _ _
  have hR1 : v1.heap[w.heap.size]? = some (.cells #[.int .u64 0, .int .u64 0, .int .u64 0, .int .u64 0] 26 (0, 0)) := by rw [hv]; exact keep4 HRc.out (by omega) _ _ _ _
  have hL1 : v1.heap[b]? = some (.cells #[.int .u64 a0, .int .u64 a1, .int .u64 a2, .int .u64 a3] 26 (0, 0)) := by rw [hv]; exact keep4 HLc.out (by omega) _ _ _ _
  have HBn : Hid (Below w.heap.size w v1) := by rw [hv]; exact set4_below HBc.out (by omega) _ _ _ _
  clear HOc HRc HLc HBc cO fO zO hv
  have HOc := Lib.hid hO1; have HRc := Lib.hid hR1; have HLc := Lib.hid hL1; have HBc := HBn
  clear hO1 hR1 hL1 HBn
  have cO := cells4 HOc.out; have cR := cells4 HRc.out; have fR := frozen_of HRc.out
  have hQ := cells4 (set4 HRc.out (.int .u64 o00) (.int .u64 o01) (.int .u64 o02) (.int .u64 o03))
  rw [rounds_succ]
  go_wp2
  refine bodyPost_ret (v := .agg #[.int .u64 o00, .int .u64 o01, .int .u64 o02, .int .u64 o03]) (by simp [results, Try.results22, go_sem, hQ]) rfl ⟨rfl, ?_⟩
  have hb : Below w.heap.size w _ := HBc.out
  go_grown

set_option maxHeartbeats 4000000 in
theorem Mul2_fact (a0 a1 a2 a3 b0 b1 b2 b3 : Nat) (ha : W4 a0 a1 a2 a3) (hb : W4 b0 b1 b2 b3) : ∃ r0 r1 r2 r3 : Nat, (W4 r0 r1 r2 r3 ∧ V r0 r1 r2 r3 = (V a0 a1 a2 a3 * V b0 b1 b2 b3) % pP) ∧ ∀ (b : Nat) (w : World), w.heap[b]? = some (.cells #[.int .u64 a0, .int .u64 a1, .int .u64 a2, .int .u64 a3, .int .u64 b0, .int .u64 b1, .int .u64 b2, .int .u64 b3] 26 (0, 0)) →
    Calls Try.prog 22 #[.slice (some ⟨b, 0, none⟩) 2 2] w fun e w' => e = .returned (.agg #[.int .u64 r0, .int .u64 r1, .int .u64 r2, .int .u64 r3]) ∧ Below w.heap.size w w' := by
  have hz : W4 1 0 0 0 := by unfold W4; omega
  obtain ⟨o00, o01, o02, o03, ⟨ho0, hov0⟩, FO0⟩ := mul_fact 1 0 0 0 a0 a1 a2 a3 hz ha
  obtain ⟨o10, o11, o12, o13, ⟨ho1, hov1⟩, FO1⟩ := mul_fact o00 o01 o02 o03 b0 b1 b2 b3 ho0 hb
  refine ⟨o10, o11, o12, o13, ⟨ho1, ?_⟩, fun b w hL0 => ?_⟩
  · rw [hov1, hov0]
    simp only [Nat.mod_mul_mod, Nat.mul_mod_mod, Nat.mod_mod, show V 1 0 0 0 = 1 from by decide, Nat.one_mul]
  have HO0 := Lib.hid FO0
  have HO1 := Lib.hid FO1
  clear FO0 FO1 hov1 ho1 hov0 ho0 hz ha hb
  have HL := Lib.hid hL0
  have zl : b < w.heap.size := lt_of_heap hL0
  clear hL0
  go_enter Try.func22, Try.ntmps22
  have cL0 := cells8 HL.out
  go_wp2
  refine wp_loop_rounds 3 ?_
  rw [rounds_succ]
  go_wp2_with (fail)
  go_at_call 46
  refine (HO0.out _).mono ?_
  rintro e wk1 ⟨rfl, hb⟩
  have hO1 : wk1.heap[w.heap.size + 1]? = some (.cells #[.int .u64 1, .int .u64 0, .int .u64 0, .int .u64 0] 26 (0, 0)) := heap_keep' hb (heap_old (heap_new' (by simp) _) _)
  have hR1 : wk1.heap[w.heap.size]? = some (.cells #[.int .u64 0, .int .u64 0, .int .u64 0, .int .u64 0] 26 (0, 0)) := heap_keep' hb (heap_old (heap_old (heap_new _ _) _) _)
  have hL1 : wk1.heap[b]? = some (.cells #[.int .u64 a0, .int .u64 a1, .int .u64 a2, .int .u64 a3, .int .u64 b0, .int .u64 b1, .int .u64 b2, .int .u64 b3] 26 (0, 0)) := heap_keep' hb (heap_old (heap_old (heap_old HL.out _) _) _)
  have HBn : Hid (Below w.heap.size w wk1) := below_call (by go_grown) (by simp; omega) hb
  clear cL0 hb
  have cO := cells4 hO1; have fO := frozen_of hO1; have zO := lt_of_heap hO1
  have HOc := Lib.hid hO1; have HRc := Lib.hid hR1; have HLc := Lib.hid hL1; have HBc := HBn
  clear hO1 hR1 hL1 HBn
  go_wp2
  obtain ⟨v1, hv⟩ : ∃ x : World, x = ((((wk1.setCell ⟨w.heap.size + 1, 0, none⟩ (.int .u64 o00)).setCell ⟨w.heap.size + 1, 1, none⟩ (.int .u64 o01)).setCell ⟨w.heap.size + 1, 2, none⟩ (.int .u64 o02)).setCell ⟨w.heap.size + 1, 3, none⟩ (.int .u64 o03)) := ⟨_, rfl⟩
  rw [← hv]
  have hO1 : v1.heap[w.heap.size + 1]? = some (.cells #[.int .u64 o00, .int .u64 o01, .int .u64 o02, .int .u64 o03] 26 (0, 0)) := by rw [hv]; exact set4 HOc.out _ _ _ _
  have hR1 : v1.heap[w.heap.size]? = some (.cells #[.int .u64 0, .int .u64 0, .int .u64 0, .int .u64 0] 26 (0, 0)) := by rw [hv]; exact keep4 HRc.out (by omega) _ _ _ _
  have hL1 : v1.heap[b]? = some (.cells #[.int .u64 a0, .int .u64 a1, .int .u64 a2, .int .u64 a3, .int .u64 b0, .int .u64 b1, .int .u64 b2, .int .u64 b3] 26 (0, 0)) := by rw [hv]; exact keep4 HLc.out (by omega) _ _ _ _
  have HBn : Hid (Below w.heap.size w v1) := by rw [hv]; exact set4_below HBc.out (by omega) _ _ _ _
  clear HOc HRc HLc HBc cO fO zO hv
  have HOc := Lib.hid hO1; have HRc := Lib.hid hR1; have HLc := Lib.hid hL1; have HBc := HBn
  clear hO1 hR1 hL1 HBn
  have cL := cells8 HLc.out; have zL := lt_of_heap HLc.out; have cO := cells4 HOc.out; have zO := lt_of_heap HOc.out
  rw [rounds_succ]
  go_wp2_with (fail)
  go_at_call 46
  refine (HO1.out _).mono ?_
  rintro e wk2 ⟨rfl, hb⟩
  have hO1 : wk2.heap[w.heap.size + 1]? = some (.cells #[.int .u64 o00, .int .u64 o01, .int .u64 o02, .int .u64 o03] 26 (0, 0)) := heap_keep' hb (heap_old HOc.out _)
  have hR1 : wk2.heap[w.heap.size]? = some (.cells #[.int .u64 0, .int .u64 0, .int .u64 0, .int .u64 0] 26 (0, 0)) := heap_keep' hb (heap_old HRc.out _)
  have hL1 : wk2.heap[b]? = some (.cells #[.int .u64 a0, .int .u64 a1, .int .u64 a2, .int .u64 a3, .int .u64 b0, .int .u64 b1, .int .u64 b2, .int .u64 b3] 26 (0, 0)) := heap_keep' hb (heap_old HLc.out _)
  have HBn : Hid (Below w.heap.size w wk2) := below_call (HBc.out.alloc HBc.out.size _) (by have := HBc.out.size; rw [World.size_alloc]; omega) hb
  clear HOc HRc HLc HBc hb cO zO
  have cO := cells4 hO1; have fO := frozen_of hO1; have zO := lt_of_heap hO1
  have HOc := Lib.hid hO1; have HRc := Lib.hid hR1; have HLc := Lib.hid hL1; have HBc := HBn
  clear hO1 hR1 hL1 HBn
  go_wp2
  clear cL zL
  obtain ⟨v2, hv⟩ : ∃ x : World, x = ((((wk2.setCell ⟨w.heap.size + 1, 0, none⟩ (.int .u64 o10)).setCell ⟨w.heap.size + 1, 1, none⟩ (.int .u64 o11)).setCell ⟨w.heap.size + 1, 2, none⟩ (.int .u64 o12)).setCell ⟨w.heap.size + 1, 3, none⟩ (.int .u64 o13)) := ⟨_, rfl⟩
  rw [← hv]
  have hO1 : v2.heap[w.heap.size + 1]? = some (.cells #[.int .u64 o10, .int .u64 o11, .int .u64 o12, .int .u64 o13] 26 (0, 0)) := by rw [hv]; exact set4 HOc.out _ _ _ _
  have hR1 : v2.heap[w.heap.size]? = some (.cells #[.int .u64 0, .int .u64 0, .int .u64 0, .int .u64 0] 26 (0, 0)) := by rw [hv]; exact keep4 HRc.out (by omega) _ _ _ _
  have hL1 : v2.heap[b]? = some (.cells #[.int .u64 a0, .int .u64 a1, .int .u64 a2, .int .u64 a3, .int .u64 b0, .int .u64 b1, .int .u64 b2, .int .u64 b3] 26 (0, 0)) := by rw [hv]; exact keep4 HLc.out (by omega) _ _ _ _
  have HBn : Hid (Below w.heap.size w v2) := by rw [hv]; exact set4_below HBc.out (by omega) _ _ _ _
  clear HOc HRc HLc HBc cO fO zO hv
  have HOc := Lib.hid hO1; have HRc := Lib.hid hR1; have HLc := Lib.hid hL1; have HBc := HBn
  clear hO1 hR1 hL1 HBn
  have cO := cells4 HOc.out; have cR := cells4 HRc.out; have fR := frozen_of HRc.out
  have hQ := cells4 (set4 HRc.out (.int .u64 o10) (.int .u64 o11) (.int .u64 o12) (.int .u64 o13))
  rw [rounds_succ]
  go_wp2
  refine bodyPost_ret (v := .agg #[.int .u64 o10, .int .u64 o11, .int .u64 o12, .int .u64 o13]) (by simp [results, Try.results22, go_sem, hQ]) rfl ⟨rfl, ?_⟩
  have hb : Below w.heap.size w _ := HBc.out
  go_grown

set_option maxHeartbeats 4000000 in
theorem Mul3_fact (a0 a1 a2 a3 b0 b1 b2 b3 c0 c1 c2 c3 : Nat) (ha : W4 a0 a1 a2 a3) (hb : W4 b0 b1 b2 b3) (hc : W4 c0 c1 c2 c3) : ∃ r0 r1 r2 r3 : Nat, (W4 r0 r1 r2 r3 ∧ V r0 r1 r2 r3 = (V a0 a1 a2 a3 * V b0 b1 b2 b3 * V c0 c1 c2 c3) % pP) ∧ ∀ (b : Nat) (w : World), w.heap[b]? = some (.cells #[.int .u64 a0, .int .u64 a1, .int .u64 a2, .int .u64 a3, .int .u64 b0, .int .u64 b1, .int .u64 b2, .int .u64 b3, .int .u64 c0, .int .u64 c1, .int .u64 c2, .int .u64 c3] 26 (0, 0)) →
    Calls Try.prog 22 #[.slice (some ⟨b, 0, none⟩) 3 3] w fun e w' => e = .returned (.agg #[.int .u64 r0, .int .u64 r1, .int .u64 r2, .int .u64 r3]) ∧ Below w.heap.size w w' := by
  have hz : W4 1 0 0 0 := by unfold W4; omega
  obtain ⟨o00, o01, o02, o03, ⟨ho0, hov0⟩, FO0⟩ := mul_fact 1 0 0 0 a0 a1 a2 a3 hz ha
  obtain ⟨o10, o11, o12, o13, ⟨ho1, hov1⟩, FO1⟩ := mul_fact o00 o01 o02 o03 b0 b1 b2 b3 ho0 hb
  obtain ⟨o20, o21, o22, o23, ⟨ho2, hov2⟩, FO2⟩ := mul_fact o10 o11 o12 o13 c0 c1 c2 c3 ho1 hc
  refine ⟨o20, o21, o22, o23, ⟨ho2, ?_⟩, fun b w hL0 => ?_⟩
  · rw [hov2, hov1, hov0]
    simp only [Nat.mod_mul_mod, Nat.mul_mod_mod, Nat.mod_mod, show V 1 0 0 0 = 1 from by decide, Nat.one_mul]
  have HO0 := Lib.hid FO0
  have HO1 := Lib.hid FO1
  have HO2 := Lib.hid FO2
  clear FO0 FO1 FO2 hov2 ho2 hov1 ho1 hov0 ho0 hz ha hb hc
  have HL := Lib.hid hL0
  have zl : b < w.heap.size := lt_of_heap hL0
  clear hL0
  go_enter Try.func22, Try.ntmps22
  have cL0 := cells12 HL.out
  go_wp2
  refine wp_loop_rounds 4 ?_
  rw [rounds_succ]
  go_wp2_with (fail)
  go_at_call 46
  refine (HO0.out _).mono ?_
  rintro e wk1 ⟨rfl, hb⟩
  have hO1 : wk1.heap[w.heap.size + 1]? = some (.cells #[.int .u64 1, .int .u64 0, .int .u64 0, .int .u64 0] 26 (0, 0)) := heap_keep' hb (heap_old (heap_new' (by simp) _) _)
  have hR1 : wk1.heap[w.heap.size]? = some (.cells #[.int .u64 0, .int .u64 0, .int .u64 0, .int .u64 0] 26 (0, 0)) := heap_keep' hb (heap_old (heap_old (heap_new _ _) _) _)
  have hL1 : wk1.heap[b]? = some (.cells #[.int .u64 a0, .int .u64 a1, .int .u64 a2, .int .u64 a3, .int .u64 b0, .int .u64 b1, .int .u64 b2, .int .u64 b3, .int .u64 c0, .int .u64 c1, .int .u64 c2, .int .u64 c3] 26 (0, 0)) := heap_keep' hb (heap_old (heap_old (heap_old HL.out _) _) _)
  have HBn : Hid (Below w.heap.size w wk1) := below_call (by go_grown) (by simp; omega) hb
  clear cL0 hb
  have cO := cells4 hO1; have fO := frozen_of hO1; have zO := lt_of_heap hO1
  have HOc := Lib.hid hO1; have HRc := Lib.hid hR1; have HLc := Lib.hid hL1; have HBc := HBn
  clear hO1 hR1 hL1 HBn
  go_wp2
  obtain ⟨v1, hv⟩ : ∃ x : World, x = ((((wk1.setCell ⟨w.heap.size + 1, 0, none⟩ (.int .u64 o00)).setCell ⟨w.heap.size + 1, 1, none⟩ (.int .u64 o01)).setCell ⟨w.heap.size + 1, 2, none⟩ (.int .u64 o02)).setCell ⟨w.heap.size + 1, 3, none⟩ (.int .u64 o03)) := ⟨_, rfl⟩
  rw [← hv]
  have hO1 : v1.heap[w.heap.size + 1]? = some (.cells #[.int .u64 o00, .int .u64 o01, .int .u64 o02, .int .u64 o03] 26 (0, 0)) := by rw [hv]; exact set4 HOc.out _ _ _ _
  have hR1 : v1.heap[w.heap.size]? = some (.cells #[.int .u64 0, .int .u64 0, .int .u64 0, .int .u64 0] 26 (0, 0)) := by rw [hv]; exact keep4 HRc.out (by omega) _ _ _ _
  have hL1 : v1.heap[b]? = some (.cells #[.int .u64 a0, .int .u64 a1, .int .u64 a2, .int .u64 a3, .int .u64 b0, .int .u64 b1, .int .u64 b2, .int .u64 b3, .int .u64 c0, .int .u64 c1, .int .u64 c2, .int .u64 c3] 26 (0, 0)) := by rw [hv]; exact keep4 HLc.out (by omega) _ _ _ _
  have HBn : Hid (Below w.heap.size w v1) := by rw [hv]; exact set4_below HBc.out (by omega) _ _ _ _
  clear HOc HRc HLc HBc cO fO zO hv
  have HOc := Lib.hid hO1; have HRc := Lib.hid hR1; have HLc := Lib.hid hL1; have HBc := HBn
  clear hO1 hR1 hL1 HBn
  have cL := cells12 HLc.out; have zL := lt_of_heap HLc.out; have cO := cells4 HOc.out; have zO := lt_of_heap HOc.out
  rw [rounds_succ]
  go_wp2_with (fail)
  go_at_call 46
  refine (HO1.out _).mono ?_
  rintro e wk2 ⟨rfl, hb⟩
  have hO1 : wk2.heap[w.heap.size + 1]? = some (.cells #[.int .u64 o00, .int .u64 o01, .int .u64 o02, .int .u64 o03] 26 (0, 0)) := heap_keep' hb (heap_old HOc.out _)
  have hR1 : wk2.heap[w.heap.size]? = some (.cells #[.int .u64 0, .int .u64 0, .int .u64 0, .int .u64 0] 26 (0, 0)) := heap_keep' hb (heap_old HRc.out _)
  have hL1 : wk2.heap[b]? = some (.cells #[.int .u64 a0, .int .u64 a1, .int .u64 a2, .int .u64 a3, .int .u64 b0, .int .u64 b1, .int .u64 b2, .int .u64 b3, .int .u64 c0, .int .u64 c1, .int .u64 c2, .int .u64 c3] 26 (0, 0)) := heap_keep' hb (heap_old HLc.out _)
  have HBn : Hid (Below w.heap.size w wk2) := below_call (HBc.out.alloc HBc.out.size _) (by have := HBc.out.size; rw [World.size_alloc]; omega) hb
  clear HOc HRc HLc HBc hb cO zO
  have cO := cells4 hO1; have fO := frozen_of hO1; have zO := lt_of_heap hO1
  have HOc := Lib.hid hO1; have HRc := Lib.hid hR1; have HLc := Lib.hid hL1; have HBc := HBn
  clear hO1 hR1 hL1 HBn
  go_wp2
  clear cL zL
  obtain ⟨v2, hv⟩ : ∃ x : World, x = ((((wk2.setCell ⟨w.heap.size + 1, 0, none⟩ (.int .u64 o10)).setCell ⟨w.heap.size + 1, 1, none⟩ (.int .u64 o11)).setCell ⟨w.heap.size + 1, 2, none⟩ (.int .u64 o12)).setCell ⟨w.heap.size + 1, 3, none⟩ (.int .u64 o13)) := ⟨_, rfl⟩
  rw [← hv]
  have hO1 : v2.heap[w.heap.size + 1]? = some (.cells #[.int .u64 o10, .int .u64 o11, .int .u64 o12, .int .u64 o13] 26 (0, 0)) := by rw [hv]; exact set4 HOc.out _ _ _ _
  have hR1 : v2.heap[w.heap.size]? = some (.cells #[.int .u64 0, .int .u64 0, .int .u64 0, .int .u64 0] 26 (0, 0)) := by rw [hv]; exact keep4 HRc.out (by omega) _ _ _ _
  have hL1 : v2.heap[b]? = some (.cells #[.int .u64 a0, .int .u64 a1, .int .u64 a2, .int .u64 a3, .int .u64 b0, .int .u64 b1, .int .u64 b2, .int .u64 b3, .int .u64 c0, .int .u64 c1, .int .u64 c2, .int .u64 c3] 26 (0, 0)) := by rw [hv]; exact keep4 HLc.out (by omega) _ _ _ _
  have HBn : Hid (Below w.heap.size w v2) := by rw [hv]; exact set4_below HBc.out (by omega) _ _ _ _
  clear HOc HRc HLc HBc cO fO zO hv
  have HOc := Lib.hid hO1; have HRc := Lib.hid hR1; have HLc := Lib.hid hL1; have HBc := HBn
  clear hO1 hR1 hL1 HBn
  have cL := cells12 HLc.out; have zL := lt_of_heap HLc.out; have cO := cells4 HOc.out; have zO := lt_of_heap HOc.out
  rw [rounds_succ]
  go_wp2_with (fail)
  go_at_call 46
  refine (HO2.out _).mono ?_
  rintro e wk3 ⟨rfl, hb⟩
  have hO1 : wk3.heap[w.heap.size + 1]? = some (.cells #[.int .u64 o10, .int .u64 o11, .int .u64 o12, .int .u64 o13] 26 (0, 0)) := heap_keep' hb (heap_old HOc.out _)
  have hR1 : wk3.heap[w.heap.size]? = some (.cells #[.int .u64 0, .int .u64 0, .int .u64 0, .int .u64 0] 26 (0, 0)) := heap_keep' hb (heap_old HRc.out _)
  have hL1 : wk3.heap[b]? = some (.cells #[.int .u64 a0, .int .u64 a1, .int .u64 a2, .int .u64 a3, .int .u64 b0, .int .u64 b1, .int .u64 b2, .int .u64 b3, .int .u64 c0, .int .u64 c1, .int .u64 c2, .int .u64 c3] 26 (0, 0)) := heap_keep' hb (heap_old HLc.out _)
  have HBn : Hid (Below w.heap.size w wk3) := below_call (HBc.out.alloc HBc.out.size _) (by have := HBc.out.size; rw [World.size_alloc]; omega) hb
  clear HOc HRc HLc HBc hb cO zO
  have cO := cells4 hO1; have fO := frozen_of hO1; have zO := lt_of_heap hO1
  have HOc := Lib.hid hO1; have HRc := Lib.hid hR1; have HLc := Lib.hid hL1; have HBc := HBn
  clear hO1 hR1 hL1 HBn
  go_wp2
  clear cL zL
  obtain ⟨v3, hv⟩ : ∃ x : World, x = ((((wk3.setCell ⟨w.heap.size + 1, 0, none⟩ (.int .u64 o20)).setCell ⟨w.heap.size + 1, 1, none⟩ (.int .u64 o21)).setCell ⟨w.heap.size + 1, 2, none⟩ (.int .u64 o22)).setCell ⟨w.heap.size + 1, 3, none⟩ (.int .u64 o23)) := ⟨_, rfl⟩
  rw [← hv]
  have hO1 : v3.heap[w.heap.size + 1]? = some (.cells #[.int .u64 o20, .int .u64 o21, .int .u64 o22, .int .u64 o23] 26 (0, 0)) := by rw [hv]; exact set4 HOc.out _ _ _ _
  have hR1 : v3.heap[w.heap.size]? = some (.cells #[.int .u64 0, .int .u64 0, .int .u64 0, .int .u64 0] 26 (0, 0)) := by rw [hv]; exact keep4 HRc.out (by omega) _ _ _ _
  have hL1 : v3.heap[b]? = some (.cells #[.int .u64 a0, .int .u64 a1, .int .u64 a2, .int .u64 a3, .int .u64 b0, .int .u64 b1, .int .u64 b2, .int .u64 b3, .int .u64 c0, .int .u64 c1, .int .u64 c2, .int .u64 c3] 26 (0, 0)) := by rw [hv]; exact keep4 HLc.out (by omega) _ _ _ _
  have HBn : Hid (Below w.heap.size w v3) := by rw [hv]; exact set4_below HBc.out (by omega) _ _ _ _
  clear HOc HRc HLc HBc cO fO zO hv
  have HOc := Lib.hid hO1; have HRc := Lib.hid hR1; have HLc := Lib.hid hL1; have HBc := HBn
  clear hO1 hR1 hL1 HBn
  have cO := cells4 HOc.out; have cR := cells4 HRc.out; have fR := frozen_of HRc.out
  have hQ := cells4 (set4 HRc.out (.int .u64 o20) (.int .u64 o21) (.int .u64 o22) (.int .u64 o23))
  rw [rounds_succ]
  go_wp2
  refine bodyPost_ret (v := .agg #[.int .u64 o20, .int .u64 o21, .int .u64 o22, .int .u64 o23]) (by simp [results, Try.results22, go_sem, hQ]) rfl ⟨rfl, ?_⟩
  have hb : Below w.heap.size w _ := HBc.out
  go_grown
end Go.Proofs.Ytgeldhdijochdaa
/- @@NUM 26 The walk of residue's bit. Conditions: words are below 2^64. -/
namespace Go.Proofs.Ytgeldhdijochdaa
set_option linter.unusedVariables false
set_option linter.unusedSimpArgs false
open Go Go.RowKit
open Pl (V V8 W4 T256 pP)

theorem word_bit {q r : Nat} (hr : r < 64) (n : Nat) (h : n = 64 * q + r) (M : Nat) : M / 18446744073709551616 ^ q % 18446744073709551616 / 2 ^ r % 2 = M / 2 ^ n % 2 := by
  subst h
  have e1 : (18446744073709551616 : Nat) = 2 ^ r * 2 ^ (64 - r) := by rw [← Nat.pow_add, show r + (64 - r) = 64 by omega]
  have e2 : (2 : Nat) ^ (64 * q + r) = 18446744073709551616 ^ q * 2 ^ r := by rw [Nat.pow_add, Nat.pow_mul]
  have e3 : (2 : Nat) ∣ 2 ^ (64 - r) := ⟨2 ^ (63 - r), by rw [← Nat.pow_succ', show (63 - r).succ = 64 - r by omega]⟩
  rw [e2, ← Nat.div_div_eq_div_mul]
  generalize M / 18446744073709551616 ^ q = K
  rw [e1, Nat.mod_mul_right_div_self, Nat.mod_mod_of_dvd _ e3]

theorem word_pick (a0 a1 a2 a3 : Nat) (ha : W4 a0 a1 a2 a3) (q : Nat) (hq : q < 4) : ∃ x : Nat, x < 18446744073709551616 ∧ x = V a0 a1 a2 a3 / 18446744073709551616 ^ q % 18446744073709551616 ∧ ∀ h, (#[.int .u64 a0, .int .u64 a1, .int .u64 a2, .int .u64 a3].toList : List Value)[q]'h = .int .u64 x := by
  unfold W4 at ha
  unfold V
  rcases (show q = 0 ∨ q = 1 ∨ q = 2 ∨ q = 3 by omega) with rfl | rfl | rfl | rfl
  · exact ⟨a0, by omega, by simp only [Nat.reducePow]; omega, fun _ => rfl⟩
  · exact ⟨a1, by omega, by simp only [Nat.reducePow]; omega, fun _ => rfl⟩
  · exact ⟨a2, by omega, by simp only [Nat.reducePow]; omega, fun _ => rfl⟩
  · exact ⟨a3, by omega, by simp only [Nat.reducePow]; omega, fun _ => rfl⟩

set_option maxHeartbeats 1000000 in
theorem bit_fact (a0 a1 a2 a3 i : Nat) (ha : W4 a0 a1 a2 a3) (hi : i < 256) : ∃ z : Nat, z = V a0 a1 a2 a3 / 2 ^ i % 2 ∧ ∀ w : World,
    Calls Try.prog 67 #[.agg #[.int .u64 a0, .int .u64 a1, .int .u64 a2, .int .u64 a3], .int .i64 i] w fun e w' => e = .returned (.int .u64 z) ∧ Below w.heap.size w w' := by
  have h0 : i / 64 < 4 := by omega
  have h1 : i % 64 < 64 := Nat.mod_lt _ (by omega)
  obtain ⟨x, hx, hxv, hp⟩ := word_pick a0 a1 a2 a3 ha (i / 64) h0
  have hz : x / 2 ^ (i % 64) % 2 = V a0 a1 a2 a3 / 2 ^ i % 2 := by rw [hxv]; exact word_bit h1 i (by omega) _
  refine ⟨_, hz, fun w => ?_⟩
  clear hz hxv
  simp only at hp
  go_enter Try.func67, Try.ntmps67
  go_wp2
  have hy : x / 2 ^ (i % 64) < 18446744073709551616 := Nat.lt_of_le_of_lt (Nat.div_le_self _ _) hx
  have hb : bits .and .u64 ((x : Int) / 2 ^ (i % 64)) 1 = ((x / 2 ^ (i % 64) % 2 : Nat) : Int) := by
    have e : ((x : Int) / 2 ^ (i % 64)) = ((x / 2 ^ (i % 64) : Nat) : Int) := by push_cast; rfl
    rw [e]
    generalize x / 2 ^ (i % 64) = y at hy ⊢
    rw [and_one_u64 _ (by omega) (by omega)]; rfl
  rw [hb]
  go_ret
  refine ⟨rfl, ?_⟩
  go_grown

end Go.Proofs.Ytgeldhdijochdaa
/- @@NUM 26 The walk of residue's Power and Inverse. Conditions: words are below 2^64. -/
namespace Go.Proofs.Ytgeldhdijochdaa
set_option linter.unusedVariables false
set_option linter.unusedSimpArgs false
open Go Go.RowKit
open Pl (V V8 W4 T256 pP)

/-- What has been reckoned when k of the exponent's bits are left. -/
def PW (a n k o : Nat) : Prop := o = a ^ (n / 2 ^ k) % pP
theorem PW_start {a n : Nat} (hn : n < T256) : PW a n 256 1 := by
  have h : n / 2 ^ 256 = 0 := Nat.div_eq_of_lt (by have h1 : T256 = 2 ^ 256 := by decide +kernel
                                                   omega)
  unfold PW
  rw [h, Nat.pow_zero]
  decide +kernel
theorem PW_half (n k : Nat) : n / 2 ^ k = n / 2 ^ (k + 1) + n / 2 ^ (k + 1) + n / 2 ^ k % 2 := by
  rw [Nat.pow_succ, ← Nat.div_div_eq_div_mul]
  omega
theorem PW_zero {a n k o p : Nat} (h : PW a n (k + 1) o) (hb : n / 2 ^ k % 2 = 0) (hp : p = o * o % pP) : PW a n k p := by
  have e := PW_half n k
  unfold PW at h ⊢
  rw [hb, Nat.add_zero] at e
  rw [e, hp, h]
  generalize n / 2 ^ (k + 1) = q
  rw [← Nat.mul_mod, ← Nat.pow_add]
theorem PW_one {a n k o p q : Nat} (h : PW a n (k + 1) o) (hb : n / 2 ^ k % 2 = 1) (hp : p = o * o % pP) (hq : q = p * a % pP) : PW a n k q := by
  have e := PW_half n k
  unfold PW at h ⊢
  rw [hb] at e
  rw [e, hq, hp, h]
  generalize n / 2 ^ (k + 1) = r
  rw [← Nat.mul_mod, Nat.mod_mul_mod, ← Nat.pow_add, ← Nat.pow_succ]
theorem PW_end {a n o : Nat} (h : PW a n 0 o) : o = a ^ n % pP := by
  unfold PW at h
  rw [h, Nat.pow_zero, Nat.div_one]

theorem k_less {k : Nat} (h : k < 1000) : wrap64 ((k : Int) - 1) = (k : Int) - 1 := by
  unfold wrap64; omega

set_option maxHeartbeats 4000000 in
theorem Power_fact (a0 a1 a2 a3 n0 n1 n2 n3 : Nat) (ha : W4 a0 a1 a2 a3) (hn : W4 n0 n1 n2 n3) : ∃ r0 r1 r2 r3 : Nat, (W4 r0 r1 r2 r3 ∧ V r0 r1 r2 r3 = V a0 a1 a2 a3 ^ V n0 n1 n2 n3 % pP) ∧ ∀ w : World,
    Calls Try.prog 59 #[.agg #[.int .u64 a0, .int .u64 a1, .int .u64 a2, .int .u64 a3], .agg #[.int .u64 n0, .int .u64 n1, .int .u64 n2, .int .u64 n3]] w fun e w' => e = .returned (.agg #[.int .u64 r0, .int .u64 r1, .int .u64 r2, .int .u64 r3]) ∧ Below w.heap.size w w' := by
  obtain ⟨r0, r1, r2, r3, hr, hrv⟩ := Pl.words (V a0 a1 a2 a3 ^ V n0 n1 n2 n3 % pP) (Nat.lt_trans (Nat.mod_lt _ pP_pos) (by decide +kernel))
  refine ⟨r0, r1, r2, r3, ⟨hr, hrv⟩, fun w => ?_⟩
  obtain ⟨A, hA⟩ : ∃ A, V a0 a1 a2 a3 = A := ⟨_, rfl⟩
  obtain ⟨N, hN⟩ : ∃ N, V n0 n1 n2 n3 = N := ⟨_, rfl⟩
  have HS : Hid (PW A N 256 1) := PW_start (by rw [← hN]; exact Pl.V_lt hn)
  have HE : Hid (∀ o0 o1 o2 o3, W4 o0 o1 o2 o3 → PW A N 0 (V o0 o1 o2 o3) → o0 = r0 ∧ o1 = r1 ∧ o2 = r2 ∧ o3 = r3) := fun o0 o1 o2 o3 h1 h2 => Pl.V_inj h1 hr (by rw [PW_end h2, hrv, hA, hN])
  have HA := Lib.hid hA; have HN := Lib.hid hN; have HWA := Lib.hid ha; have HWN := Lib.hid hn
  clear hA hN ha hn hr hrv
  go_enter Try.func59, Try.ntmps59
  go_wp2
  go_loopg [6] 256 (fun kq v6 wr => ∃ z : Int, ∃ o0 o1 o2 o3 : Nat, v6 = .int .i64 z ∧ Hid (z = (kq : Int) - 1 ∧ kq ≤ 256) ∧ Hid (W4 o0 o1 o2 o3 ∧ PW A N kq (V o0 o1 o2 o3)) ∧ Hid (wr.heap[w.heap.size]? = some (.cells #[.int .u64 a0, .int .u64 a1, .int .u64 a2, .int .u64 a3] 26 (0, 0)) ∧ wr.heap[w.heap.size + 1]? = some (.cells #[.int .u64 n0, .int .u64 n1, .int .u64 n2, .int .u64 n3] 26 (0, 0)) ∧ wr.heap[w.heap.size + 1 + 1]? = some (.cells #[.int .u64 0, .int .u64 0, .int .u64 0, .int .u64 0] 26 (0, 0)) ∧ wr.heap[w.heap.size + 1 + 1 + 1]? = some (.cells #[.int .u64 o0, .int .u64 o1, .int .u64 o2, .int .u64 o3] 26 (0, 0))) ∧ Hid (Below w.heap.size w wr))
  case atStart =>
    refine ⟨255, 1, 0, 0, 0, rfl, ⟨by omega, by omega⟩, ⟨by unfold W4; omega, ?_⟩, ⟨heap_old (heap_old (heap_old (heap_new _ _) _) _) _, heap_old (heap_old (heap_new' (by simp) _) _) _, heap_old (heap_new' (by simp) _) _, heap_new' (by simp) _⟩, ?_⟩
    · rw [show V 1 0 0 0 = 1 from by decide]; exact HS.out
    · show Below _ _ _
      go_grown
  case round =>
    obtain ⟨z, o0, o1, o2, o3, rfl, HZ, HO, HH, HB⟩ := hrel
    rcases gk with _ | k
    · obtain rfl : z = -1 := by have := HZ.out.1; omega
      have HQ : Hid (o0 = r0 ∧ o1 = r1 ∧ o2 = r2 ∧ o3 = r3) := HE.out _ _ _ _ HO.out.1 HO.out.2
      have c5 := cells4 HH.out.2.2.2
      have cR := cells4 HH.out.2.2.1; have fR := frozen_of HH.out.2.2.1
      have hQ := cells4 (set4 HH.out.2.2.1 (.int .u64 o0) (.int .u64 o1) (.int .u64 o2) (.int .u64 o3))
      go_wp2
      obtain ⟨rfl, rfl, rfl, rfl⟩ := HQ.out
      refine bodyPost_ret (v := .agg #[.int .u64 o0, .int .u64 o1, .int .u64 o2, .int .u64 o3]) (by simp [results, Try.results59, go_sem, hQ]) rfl ⟨rfl, ?_⟩
      have := HB.out
      go_grown
    · obtain rfl : z = (k : Int) := by have := HZ.out.1; omega
      obtain ⟨m0, m1, m2, m3, ⟨hm, hmv⟩, FM⟩ := mul_fact o0 o1 o2 o3 o0 o1 o2 o3 HO.out.1 HO.out.1
      obtain ⟨b, hbv, FB⟩ := bit_fact n0 n1 n2 n3 k HWN.out (by have := HZ.out.2; omega)
      have HM := Lib.hid FM; have HBt := Lib.hid FB
      clear FM FB
      have c5 := cells4 HH.out.2.2.2
      go_wp2_with (fail)
      go_at_call 46
      refine (HM.out _).mono ?_
      rintro e w1 ⟨rfl, hb⟩
      have H0 := Lib.hid (heap_keep' hb HH.out.1)
      have H1 := Lib.hid (heap_keep' hb HH.out.2.1)
      have H2 := Lib.hid (heap_keep' hb HH.out.2.2.1)
      have hO := heap_keep' hb HH.out.2.2.2
      have HB1 : Hid (Below w.heap.size w w1) := below_call HB.out HB.out.size hb
      clear hb c5
      have cO := cells4 hO; have fO := frozen_of hO; have zO := lt_of_heap hO
      have H3 := Lib.hid hO
      clear hO
      have c1 := cells4 H1.out
      go_wp2_with (fail)
      go_at_call 67
      refine (HBt.out _).mono ?_
      rintro e w2 ⟨rfl, hb⟩
      have G0 := Lib.hid (heap_keep' hb (keep4 H0.out (by omega) _ _ _ _))
      have G1 := Lib.hid (heap_keep' hb (keep4 H1.out (by omega) _ _ _ _))
      have G2 := Lib.hid (heap_keep' hb (keep4 H2.out (by omega) _ _ _ _))
      have hO := heap_keep' hb (set4 H3.out (.int .u64 m0) (.int .u64 m1) (.int .u64 m2) (.int .u64 m3))
      have HB2 : Hid (Below w.heap.size w w2) := by
        have h := set4_below (b := w.heap.size + 1 + 1 + 1) HB1.out (by omega) (.int .u64 m0) (.int .u64 m1) (.int .u64 m2) (.int .u64 m3)
        exact below_call h h.size hb
      clear hb c1 cO fO zO H0 H1 H2 H3 HB1
      have cO := cells4 hO; have fO := frozen_of hO; have zO := lt_of_heap hO
      have G3 := Lib.hid hO
      clear hO
      rcases (show b = 0 ∨ b = 1 by omega) with rfl | rfl
      · have HN : Hid (PW A N k (V m0 m1 m2 m3)) := PW_zero HO.out.2 (by rw [← HN.out]; exact hbv.symm) hmv
        simp only [Int.natCast_zero]
        clear HBt HM hbv
        go_wp2
        go_roundg k
        case measure => exact Nat.lt_succ_self k
        case rel =>
          refine ⟨(k : Int) - 1, m0, m1, m2, m3, congrArg _ (k_less (by have := HZ.out.2; omega)), ⟨rfl, ?_⟩, ⟨hm, HN.out⟩, ⟨G0.out, G1.out, G2.out, G3.out⟩, HB2.out⟩
          have := HZ.out.2; omega
      · obtain ⟨t0, t1, t2, t3, ⟨ht, htv⟩, FT⟩ := mul_fact m0 m1 m2 m3 a0 a1 a2 a3 hm HWA.out
        have HN : Hid (PW A N k (V t0 t1 t2 t3)) := PW_one HO.out.2 (by rw [← HN.out]; exact hbv.symm) hmv (by rw [htv, HA.out])
        have HT := Lib.hid FT
        clear FT
        simp only [Int.natCast_one]
        clear HBt HM hbv
        have c0 := cells4 G0.out
        go_wp2_with (fail)
        go_at_call 46
        refine (HT.out _).mono ?_
        rintro e w3 ⟨rfl, hb⟩
        have L0 := Lib.hid (heap_keep' hb G0.out)
        have L1 := Lib.hid (heap_keep' hb G1.out)
        have L2 := Lib.hid (heap_keep' hb G2.out)
        have hO := heap_keep' hb G3.out
        have HB3 : Hid (Below w.heap.size w w3) := below_call HB2.out HB2.out.size hb
        clear hb c0 cO fO zO G0 G1 G2 G3 HB2
        have cO := cells4 hO; have fO := frozen_of hO; have zO := lt_of_heap hO
        have L3 := Lib.hid hO
        clear hO
        go_wp2
        go_roundg k
        case measure => exact Nat.lt_succ_self k
        case rel =>
          refine ⟨(k : Int) - 1, t0, t1, t2, t3, congrArg _ (k_less (by have := HZ.out.2; omega)), ⟨rfl, ?_⟩, ⟨ht, HN.out⟩, ⟨keep4 L0.out (by omega) _ _ _ _, keep4 L1.out (by omega) _ _ _ _, keep4 L2.out (by omega) _ _ _ _, set4 L3.out _ _ _ _⟩, ?_⟩
          · have := HZ.out.2; omega
          · exact set4_below HB3.out (by omega) _ _ _ _

theorem W4_one {n : Nat} (h : n < 18446744073709551616) : W4 n 0 0 0 := by unfold W4; omega
theorem V_one {n : Nat} : V n 0 0 0 = n := by unfold V; omega
end Go.Proofs.Ytgeldhdijochdaa
/- Plain law: square roots modulo 2^255 - 19. -/
namespace Go.Proofs.Ytgeldhdijochdaa
set_option linter.unusedVariables false
set_option linter.unusedSimpArgs false
namespace Pl

def e8 : Nat := 7237005577332262213973186563042994240829374041602535252466099000494570602494
def q4 : Nat := 14474011154664524427946373126085988481658748083205070504932198000989141204987
def h2 : Nat := 28948022309329048855892746252171976963317496166410141009864396001978282409974
theorem e8_eq : e8 * 8 = pP + 3 := by decide +kernel
theorem q4_eq : q4 * 4 = pP - 1 := by decide +kernel
theorem h2_eq : h2 * 2 = pP - 1 := by decide +kernel
theorem q4_two : q4 * 2 = h2 := by decide +kernel
theorem e8_h2 : e8 * 4 = h2 + 2 := by decide +kernel
theorem pP_odd : pP % 2 = 1 := by decide +kernel

theorem half_two : 2 ^ h2 % pP = pP - 1 := by
  have h := powm_eq pP 256 2 h2 (by decide +kernel)
  rw [← h]
  decide +kernel

theorem F_sub_zero {a b : F} (h : a - b = 0) : a = b := by
  have e : a = (a - b) + b := by grind
  rw [e, h]; grind

theorem sq_one {x : Nat} (h : x * x % pP = 1) : x % pP = 1 ∨ x % pP = pP - 1 := by
  have h1 : toF (x * x) = toF 1 := toF_eq.2 (by rw [h]; decide +kernel)
  rw [toF_mul, toF_one] at h1
  have h2 : (toF x - 1) * (toF x + 1) = 0 := by grind
  rcases F_mul_eq_zero h2 with h3 | h3
  · left
    have h4 : toF x = 1 := F_sub_zero h3
    have h5 := congrArg Fin.val h4
    rw [toF_val] at h5
    rw [h5]; decide +kernel
  · right
    have h4 : toF (x + 1) = toF 0 := by rw [toF_add, toF_one, toF_zero]; exact h3
    have h5 := toF_eq.1 h4
    have h6 := Nat.mod_lt x (show 0 < pP by have := pP_gt; omega)
    have h7 := pP_gt
    rw [Nat.zero_mod, Nat.add_mod, Nat.mod_eq_of_lt (show 1 < pP by omega)] at h5
    generalize x % pP = y at h5 h6 ⊢
    rcases Nat.lt_or_ge (y + 1) pP with h8 | h8
    · rw [Nat.mod_eq_of_lt h8] at h5; omega
    · exact Nat.eq_sub_of_add_eq (Nat.le_antisymm h6 h8)

theorem sq_mod (x n : Nat) : x ^ n * x ^ n % pP = x ^ (n * 2) % pP := by rw [Nat.mul_two, Nat.pow_add]

/-- Where neither candidate is a root there is none. -/
theorem root_none {A t i u : Nat} (hA : A < pP) (ht : t = A ^ e8 % pP) (hi : i = 2 ^ q4 % pP) (hu : u = t * i % pP) (h1 : t * t % pP ≠ A) (h2' : u * u % pP ≠ A) (x : Nat) : x * x % pP ≠ A := by
  intro hx
  have hp := pP_gt
  by_cases h0 : A = 0
  · apply h1
    rw [ht, h0, Nat.zero_pow (by decide +kernel), Nat.zero_mod, Nat.mul_zero, Nat.zero_mod]
  have hx0 : x % pP ≠ 0 := by
    intro e
    apply h0
    rw [← hx, Nat.mul_mod, e, Nat.mul_zero, Nat.zero_mod]
  have hf := fermat hx0
  have e1 : t * t % pP = x ^ h2 * (x * x) % pP := by
    have e2 : A ^ e8 % pP = (x * x) ^ e8 % pP := pow_mod_congr _ _ _ _ (by rw [← hx, Nat.mod_mod])
    rw [ht, ← Nat.mul_mod, sq_mod, pow_mod_congr A (x * x) (e8 * 2) pP (by rw [← hx, Nat.mod_mod]), ← Nat.pow_two x, ← Nat.pow_mul, show 2 * (e8 * 2) = h2 + 2 by rw [← e8_h2]; omega, Nat.pow_add]
  have e3 : x ^ h2 * x ^ h2 % pP = 1 := by rw [sq_mod, h2_eq]; exact hf
  rcases sq_one e3 with h | h
  · apply h1
    rw [e1, Nat.mul_mod, h, Nat.one_mul, Nat.mod_mod, hx]
  · apply h2'
    have ei : i * i % pP = pP - 1 := by rw [hi, ← Nat.mul_mod, sq_mod, q4_two, half_two]
    have e4 : u * u % pP = (t * t % pP) * (i * i % pP) % pP := by
      rw [hu, ← Nat.mul_mod, ← Nat.mul_mod]
      congr 1
      grind
    rw [e4, e1, ei, Nat.mul_mod (x ^ h2) (x * x), h, hx]
    have e5 : (pP - 1) * A % pP * (pP - 1) % pP = A := by
      rw [Nat.mod_mul_mod]
      have e6 : (pP - 1) * A * (pP - 1) = A + pP * (A * (pP - 2)) := by
        obtain ⟨q, hq⟩ : ∃ q, pP = q + 2 := ⟨pP - 2, by omega⟩
        rw [hq]
        simp only [show q + 2 - 1 = q + 1 by omega, Nat.add_sub_cancel]
        grind
      rw [e6, Nat.add_mul_mod_self_left, Nat.mod_eq_of_lt hA]
    exact e5

/-- Two even roots of one square are the same. -/
theorem same_root {r x : Nat} (hr : r < pP) (hx : x < pP) (er : r % 2 = 0) (ex : x % 2 = 0) (h : r * r % pP = x * x % pP) : r = x := by
  have h1 : toF (r * r) = toF (x * x) := toF_eq.2 h
  rw [toF_mul, toF_mul] at h1
  have h2 : (toF r - toF x) * (toF r + toF x) = 0 := by grind
  rcases F_mul_eq_zero h2 with h3 | h3
  · have h4 := toF_eq.1 (F_sub_zero h3)
    rw [Nat.mod_eq_of_lt hr, Nat.mod_eq_of_lt hx] at h4
    exact h4
  · rw [← toF_add, toF_eq_zero] at h3
    have h4 := pP_odd
    have h5 : r + x = 0 ∨ r + x = pP := by
      rcases Nat.lt_or_ge (r + x) pP with h6 | h6
      · left; rw [Nat.mod_eq_of_lt h6] at h3; exact h3
      · right
        have h7 : (r + x) % pP = r + x - pP := by rw [Nat.mod_eq_sub_mod h6, Nat.mod_eq_of_lt (by omega)]
        omega
    omega

/-- The other root: the even one of both. -/
theorem neg_root {r : Nat} (hr : r < pP) (o : r % 2 = 1) : (0 % pP + (pP - r % pP)) % pP = pP - r ∧ (pP - r) % 2 = 0 ∧ pP - r < pP ∧ (pP - r) * (pP - r) % pP = r * r % pP := by
  have h1 := pP_odd
  have h2 : r % pP = r := Nat.mod_eq_of_lt hr
  have h3 : (0 : Nat) % pP = 0 := Nat.zero_mod _
  refine ⟨by rw [h2, h3, Nat.zero_add]; exact Nat.mod_eq_of_lt (by omega), by omega, by omega, ?_⟩
  apply toF_eq.1
  rw [toF_mul, toF_sub (by omega), toF_p, toF_mul]
  grind

theorem euler {A : Nat} (hA : A < pP) : (A = 0 ∨ A ^ h2 % pP = 1) ↔ ∃ x, x * x % pP = A := by
  have hp := pP_gt
  constructor
  · rintro (h | h)
    · exact ⟨0, by rw [h, Nat.mul_zero, Nat.zero_mod]⟩
    · have h0 : A % pP ≠ 0 := by
        intro e
        rw [pow_zero_mod e (by decide +kernel)] at h
        omega
      obtain ⟨k, hk⟩ := gen_of h0
      rw [Nat.mod_eq_of_lt hA] at hk
      rcases Nat.mod_two_eq_zero_or_one k with hk2 | hk2
      · refine ⟨2 ^ (k / 2), ?_⟩
        rw [sq_mod, show k / 2 * 2 = k by omega, hk]
      · exfalso
        have e1 : A ^ h2 % pP = (2 ^ k) ^ h2 % pP := pow_mod_congr _ _ _ _ (by rw [← hk, Nat.mod_mod])
        obtain ⟨m, hm⟩ : ∃ m, k = 2 * m + 1 := ⟨k / 2, by omega⟩
        rw [e1, ← Nat.pow_mul, hm, show (2 * m + 1) * h2 = (pP - 1) * m + h2 by rw [← h2_eq]; grind, Nat.pow_add, Nat.mul_mod, pow_mul_one (by omega) two_pow, Nat.one_mul, Nat.mod_mod, half_two] at h
        omega
  · rintro ⟨x, hx⟩
    by_cases h0 : A = 0
    · exact .inl h0
    · right
      have hx0 : x % pP ≠ 0 := by
        intro e
        apply h0
        rw [← hx, Nat.mul_mod, e, Nat.mul_zero, Nat.zero_mod]
      rw [pow_mod_congr A (x * x) h2 pP (by rw [← hx, Nat.mod_mod]), ← Nat.pow_two, ← Nat.pow_mul, Nat.mul_comm, h2_eq]
      exact fermat hx0

end Pl
end Go.Proofs.Ytgeldhdijochdaa
/- @@NUM 26 The walk of residue's Root. Conditions: words are below 2^64. -/
namespace Go.Proofs.Ytgeldhdijochdaa
set_option linter.unusedVariables false
set_option linter.unusedSimpArgs false
open Go Go.RowKit
open Pl (V V8 W4 T256 pP)
attribute [local go_sem ↓] eql_num neq_num

theorem bit0_even {n : Nat} (h : n < 18446744073709551616) (e : n % 2 = 0) : bits .and .u64 (n : Int) 1 = 0 := by
  rw [and_one_u64 _ (by omega) (by omega)]; omega
theorem bit0_odd {n : Nat} (h : n < 18446744073709551616) (e : n % 2 = 1) : bits .and .u64 (n : Int) 1 = 1 := by
  rw [and_one_u64 _ (by omega) (by omega)]; omega
theorem V_par (a0 a1 a2 a3 : Nat) : V a0 a1 a2 a3 % 2 = a0 % 2 := by unfold V; omega

/-- What Root answers. -/
def Rooted (r0 r1 r2 r3 : Nat) (z : Bool) (A : Nat) : Prop := W4 r0 r1 r2 r3 ∧ (z = true → V r0 r1 r2 r3 < pP ∧ V r0 r1 r2 r3 % 2 = 0 ∧ V r0 r1 r2 r3 * V r0 r1 r2 r3 % pP = A) ∧ (z = false → V r0 r1 r2 r3 = 0 ∧ ∀ x : Nat, x * x % pP ≠ A)

theorem E8_W : W4 18446744073709551614 18446744073709551615 18446744073709551615 1152921504606846975 := by unfold W4; omega
theorem E8_V : V 18446744073709551614 18446744073709551615 18446744073709551615 1152921504606846975 = Pl.e8 := by decide +kernel
theorem Q4_W : W4 18446744073709551611 18446744073709551615 18446744073709551615 2305843009213693951 := by unfold W4; omega
theorem Q4_V : V 18446744073709551611 18446744073709551615 18446744073709551615 2305843009213693951 = Pl.q4 := by decide +kernel

set_option maxHeartbeats 4000000 in
theorem root_A0 (a0 a1 a2 a3 s0 s1 s2 s3 t0 t1 t2 t3 m0 m1 m2 m3 : Nat) (FS : Hid (∀ w : World, Calls Try.prog 48 #[.agg #[.int .u64 a0, .int .u64 a1, .int .u64 a2, .int .u64 a3]] w fun e w' => e = .returned (.agg #[.int .u64 s0, .int .u64 s1, .int .u64 s2, .int .u64 s3]) ∧ Below w.heap.size w w')) (FP : Hid (∀ w : World, Calls Try.prog 59 #[.agg #[.int .u64 s0, .int .u64 s1, .int .u64 s2, .int .u64 s3], .agg #[.int .u64 18446744073709551614, .int .u64 18446744073709551615, .int .u64 18446744073709551615, .int .u64 1152921504606846975]] w fun e w' => e = .returned (.agg #[.int .u64 t0, .int .u64 t1, .int .u64 t2, .int .u64 t3]) ∧ Below w.heap.size w w')) (FM : Hid (∀ w : World, Calls Try.prog 46 #[.agg #[.int .u64 t0, .int .u64 t1, .int .u64 t2, .int .u64 t3], .agg #[.int .u64 t0, .int .u64 t1, .int .u64 t2, .int .u64 t3]] w fun e w' => e = .returned (.agg #[.int .u64 m0, .int .u64 m1, .int .u64 m2, .int .u64 m3]) ∧ Below w.heap.size w w')) (E1 : eqL [(m0 : Int), m1, m2, m3] [(s0 : Int), s1, s2, s3] = true) (EB : bits .and .u64 (t0 : Int) 1 = 0) (w : World) : Calls Try.prog 58 #[.agg #[.int .u64 a0, .int .u64 a1, .int .u64 a2, .int .u64 a3]] w fun e w' => e = .returned (.tuple #[.agg #[.int .u64 t0, .int .u64 t1, .int .u64 t2, .int .u64 t3], .bool true]) ∧ Below w.heap.size w w' := by
  go_enter Try.func58, Try.ntmps58
  go_wp2_with (fail)
  go_at_call 48
  refine (FS.out _).mono ?_
  rintro e wa ⟨rfl, hb⟩
  have HBn : Hid (Below w.heap.size w wa) := Lib.hid ((fun (h : Below _ _ _) => below_call h h.size hb) (by first | go_grown))
  have hBa_ : wa.heap[w.heap.size]? = some (.cells #[.int .u64 a0, .int .u64 a1, .int .u64 a2, .int .u64 a3] 26 (0, 0)) := heap_keep' hb (by repeat (first | (with_reducible refine heap_new' ?_ _; simp; done) | (with_reducible refine keep4 ?_ (by omega) _ _ _ _) | (with_reducible refine heap_old ?_ _) | (with_reducible refine heap_drew ?_) | (with_reducible refine heap_set_ne ?_ (by simp <;> omega) _)))
  have hBr_ : wa.heap[w.heap.size + 1]? = some (.cells #[.int .u64 0, .int .u64 0, .int .u64 0, .int .u64 0] 26 (0, 0)) := heap_keep' hb (by repeat (first | (with_reducible refine heap_new' ?_ _; simp; done) | (with_reducible refine keep4 ?_ (by omega) _ _ _ _) | (with_reducible refine heap_old ?_ _) | (with_reducible refine heap_drew ?_) | (with_reducible refine heap_set_ne ?_ (by simp <;> omega) _)))
  clear hb
  have HB := HBn; clear HBn
  have HBa := Lib.hid hBa_; have cBa := cells4 hBa_; have fBa := frozen_of hBa_; have zBa := lt_of_heap hBa_; clear hBa_
  have HBr := Lib.hid hBr_; have cBr := cells4 hBr_; have fBr := frozen_of hBr_; have zBr := lt_of_heap hBr_; clear hBr_
  go_wp2_with (fail)
  go_at_call 59
  refine (FP.out _).mono ?_
  rintro e wb ⟨rfl, hb⟩
  have HBn : Hid (Below w.heap.size w wb) := Lib.hid ((fun (h : Below _ _ _) => below_call h h.size hb) (by have hB0 := HB.out; have hS0 := hB0.size; first | (with_reducible exact hB0) | (with_reducible exact set4_below hB0 (by omega) _ _ _ _) | (with_reducible exact set4_below (set4_below hB0 (by omega) _ _ _ _) (by omega) _ _ _ _) | (with_reducible exact set4_below (set4_below (set4_below (set4_below hB0 (by omega) _ _ _ _) (by omega) _ _ _ _) (by omega) _ _ _ _) (by omega) _ _ _ _) | go_grown))
  have hBa_ : wb.heap[w.heap.size]? = some (.cells #[.int .u64 s0, .int .u64 s1, .int .u64 s2, .int .u64 s3] 26 (0, 0)) := heap_keep' hb (by repeat (first | (with_reducible exact HBa.out) | (with_reducible exact set4 HBa.out _ _ _ _) | (with_reducible apply set4) | (with_reducible refine heap_new' ?_ _; simp; done) | (with_reducible refine keep4 ?_ (by omega) _ _ _ _) | (with_reducible refine heap_old ?_ _) | (with_reducible refine heap_drew ?_) | (with_reducible refine heap_set_ne ?_ (by simp <;> omega) _)))
  have hBr_ : wb.heap[w.heap.size + 1]? = some (.cells #[.int .u64 0, .int .u64 0, .int .u64 0, .int .u64 0] 26 (0, 0)) := heap_keep' hb (by repeat (first | (with_reducible exact HBr.out) | (with_reducible exact set4 HBr.out _ _ _ _) | (with_reducible apply set4) | (with_reducible refine heap_new' ?_ _; simp; done) | (with_reducible refine keep4 ?_ (by omega) _ _ _ _) | (with_reducible refine heap_old ?_ _) | (with_reducible refine heap_drew ?_) | (with_reducible refine heap_set_ne ?_ (by simp <;> omega) _)))
  have hBe_ : wb.heap[wa.heap.size]? = some (.cells #[.int .u64 18446744073709551614, .int .u64 18446744073709551615, .int .u64 18446744073709551615, .int .u64 1152921504606846975] 26 (0, 0)) := heap_keep' hb (by repeat (first | (with_reducible refine heap_new' ?_ _; simp; done) | (with_reducible refine keep4 ?_ (by omega) _ _ _ _) | (with_reducible refine heap_old ?_ _) | (with_reducible refine heap_drew ?_) | (with_reducible refine heap_set_ne ?_ (by simp <;> omega) _)))
  clear hb HB HBa cBa fBa zBa HBr cBr fBr zBr
  have HB := HBn; clear HBn
  have HBa := Lib.hid hBa_; have cBa := cells4 hBa_; have fBa := frozen_of hBa_; have zBa := lt_of_heap hBa_; clear hBa_
  have HBr := Lib.hid hBr_; have cBr := cells4 hBr_; have fBr := frozen_of hBr_; have zBr := lt_of_heap hBr_; clear hBr_
  have HBe := Lib.hid hBe_; have cBe := cells4 hBe_; have fBe := frozen_of hBe_; have zBe := lt_of_heap hBe_; clear hBe_
  have q1 := zBr; have q2 := zBe
  go_wp2
  refine Rg.region_ (n := 38) [0, 0, 3, 0, 15] [1, 1, 1, 1, 0] [13, 14, 15, 16, 17] [[(5, none)], [(5, none)], [(13, some 0), (14, some 1)], [(1, none)], [(15, some 2), (16, some 3)]] 5 (by kernel_rfl) (by kernel_rfl) (by rfl) ?_
  intro W hW
  have hBa_ : W.heap[w.heap.size]? = some (.cells #[.int .u64 s0, .int .u64 s1, .int .u64 s2, .int .u64 s3] 26 (0, 0)) := by rw [hW]; exact (by repeat (first | (with_reducible exact HBa.out) | (with_reducible exact set4 HBa.out _ _ _ _) | (with_reducible apply set4) | (with_reducible refine heap_new' ?_ _; simp; done) | (with_reducible refine keep4 ?_ (by omega) _ _ _ _) | (with_reducible refine heap_old ?_ _) | (with_reducible refine heap_drew ?_) | (with_reducible refine heap_set_ne ?_ (by simp <;> omega) _)))
  have hBr_ : W.heap[w.heap.size + 1]? = some (.cells #[.int .u64 0, .int .u64 0, .int .u64 0, .int .u64 0] 26 (0, 0)) := by rw [hW]; exact (by repeat (first | (with_reducible exact HBr.out) | (with_reducible exact set4 HBr.out _ _ _ _) | (with_reducible apply set4) | (with_reducible refine heap_new' ?_ _; simp; done) | (with_reducible refine keep4 ?_ (by omega) _ _ _ _) | (with_reducible refine heap_old ?_ _) | (with_reducible refine heap_drew ?_) | (with_reducible refine heap_set_ne ?_ (by simp <;> omega) _)))
  have hBe_ : W.heap[wa.heap.size]? = some (.cells #[.int .u64 18446744073709551614, .int .u64 18446744073709551615, .int .u64 18446744073709551615, .int .u64 1152921504606846975] 26 (0, 0)) := by rw [hW]; exact (by repeat (first | (with_reducible exact HBe.out) | (with_reducible exact set4 HBe.out _ _ _ _) | (with_reducible apply set4) | (with_reducible refine heap_new' ?_ _; simp; done) | (with_reducible refine keep4 ?_ (by omega) _ _ _ _) | (with_reducible refine heap_old ?_ _) | (with_reducible refine heap_drew ?_) | (with_reducible refine heap_set_ne ?_ (by simp <;> omega) _)))
  have hBo_ : W.heap[wb.heap.size]? = some (.cells #[.int .u64 t0, .int .u64 t1, .int .u64 t2, .int .u64 t3] 26 (0, 0)) := by rw [hW]; exact (by repeat (first | (with_reducible refine heap_new' ?_ _; simp; done) | (with_reducible refine keep4 ?_ (by omega) _ _ _ _) | (with_reducible refine heap_old ?_ _) | (with_reducible refine heap_drew ?_) | (with_reducible refine heap_set_ne ?_ (by simp <;> omega) _)))
  have HB0 : Below w.heap.size w W := by rw [hW]; have hB0 := HB.out; have hS0 := hB0.size; first | exact hB0.drew | exact (set4_below hB0 (by omega) _ _ _ _).drew | go_grown
  change Rg.Chain' _ _ _ _ _ [(0, 1, 13, [(5, none)]), (1, 1, 14, [(5, none)]), (2, 1, 15, [(13, some 0), (14, some 1)]), (3, 1, 16, [(1, none)]), (4, 0, 17, [(15, some 2), (16, some 3)])] [(0, 1, 13, [(5, none)]), (1, 1, 14, [(5, none)]), (2, 1, 15, [(13, some 0), (14, some 1)]), (3, 1, 16, [(1, none)]), (4, 0, 17, [(15, some 2), (16, some 3)])] _
  apply Rg.ch_def (by rfl) (fun a w1 _ => Rg.wanted_none (by rfl))
  · rintro a w1 hb ⟨e5, -⟩
    conv at e5 => rhs; whnf
    have n5 := e5
    simp only [Act.eval, Array.getD_eq_getD_getElem?] at n5
    apply Rg.gives_value
    · conv => lhs; simp [go_sem, n5, cells4 (heap_keep' hb hBa_), cells4 (heap_keep' hb hBr_), cells4 (heap_keep' hb hBe_), cells4 (heap_keep' hb hBo_)]
    · exact ⟨rfl, Below.refl _ _⟩
  apply Rg.ch_def (by rfl) (fun a w1 _ => Rg.wanted_none (by rfl))
  · rintro a w1 hb ⟨e5, -⟩
    conv at e5 => rhs; whnf
    have n5 := e5
    simp only [Act.eval, Array.getD_eq_getD_getElem?] at n5
    apply Rg.gives_value
    · conv => lhs; simp [go_sem, n5, cells4 (heap_keep' hb hBa_), cells4 (heap_keep' hb hBr_), cells4 (heap_keep' hb hBe_), cells4 (heap_keep' hb hBo_)]
    · exact ⟨rfl, Below.refl _ _⟩
  apply Rg.ch_def (by rfl) (fun a w1 _ => Rg.wanted_none (by rfl))
  · rintro a w1 hb ⟨e13, e14, -⟩
    replace e13 : a.eval (.tmp 13) = _ := e13
    replace e14 : a.eval (.tmp 14) = _ := e14
    apply Rg.gives_enter
    · apply run_call Try.func46 (by kernel_rfl) rfl _ (by rfl)
      conv => lhs; simp only [List.map_toArray, List.map_cons, List.map_nil, eval_const_, eval_global_, e13, e14]
    · refine (FM.out _).mono ?_
      rintro e w2 ⟨rfl, hb2⟩
      exact ⟨_, rfl, rfl, hb2⟩
  apply Rg.ch_def (by rfl) (fun a w1 _ => Rg.wanted_none (by rfl))
  · rintro a w1 hb ⟨e1, -⟩
    conv at e1 => rhs; whnf
    have n1 := e1
    simp only [Act.eval, Array.getD_eq_getD_getElem?] at n1
    apply Rg.gives_value
    · conv => lhs; simp [go_sem, n1, cells4 (heap_keep' hb hBa_), cells4 (heap_keep' hb hBr_), cells4 (heap_keep' hb hBe_), cells4 (heap_keep' hb hBo_)]
    · exact ⟨rfl, Below.refl _ _⟩
  apply Rg.ch_pure (by rfl)
  · rintro a w1 ⟨e15, e16, -⟩
    replace e15 : a.eval (.tmp 15) = _ := e15
    have n15 := e15
    simp only [Act.eval, Array.getD_eq_getD_getElem?] at n15
    replace e16 : a.eval (.tmp 16) = _ := e16
    have n16 := e16
    simp only [Act.eval, Array.getD_eq_getD_getElem?] at n16
    apply Rg.yields_run (Rg.wanted_none (by rfl))
    intro w2
    conv => lhs; simp [go_sem, n15, n16, E1]
  intro w1 hb1
  rintro _ rfl _ rfl _ rfl _ rfl _ rfl
  change Go.wpList _ _ _ _ _ _
  simp only [List.drop_succ_cons, List.drop_zero, List.drop_nil, Act.put, List.setIfInBounds_toArray, List.set_cons_succ, List.set_cons_zero]
  change Go.NoPanic _ _ _ _
  refine NoPanic.normal ?_
  have HBn : Hid (Below w.heap.size w w1) := Lib.hid (below_call HB0 HB0.size hb1)
  have hBa__ := heap_keep' hb1 hBa_
  have hBr__ := heap_keep' hb1 hBr_
  have hBe__ := heap_keep' hb1 hBe_
  have hBo__ := heap_keep' hb1 hBo_
  clear hb1 HB0 HB hBa_ HBa cBa fBa zBa hBr_ HBr cBr fBr zBr hBe_ HBe cBe fBe zBe hBo_
  clear hW
  obtain ⟨wc, rfl⟩ : ∃ x : World, x = w1 := ⟨_, rfl⟩
  have HB := HBn; clear HBn
  have HBa := Lib.hid hBa__; have cBa := cells4 hBa__; have fBa := frozen_of hBa__; have zBa := lt_of_heap hBa__; clear hBa__
  have HBr := Lib.hid hBr__; have cBr := cells4 hBr__; have fBr := frozen_of hBr__; have zBr := lt_of_heap hBr__; clear hBr__
  have HBe := Lib.hid hBe__; have cBe := cells4 hBe__; have fBe := frozen_of hBe__; have zBe := lt_of_heap hBe__; clear hBe__
  have HBo := Lib.hid hBo__; have cBo := cells4 hBo__; have fBo := frozen_of hBo__; have zBo := lt_of_heap hBo__; clear hBo__
  go_wp2
  refine Rg.region_ (n := 38) [0, 0, 3, 0, 15] [1, 1, 1, 1, 0] [24, 25, 26, 27, 28] [[(5, none)], [(5, none)], [(24, some 0), (25, some 1)], [(1, none)], [(26, some 2), (27, some 3)]] 5 (by kernel_rfl) (by kernel_rfl) (by rfl) ?_
  intro W hW
  have hBa_ : W.heap[w.heap.size]? = some (.cells #[.int .u64 s0, .int .u64 s1, .int .u64 s2, .int .u64 s3] 26 (0, 0)) := by rw [hW]; exact (by repeat (first | (with_reducible exact HBa.out) | (with_reducible exact set4 HBa.out _ _ _ _) | (with_reducible apply set4) | (with_reducible refine heap_new' ?_ _; simp; done) | (with_reducible refine keep4 ?_ (by omega) _ _ _ _) | (with_reducible refine heap_old ?_ _) | (with_reducible refine heap_drew ?_) | (with_reducible refine heap_set_ne ?_ (by simp <;> omega) _)))
  have hBr_ : W.heap[w.heap.size + 1]? = some (.cells #[.int .u64 0, .int .u64 0, .int .u64 0, .int .u64 0] 26 (0, 0)) := by rw [hW]; exact (by repeat (first | (with_reducible exact HBr.out) | (with_reducible exact set4 HBr.out _ _ _ _) | (with_reducible apply set4) | (with_reducible refine heap_new' ?_ _; simp; done) | (with_reducible refine keep4 ?_ (by omega) _ _ _ _) | (with_reducible refine heap_old ?_ _) | (with_reducible refine heap_drew ?_) | (with_reducible refine heap_set_ne ?_ (by simp <;> omega) _)))
  have hBe_ : W.heap[wa.heap.size]? = some (.cells #[.int .u64 18446744073709551614, .int .u64 18446744073709551615, .int .u64 18446744073709551615, .int .u64 1152921504606846975] 26 (0, 0)) := by rw [hW]; exact (by repeat (first | (with_reducible exact HBe.out) | (with_reducible exact set4 HBe.out _ _ _ _) | (with_reducible apply set4) | (with_reducible refine heap_new' ?_ _; simp; done) | (with_reducible refine keep4 ?_ (by omega) _ _ _ _) | (with_reducible refine heap_old ?_ _) | (with_reducible refine heap_drew ?_) | (with_reducible refine heap_set_ne ?_ (by simp <;> omega) _)))
  have hBo_ : W.heap[wb.heap.size]? = some (.cells #[.int .u64 t0, .int .u64 t1, .int .u64 t2, .int .u64 t3] 26 (0, 0)) := by rw [hW]; exact (by repeat (first | (with_reducible exact HBo.out) | (with_reducible exact set4 HBo.out _ _ _ _) | (with_reducible apply set4) | (with_reducible refine heap_new' ?_ _; simp; done) | (with_reducible refine keep4 ?_ (by omega) _ _ _ _) | (with_reducible refine heap_old ?_ _) | (with_reducible refine heap_drew ?_) | (with_reducible refine heap_set_ne ?_ (by simp <;> omega) _)))
  have HB0 : Below w.heap.size w W := by rw [hW]; have hB0 := HB.out; have hS0 := hB0.size; first | exact hB0.drew | exact (set4_below hB0 (by omega) _ _ _ _).drew | go_grown
  change Rg.Chain' _ _ _ _ _ [(0, 1, 24, [(5, none)]), (1, 1, 25, [(5, none)]), (2, 1, 26, [(24, some 0), (25, some 1)]), (3, 1, 27, [(1, none)]), (4, 0, 28, [(26, some 2), (27, some 3)])] [(0, 1, 24, [(5, none)]), (1, 1, 25, [(5, none)]), (2, 1, 26, [(24, some 0), (25, some 1)]), (3, 1, 27, [(1, none)]), (4, 0, 28, [(26, some 2), (27, some 3)])] _
  apply Rg.ch_def (by rfl) (fun a w1 _ => Rg.wanted_none (by rfl))
  · rintro a w1 hb ⟨e5, -⟩
    conv at e5 => rhs; whnf
    have n5 := e5
    simp only [Act.eval, Array.getD_eq_getD_getElem?] at n5
    apply Rg.gives_value
    · conv => lhs; simp [go_sem, n5, cells4 (heap_keep' hb hBa_), cells4 (heap_keep' hb hBr_), cells4 (heap_keep' hb hBe_), cells4 (heap_keep' hb hBo_)]
    · exact ⟨rfl, Below.refl _ _⟩
  apply Rg.ch_def (by rfl) (fun a w1 _ => Rg.wanted_none (by rfl))
  · rintro a w1 hb ⟨e5, -⟩
    conv at e5 => rhs; whnf
    have n5 := e5
    simp only [Act.eval, Array.getD_eq_getD_getElem?] at n5
    apply Rg.gives_value
    · conv => lhs; simp [go_sem, n5, cells4 (heap_keep' hb hBa_), cells4 (heap_keep' hb hBr_), cells4 (heap_keep' hb hBe_), cells4 (heap_keep' hb hBo_)]
    · exact ⟨rfl, Below.refl _ _⟩
  apply Rg.ch_def (by rfl) (fun a w1 _ => Rg.wanted_none (by rfl))
  · rintro a w1 hb ⟨e24, e25, -⟩
    replace e24 : a.eval (.tmp 24) = _ := e24
    replace e25 : a.eval (.tmp 25) = _ := e25
    apply Rg.gives_enter
    · apply run_call Try.func46 (by kernel_rfl) rfl _ (by rfl)
      conv => lhs; simp only [List.map_toArray, List.map_cons, List.map_nil, eval_const_, eval_global_, e24, e25]
    · refine (FM.out _).mono ?_
      rintro e w2 ⟨rfl, hb2⟩
      exact ⟨_, rfl, rfl, hb2⟩
  apply Rg.ch_def (by rfl) (fun a w1 _ => Rg.wanted_none (by rfl))
  · rintro a w1 hb ⟨e1, -⟩
    conv at e1 => rhs; whnf
    have n1 := e1
    simp only [Act.eval, Array.getD_eq_getD_getElem?] at n1
    apply Rg.gives_value
    · conv => lhs; simp [go_sem, n1, cells4 (heap_keep' hb hBa_), cells4 (heap_keep' hb hBr_), cells4 (heap_keep' hb hBe_), cells4 (heap_keep' hb hBo_)]
    · exact ⟨rfl, Below.refl _ _⟩
  apply Rg.ch_pure (by rfl)
  · rintro a w1 ⟨e26, e27, -⟩
    replace e26 : a.eval (.tmp 26) = _ := e26
    have n26 := e26
    simp only [Act.eval, Array.getD_eq_getD_getElem?] at n26
    replace e27 : a.eval (.tmp 27) = _ := e27
    have n27 := e27
    simp only [Act.eval, Array.getD_eq_getD_getElem?] at n27
    apply Rg.yields_run (Rg.wanted_none (by rfl))
    intro w2
    conv => lhs; simp [go_sem, n26, n27, E1]
  intro w1 hb1
  rintro _ rfl _ rfl _ rfl _ rfl _ rfl
  change Go.wpList _ _ _ _ _ _
  simp only [List.drop_succ_cons, List.drop_zero, List.drop_nil, Act.put, List.setIfInBounds_toArray, List.set_cons_succ, List.set_cons_zero]
  change Go.NoPanic _ _ _ _
  refine NoPanic.normal ?_
  have HBn : Hid (Below w.heap.size w w1) := Lib.hid (below_call HB0 HB0.size hb1)
  have hBa__ := heap_keep' hb1 hBa_
  have hBr__ := heap_keep' hb1 hBr_
  have hBe__ := heap_keep' hb1 hBe_
  have hBo__ := heap_keep' hb1 hBo_
  clear hb1 HB0 HB hBa_ HBa cBa fBa zBa hBr_ HBr cBr fBr zBr hBe_ HBe cBe fBe zBe hBo_ HBo cBo fBo zBo
  clear hW
  obtain ⟨wd, rfl⟩ : ∃ x : World, x = w1 := ⟨_, rfl⟩
  have HB := HBn; clear HBn
  have HBa := Lib.hid hBa__; have cBa := cells4 hBa__; have fBa := frozen_of hBa__; have zBa := lt_of_heap hBa__; clear hBa__
  have HBr := Lib.hid hBr__; have cBr := cells4 hBr__; have fBr := frozen_of hBr__; have zBr := lt_of_heap hBr__; clear hBr__
  have HBe := Lib.hid hBe__; have cBe := cells4 hBe__; have fBe := frozen_of hBe__; have zBe := lt_of_heap hBe__; clear hBe__
  have HBo := Lib.hid hBo__; have cBo := cells4 hBo__; have fBo := frozen_of hBo__; have zBo := lt_of_heap hBo__; clear hBo__
  go_wp2
  have hK := set4 HBr.out (.int .u64 t0) (.int .u64 t1) (.int .u64 t2) (.int .u64 t3)
  have hL : Below w.heap.size w _ := set4_below (b := w.heap.size + 1) HB.out (by omega) (.int .u64 t0) (.int .u64 t1) (.int .u64 t2) (.int .u64 t3)
  obtain ⟨v, hv⟩ : ∃ x, x = ((((wd.setCell ⟨w.heap.size + 1, 0, none⟩ (.int .u64 t0)).setCell ⟨w.heap.size + 1, 1, none⟩ (.int .u64 t1)).setCell ⟨w.heap.size + 1, 2, none⟩ (.int .u64 t2)).setCell ⟨w.heap.size + 1, 3, none⟩ (.int .u64 t3)) := ⟨_, rfl⟩
  rw [← hv] at hK hL ⊢
  clear hv
  have hQ := cells4 hK
  exact bodyPost_ret (v := .tuple #[.agg #[.int .u64 t0, .int .u64 t1, .int .u64 t2, .int .u64 t3], .bool true]) (by simp [results, Try.results58, go_sem, hQ]) rfl ⟨rfl, hL⟩

set_option maxHeartbeats 4000000 in
theorem root_A1 (a0 a1 a2 a3 s0 s1 s2 s3 t0 t1 t2 t3 m0 m1 m2 m3 : Nat) (FS : Hid (∀ w : World, Calls Try.prog 48 #[.agg #[.int .u64 a0, .int .u64 a1, .int .u64 a2, .int .u64 a3]] w fun e w' => e = .returned (.agg #[.int .u64 s0, .int .u64 s1, .int .u64 s2, .int .u64 s3]) ∧ Below w.heap.size w w')) (FP : Hid (∀ w : World, Calls Try.prog 59 #[.agg #[.int .u64 s0, .int .u64 s1, .int .u64 s2, .int .u64 s3], .agg #[.int .u64 18446744073709551614, .int .u64 18446744073709551615, .int .u64 18446744073709551615, .int .u64 1152921504606846975]] w fun e w' => e = .returned (.agg #[.int .u64 t0, .int .u64 t1, .int .u64 t2, .int .u64 t3]) ∧ Below w.heap.size w w')) (FM : Hid (∀ w : World, Calls Try.prog 46 #[.agg #[.int .u64 t0, .int .u64 t1, .int .u64 t2, .int .u64 t3], .agg #[.int .u64 t0, .int .u64 t1, .int .u64 t2, .int .u64 t3]] w fun e w' => e = .returned (.agg #[.int .u64 m0, .int .u64 m1, .int .u64 m2, .int .u64 m3]) ∧ Below w.heap.size w w')) (E1 : eqL [(m0 : Int), m1, m2, m3] [(s0 : Int), s1, s2, s3] = true) (EB : bits .and .u64 (t0 : Int) 1 = 1) (n0 n1 n2 n3 : Nat) (FN : Hid (∀ w : World, Calls Try.prog 23 #[.agg #[.int .u64 0, .int .u64 0, .int .u64 0, .int .u64 0], .agg #[.int .u64 t0, .int .u64 t1, .int .u64 t2, .int .u64 t3]] w fun e w' => e = .returned (.agg #[.int .u64 n0, .int .u64 n1, .int .u64 n2, .int .u64 n3]) ∧ Below w.heap.size w w')) (w : World) : Calls Try.prog 58 #[.agg #[.int .u64 a0, .int .u64 a1, .int .u64 a2, .int .u64 a3]] w fun e w' => e = .returned (.tuple #[.agg #[.int .u64 n0, .int .u64 n1, .int .u64 n2, .int .u64 n3], .bool true]) ∧ Below w.heap.size w w' := by
  go_enter Try.func58, Try.ntmps58
  go_wp2_with (fail)
  go_at_call 48
  refine (FS.out _).mono ?_
  rintro e wa ⟨rfl, hb⟩
  have HBn : Hid (Below w.heap.size w wa) := Lib.hid ((fun (h : Below _ _ _) => below_call h h.size hb) (by first | go_grown))
  have hBa_ : wa.heap[w.heap.size]? = some (.cells #[.int .u64 a0, .int .u64 a1, .int .u64 a2, .int .u64 a3] 26 (0, 0)) := heap_keep' hb (by repeat (first | (with_reducible refine heap_new' ?_ _; simp; done) | (with_reducible refine keep4 ?_ (by omega) _ _ _ _) | (with_reducible refine heap_old ?_ _) | (with_reducible refine heap_drew ?_) | (with_reducible refine heap_set_ne ?_ (by simp <;> omega) _)))
  have hBr_ : wa.heap[w.heap.size + 1]? = some (.cells #[.int .u64 0, .int .u64 0, .int .u64 0, .int .u64 0] 26 (0, 0)) := heap_keep' hb (by repeat (first | (with_reducible refine heap_new' ?_ _; simp; done) | (with_reducible refine keep4 ?_ (by omega) _ _ _ _) | (with_reducible refine heap_old ?_ _) | (with_reducible refine heap_drew ?_) | (with_reducible refine heap_set_ne ?_ (by simp <;> omega) _)))
  clear hb
  have HB := HBn; clear HBn
  have HBa := Lib.hid hBa_; have cBa := cells4 hBa_; have fBa := frozen_of hBa_; have zBa := lt_of_heap hBa_; clear hBa_
  have HBr := Lib.hid hBr_; have cBr := cells4 hBr_; have fBr := frozen_of hBr_; have zBr := lt_of_heap hBr_; clear hBr_
  go_wp2_with (fail)
  go_at_call 59
  refine (FP.out _).mono ?_
  rintro e wb ⟨rfl, hb⟩
  have HBn : Hid (Below w.heap.size w wb) := Lib.hid ((fun (h : Below _ _ _) => below_call h h.size hb) (by have hB0 := HB.out; have hS0 := hB0.size; first | (with_reducible exact hB0) | (with_reducible exact set4_below hB0 (by omega) _ _ _ _) | (with_reducible exact set4_below (set4_below hB0 (by omega) _ _ _ _) (by omega) _ _ _ _) | (with_reducible exact set4_below (set4_below (set4_below (set4_below hB0 (by omega) _ _ _ _) (by omega) _ _ _ _) (by omega) _ _ _ _) (by omega) _ _ _ _) | go_grown))
  have hBa_ : wb.heap[w.heap.size]? = some (.cells #[.int .u64 s0, .int .u64 s1, .int .u64 s2, .int .u64 s3] 26 (0, 0)) := heap_keep' hb (by repeat (first | (with_reducible exact HBa.out) | (with_reducible exact set4 HBa.out _ _ _ _) | (with_reducible apply set4) | (with_reducible refine heap_new' ?_ _; simp; done) | (with_reducible refine keep4 ?_ (by omega) _ _ _ _) | (with_reducible refine heap_old ?_ _) | (with_reducible refine heap_drew ?_) | (with_reducible refine heap_set_ne ?_ (by simp <;> omega) _)))
  have hBr_ : wb.heap[w.heap.size + 1]? = some (.cells #[.int .u64 0, .int .u64 0, .int .u64 0, .int .u64 0] 26 (0, 0)) := heap_keep' hb (by repeat (first | (with_reducible exact HBr.out) | (with_reducible exact set4 HBr.out _ _ _ _) | (with_reducible apply set4) | (with_reducible refine heap_new' ?_ _; simp; done) | (with_reducible refine keep4 ?_ (by omega) _ _ _ _) | (with_reducible refine heap_old ?_ _) | (with_reducible refine heap_drew ?_) | (with_reducible refine heap_set_ne ?_ (by simp <;> omega) _)))
  have hBe_ : wb.heap[wa.heap.size]? = some (.cells #[.int .u64 18446744073709551614, .int .u64 18446744073709551615, .int .u64 18446744073709551615, .int .u64 1152921504606846975] 26 (0, 0)) := heap_keep' hb (by repeat (first | (with_reducible refine heap_new' ?_ _; simp; done) | (with_reducible refine keep4 ?_ (by omega) _ _ _ _) | (with_reducible refine heap_old ?_ _) | (with_reducible refine heap_drew ?_) | (with_reducible refine heap_set_ne ?_ (by simp <;> omega) _)))
  clear hb HB HBa cBa fBa zBa HBr cBr fBr zBr
  have HB := HBn; clear HBn
  have HBa := Lib.hid hBa_; have cBa := cells4 hBa_; have fBa := frozen_of hBa_; have zBa := lt_of_heap hBa_; clear hBa_
  have HBr := Lib.hid hBr_; have cBr := cells4 hBr_; have fBr := frozen_of hBr_; have zBr := lt_of_heap hBr_; clear hBr_
  have HBe := Lib.hid hBe_; have cBe := cells4 hBe_; have fBe := frozen_of hBe_; have zBe := lt_of_heap hBe_; clear hBe_
  have q1 := zBr; have q2 := zBe
  go_wp2
  refine Rg.region_ (n := 38) [0, 0, 3, 0, 15] [1, 1, 1, 1, 0] [13, 14, 15, 16, 17] [[(5, none)], [(5, none)], [(13, some 0), (14, some 1)], [(1, none)], [(15, some 2), (16, some 3)]] 5 (by kernel_rfl) (by kernel_rfl) (by rfl) ?_
  intro W hW
  have hBa_ : W.heap[w.heap.size]? = some (.cells #[.int .u64 s0, .int .u64 s1, .int .u64 s2, .int .u64 s3] 26 (0, 0)) := by rw [hW]; exact (by repeat (first | (with_reducible exact HBa.out) | (with_reducible exact set4 HBa.out _ _ _ _) | (with_reducible apply set4) | (with_reducible refine heap_new' ?_ _; simp; done) | (with_reducible refine keep4 ?_ (by omega) _ _ _ _) | (with_reducible refine heap_old ?_ _) | (with_reducible refine heap_drew ?_) | (with_reducible refine heap_set_ne ?_ (by simp <;> omega) _)))
  have hBr_ : W.heap[w.heap.size + 1]? = some (.cells #[.int .u64 0, .int .u64 0, .int .u64 0, .int .u64 0] 26 (0, 0)) := by rw [hW]; exact (by repeat (first | (with_reducible exact HBr.out) | (with_reducible exact set4 HBr.out _ _ _ _) | (with_reducible apply set4) | (with_reducible refine heap_new' ?_ _; simp; done) | (with_reducible refine keep4 ?_ (by omega) _ _ _ _) | (with_reducible refine heap_old ?_ _) | (with_reducible refine heap_drew ?_) | (with_reducible refine heap_set_ne ?_ (by simp <;> omega) _)))
  have hBe_ : W.heap[wa.heap.size]? = some (.cells #[.int .u64 18446744073709551614, .int .u64 18446744073709551615, .int .u64 18446744073709551615, .int .u64 1152921504606846975] 26 (0, 0)) := by rw [hW]; exact (by repeat (first | (with_reducible exact HBe.out) | (with_reducible exact set4 HBe.out _ _ _ _) | (with_reducible apply set4) | (with_reducible refine heap_new' ?_ _; simp; done) | (with_reducible refine keep4 ?_ (by omega) _ _ _ _) | (with_reducible refine heap_old ?_ _) | (with_reducible refine heap_drew ?_) | (with_reducible refine heap_set_ne ?_ (by simp <;> omega) _)))
  have hBo_ : W.heap[wb.heap.size]? = some (.cells #[.int .u64 t0, .int .u64 t1, .int .u64 t2, .int .u64 t3] 26 (0, 0)) := by rw [hW]; exact (by repeat (first | (with_reducible refine heap_new' ?_ _; simp; done) | (with_reducible refine keep4 ?_ (by omega) _ _ _ _) | (with_reducible refine heap_old ?_ _) | (with_reducible refine heap_drew ?_) | (with_reducible refine heap_set_ne ?_ (by simp <;> omega) _)))
  have HB0 : Below w.heap.size w W := by rw [hW]; have hB0 := HB.out; have hS0 := hB0.size; first | exact hB0.drew | exact (set4_below hB0 (by omega) _ _ _ _).drew | go_grown
  change Rg.Chain' _ _ _ _ _ [(0, 1, 13, [(5, none)]), (1, 1, 14, [(5, none)]), (2, 1, 15, [(13, some 0), (14, some 1)]), (3, 1, 16, [(1, none)]), (4, 0, 17, [(15, some 2), (16, some 3)])] [(0, 1, 13, [(5, none)]), (1, 1, 14, [(5, none)]), (2, 1, 15, [(13, some 0), (14, some 1)]), (3, 1, 16, [(1, none)]), (4, 0, 17, [(15, some 2), (16, some 3)])] _
  apply Rg.ch_def (by rfl) (fun a w1 _ => Rg.wanted_none (by rfl))
  · rintro a w1 hb ⟨e5, -⟩
    conv at e5 => rhs; whnf
    have n5 := e5
    simp only [Act.eval, Array.getD_eq_getD_getElem?] at n5
    apply Rg.gives_value
    · conv => lhs; simp [go_sem, n5, cells4 (heap_keep' hb hBa_), cells4 (heap_keep' hb hBr_), cells4 (heap_keep' hb hBe_), cells4 (heap_keep' hb hBo_)]
    · exact ⟨rfl, Below.refl _ _⟩
  apply Rg.ch_def (by rfl) (fun a w1 _ => Rg.wanted_none (by rfl))
  · rintro a w1 hb ⟨e5, -⟩
    conv at e5 => rhs; whnf
    have n5 := e5
    simp only [Act.eval, Array.getD_eq_getD_getElem?] at n5
    apply Rg.gives_value
    · conv => lhs; simp [go_sem, n5, cells4 (heap_keep' hb hBa_), cells4 (heap_keep' hb hBr_), cells4 (heap_keep' hb hBe_), cells4 (heap_keep' hb hBo_)]
    · exact ⟨rfl, Below.refl _ _⟩
  apply Rg.ch_def (by rfl) (fun a w1 _ => Rg.wanted_none (by rfl))
  · rintro a w1 hb ⟨e13, e14, -⟩
    replace e13 : a.eval (.tmp 13) = _ := e13
    replace e14 : a.eval (.tmp 14) = _ := e14
    apply Rg.gives_enter
    · apply run_call Try.func46 (by kernel_rfl) rfl _ (by rfl)
      conv => lhs; simp only [List.map_toArray, List.map_cons, List.map_nil, eval_const_, eval_global_, e13, e14]
    · refine (FM.out _).mono ?_
      rintro e w2 ⟨rfl, hb2⟩
      exact ⟨_, rfl, rfl, hb2⟩
  apply Rg.ch_def (by rfl) (fun a w1 _ => Rg.wanted_none (by rfl))
  · rintro a w1 hb ⟨e1, -⟩
    conv at e1 => rhs; whnf
    have n1 := e1
    simp only [Act.eval, Array.getD_eq_getD_getElem?] at n1
    apply Rg.gives_value
    · conv => lhs; simp [go_sem, n1, cells4 (heap_keep' hb hBa_), cells4 (heap_keep' hb hBr_), cells4 (heap_keep' hb hBe_), cells4 (heap_keep' hb hBo_)]
    · exact ⟨rfl, Below.refl _ _⟩
  apply Rg.ch_pure (by rfl)
  · rintro a w1 ⟨e15, e16, -⟩
    replace e15 : a.eval (.tmp 15) = _ := e15
    have n15 := e15
    simp only [Act.eval, Array.getD_eq_getD_getElem?] at n15
    replace e16 : a.eval (.tmp 16) = _ := e16
    have n16 := e16
    simp only [Act.eval, Array.getD_eq_getD_getElem?] at n16
    apply Rg.yields_run (Rg.wanted_none (by rfl))
    intro w2
    conv => lhs; simp [go_sem, n15, n16, E1]
  intro w1 hb1
  rintro _ rfl _ rfl _ rfl _ rfl _ rfl
  change Go.wpList _ _ _ _ _ _
  simp only [List.drop_succ_cons, List.drop_zero, List.drop_nil, Act.put, List.setIfInBounds_toArray, List.set_cons_succ, List.set_cons_zero]
  change Go.NoPanic _ _ _ _
  refine NoPanic.normal ?_
  have HBn : Hid (Below w.heap.size w w1) := Lib.hid (below_call HB0 HB0.size hb1)
  have hBa__ := heap_keep' hb1 hBa_
  have hBr__ := heap_keep' hb1 hBr_
  have hBe__ := heap_keep' hb1 hBe_
  have hBo__ := heap_keep' hb1 hBo_
  clear hb1 HB0 HB hBa_ HBa cBa fBa zBa hBr_ HBr cBr fBr zBr hBe_ HBe cBe fBe zBe hBo_
  clear hW
  obtain ⟨wc, rfl⟩ : ∃ x : World, x = w1 := ⟨_, rfl⟩
  have HB := HBn; clear HBn
  have HBa := Lib.hid hBa__; have cBa := cells4 hBa__; have fBa := frozen_of hBa__; have zBa := lt_of_heap hBa__; clear hBa__
  have HBr := Lib.hid hBr__; have cBr := cells4 hBr__; have fBr := frozen_of hBr__; have zBr := lt_of_heap hBr__; clear hBr__
  have HBe := Lib.hid hBe__; have cBe := cells4 hBe__; have fBe := frozen_of hBe__; have zBe := lt_of_heap hBe__; clear hBe__
  have HBo := Lib.hid hBo__; have cBo := cells4 hBo__; have fBo := frozen_of hBo__; have zBo := lt_of_heap hBo__; clear hBo__
  go_wp2
  refine Rg.region_ (n := 38) [0, 0, 3, 0, 15] [1, 1, 1, 1, 0] [24, 25, 26, 27, 28] [[(5, none)], [(5, none)], [(24, some 0), (25, some 1)], [(1, none)], [(26, some 2), (27, some 3)]] 5 (by kernel_rfl) (by kernel_rfl) (by rfl) ?_
  intro W hW
  have hBa_ : W.heap[w.heap.size]? = some (.cells #[.int .u64 s0, .int .u64 s1, .int .u64 s2, .int .u64 s3] 26 (0, 0)) := by rw [hW]; exact (by repeat (first | (with_reducible exact HBa.out) | (with_reducible exact set4 HBa.out _ _ _ _) | (with_reducible apply set4) | (with_reducible refine heap_new' ?_ _; simp; done) | (with_reducible refine keep4 ?_ (by omega) _ _ _ _) | (with_reducible refine heap_old ?_ _) | (with_reducible refine heap_drew ?_) | (with_reducible refine heap_set_ne ?_ (by simp <;> omega) _)))
  have hBr_ : W.heap[w.heap.size + 1]? = some (.cells #[.int .u64 0, .int .u64 0, .int .u64 0, .int .u64 0] 26 (0, 0)) := by rw [hW]; exact (by repeat (first | (with_reducible exact HBr.out) | (with_reducible exact set4 HBr.out _ _ _ _) | (with_reducible apply set4) | (with_reducible refine heap_new' ?_ _; simp; done) | (with_reducible refine keep4 ?_ (by omega) _ _ _ _) | (with_reducible refine heap_old ?_ _) | (with_reducible refine heap_drew ?_) | (with_reducible refine heap_set_ne ?_ (by simp <;> omega) _)))
  have hBe_ : W.heap[wa.heap.size]? = some (.cells #[.int .u64 18446744073709551614, .int .u64 18446744073709551615, .int .u64 18446744073709551615, .int .u64 1152921504606846975] 26 (0, 0)) := by rw [hW]; exact (by repeat (first | (with_reducible exact HBe.out) | (with_reducible exact set4 HBe.out _ _ _ _) | (with_reducible apply set4) | (with_reducible refine heap_new' ?_ _; simp; done) | (with_reducible refine keep4 ?_ (by omega) _ _ _ _) | (with_reducible refine heap_old ?_ _) | (with_reducible refine heap_drew ?_) | (with_reducible refine heap_set_ne ?_ (by simp <;> omega) _)))
  have hBo_ : W.heap[wb.heap.size]? = some (.cells #[.int .u64 t0, .int .u64 t1, .int .u64 t2, .int .u64 t3] 26 (0, 0)) := by rw [hW]; exact (by repeat (first | (with_reducible exact HBo.out) | (with_reducible exact set4 HBo.out _ _ _ _) | (with_reducible apply set4) | (with_reducible refine heap_new' ?_ _; simp; done) | (with_reducible refine keep4 ?_ (by omega) _ _ _ _) | (with_reducible refine heap_old ?_ _) | (with_reducible refine heap_drew ?_) | (with_reducible refine heap_set_ne ?_ (by simp <;> omega) _)))
  have HB0 : Below w.heap.size w W := by rw [hW]; have hB0 := HB.out; have hS0 := hB0.size; first | exact hB0.drew | exact (set4_below hB0 (by omega) _ _ _ _).drew | go_grown
  change Rg.Chain' _ _ _ _ _ [(0, 1, 24, [(5, none)]), (1, 1, 25, [(5, none)]), (2, 1, 26, [(24, some 0), (25, some 1)]), (3, 1, 27, [(1, none)]), (4, 0, 28, [(26, some 2), (27, some 3)])] [(0, 1, 24, [(5, none)]), (1, 1, 25, [(5, none)]), (2, 1, 26, [(24, some 0), (25, some 1)]), (3, 1, 27, [(1, none)]), (4, 0, 28, [(26, some 2), (27, some 3)])] _
  apply Rg.ch_def (by rfl) (fun a w1 _ => Rg.wanted_none (by rfl))
  · rintro a w1 hb ⟨e5, -⟩
    conv at e5 => rhs; whnf
    have n5 := e5
    simp only [Act.eval, Array.getD_eq_getD_getElem?] at n5
    apply Rg.gives_value
    · conv => lhs; simp [go_sem, n5, cells4 (heap_keep' hb hBa_), cells4 (heap_keep' hb hBr_), cells4 (heap_keep' hb hBe_), cells4 (heap_keep' hb hBo_)]
    · exact ⟨rfl, Below.refl _ _⟩
  apply Rg.ch_def (by rfl) (fun a w1 _ => Rg.wanted_none (by rfl))
  · rintro a w1 hb ⟨e5, -⟩
    conv at e5 => rhs; whnf
    have n5 := e5
    simp only [Act.eval, Array.getD_eq_getD_getElem?] at n5
    apply Rg.gives_value
    · conv => lhs; simp [go_sem, n5, cells4 (heap_keep' hb hBa_), cells4 (heap_keep' hb hBr_), cells4 (heap_keep' hb hBe_), cells4 (heap_keep' hb hBo_)]
    · exact ⟨rfl, Below.refl _ _⟩
  apply Rg.ch_def (by rfl) (fun a w1 _ => Rg.wanted_none (by rfl))
  · rintro a w1 hb ⟨e24, e25, -⟩
    replace e24 : a.eval (.tmp 24) = _ := e24
    replace e25 : a.eval (.tmp 25) = _ := e25
    apply Rg.gives_enter
    · apply run_call Try.func46 (by kernel_rfl) rfl _ (by rfl)
      conv => lhs; simp only [List.map_toArray, List.map_cons, List.map_nil, eval_const_, eval_global_, e24, e25]
    · refine (FM.out _).mono ?_
      rintro e w2 ⟨rfl, hb2⟩
      exact ⟨_, rfl, rfl, hb2⟩
  apply Rg.ch_def (by rfl) (fun a w1 _ => Rg.wanted_none (by rfl))
  · rintro a w1 hb ⟨e1, -⟩
    conv at e1 => rhs; whnf
    have n1 := e1
    simp only [Act.eval, Array.getD_eq_getD_getElem?] at n1
    apply Rg.gives_value
    · conv => lhs; simp [go_sem, n1, cells4 (heap_keep' hb hBa_), cells4 (heap_keep' hb hBr_), cells4 (heap_keep' hb hBe_), cells4 (heap_keep' hb hBo_)]
    · exact ⟨rfl, Below.refl _ _⟩
  apply Rg.ch_pure (by rfl)
  · rintro a w1 ⟨e26, e27, -⟩
    replace e26 : a.eval (.tmp 26) = _ := e26
    have n26 := e26
    simp only [Act.eval, Array.getD_eq_getD_getElem?] at n26
    replace e27 : a.eval (.tmp 27) = _ := e27
    have n27 := e27
    simp only [Act.eval, Array.getD_eq_getD_getElem?] at n27
    apply Rg.yields_run (Rg.wanted_none (by rfl))
    intro w2
    conv => lhs; simp [go_sem, n26, n27, E1]
  intro w1 hb1
  rintro _ rfl _ rfl _ rfl _ rfl _ rfl
  change Go.wpList _ _ _ _ _ _
  simp only [List.drop_succ_cons, List.drop_zero, List.drop_nil, Act.put, List.setIfInBounds_toArray, List.set_cons_succ, List.set_cons_zero]
  change Go.NoPanic _ _ _ _
  refine NoPanic.normal ?_
  have HBn : Hid (Below w.heap.size w w1) := Lib.hid (below_call HB0 HB0.size hb1)
  have hBa__ := heap_keep' hb1 hBa_
  have hBr__ := heap_keep' hb1 hBr_
  have hBe__ := heap_keep' hb1 hBe_
  have hBo__ := heap_keep' hb1 hBo_
  clear hb1 HB0 HB hBa_ HBa cBa fBa zBa hBr_ HBr cBr fBr zBr hBe_ HBe cBe fBe zBe hBo_ HBo cBo fBo zBo
  clear hW
  obtain ⟨wd, rfl⟩ : ∃ x : World, x = w1 := ⟨_, rfl⟩
  have HB := HBn; clear HBn
  have HBa := Lib.hid hBa__; have cBa := cells4 hBa__; have fBa := frozen_of hBa__; have zBa := lt_of_heap hBa__; clear hBa__
  have HBr := Lib.hid hBr__; have cBr := cells4 hBr__; have fBr := frozen_of hBr__; have zBr := lt_of_heap hBr__; clear hBr__
  have HBe := Lib.hid hBe__; have cBe := cells4 hBe__; have fBe := frozen_of hBe__; have zBe := lt_of_heap hBe__; clear hBe__
  have HBo := Lib.hid hBo__; have cBo := cells4 hBo__; have fBo := frozen_of hBo__; have zBo := lt_of_heap hBo__; clear hBo__
  go_wp2_with (fail)
  go_at_call 23
  refine (FN.out _).mono ?_
  rintro e wz ⟨rfl, hb⟩
  have HBn : Hid (Below w.heap.size w wz) := Lib.hid ((fun (h : Below _ _ _) => below_call h h.size hb) (by have hB0 := HB.out; have hS0 := hB0.size; first | (with_reducible exact hB0) | (with_reducible exact set4_below hB0 (by omega) _ _ _ _) | (with_reducible exact set4_below (set4_below hB0 (by omega) _ _ _ _) (by omega) _ _ _ _) | (with_reducible exact set4_below (set4_below (set4_below (set4_below hB0 (by omega) _ _ _ _) (by omega) _ _ _ _) (by omega) _ _ _ _) (by omega) _ _ _ _) | go_grown))
  have hBa_ : wz.heap[w.heap.size]? = some (.cells #[.int .u64 s0, .int .u64 s1, .int .u64 s2, .int .u64 s3] 26 (0, 0)) := heap_keep' hb (by repeat (first | (with_reducible exact HBa.out) | (with_reducible exact set4 HBa.out _ _ _ _) | (with_reducible apply set4) | (with_reducible refine heap_new' ?_ _; simp; done) | (with_reducible refine keep4 ?_ (by omega) _ _ _ _) | (with_reducible refine heap_old ?_ _) | (with_reducible refine heap_drew ?_) | (with_reducible refine heap_set_ne ?_ (by simp <;> omega) _)))
  have hBr_ : wz.heap[w.heap.size + 1]? = some (.cells #[.int .u64 0, .int .u64 0, .int .u64 0, .int .u64 0] 26 (0, 0)) := heap_keep' hb (by repeat (first | (with_reducible exact HBr.out) | (with_reducible exact set4 HBr.out _ _ _ _) | (with_reducible apply set4) | (with_reducible refine heap_new' ?_ _; simp; done) | (with_reducible refine keep4 ?_ (by omega) _ _ _ _) | (with_reducible refine heap_old ?_ _) | (with_reducible refine heap_drew ?_) | (with_reducible refine heap_set_ne ?_ (by simp <;> omega) _)))
  have hBe_ : wz.heap[wa.heap.size]? = some (.cells #[.int .u64 18446744073709551614, .int .u64 18446744073709551615, .int .u64 18446744073709551615, .int .u64 1152921504606846975] 26 (0, 0)) := heap_keep' hb (by repeat (first | (with_reducible exact HBe.out) | (with_reducible exact set4 HBe.out _ _ _ _) | (with_reducible apply set4) | (with_reducible refine heap_new' ?_ _; simp; done) | (with_reducible refine keep4 ?_ (by omega) _ _ _ _) | (with_reducible refine heap_old ?_ _) | (with_reducible refine heap_drew ?_) | (with_reducible refine heap_set_ne ?_ (by simp <;> omega) _)))
  have hBo_ : wz.heap[wb.heap.size]? = some (.cells #[.int .u64 t0, .int .u64 t1, .int .u64 t2, .int .u64 t3] 26 (0, 0)) := heap_keep' hb (by repeat (first | (with_reducible exact HBo.out) | (with_reducible exact set4 HBo.out _ _ _ _) | (with_reducible apply set4) | (with_reducible refine heap_new' ?_ _; simp; done) | (with_reducible refine keep4 ?_ (by omega) _ _ _ _) | (with_reducible refine heap_old ?_ _) | (with_reducible refine heap_drew ?_) | (with_reducible refine heap_set_ne ?_ (by simp <;> omega) _)))
  clear hb HB HBa cBa fBa zBa HBr cBr fBr zBr HBe cBe fBe zBe HBo cBo fBo zBo
  have HB := HBn; clear HBn
  have HBa := Lib.hid hBa_; have cBa := cells4 hBa_; have fBa := frozen_of hBa_; have zBa := lt_of_heap hBa_; clear hBa_
  have HBr := Lib.hid hBr_; have cBr := cells4 hBr_; have fBr := frozen_of hBr_; have zBr := lt_of_heap hBr_; clear hBr_
  have HBe := Lib.hid hBe_; have cBe := cells4 hBe_; have fBe := frozen_of hBe_; have zBe := lt_of_heap hBe_; clear hBe_
  have HBo := Lib.hid hBo_; have cBo := cells4 hBo_; have fBo := frozen_of hBo_; have zBo := lt_of_heap hBo_; clear hBo_
  go_wp2
  have hK := set4 (keep4 (b' := wb.heap.size) HBr.out (by omega) (.int .u64 n0) (.int .u64 n1) (.int .u64 n2) (.int .u64 n3)) (.int .u64 n0) (.int .u64 n1) (.int .u64 n2) (.int .u64 n3)
  have hL : Below w.heap.size w _ := set4_below (b := w.heap.size + 1) (set4_below (b := wb.heap.size) HB.out (by omega) (.int .u64 n0) (.int .u64 n1) (.int .u64 n2) (.int .u64 n3)) (by omega) (.int .u64 n0) (.int .u64 n1) (.int .u64 n2) (.int .u64 n3)
  obtain ⟨v, hv⟩ : ∃ x, x = ((((((((wz.setCell ⟨wb.heap.size, 0, none⟩ (.int .u64 n0)).setCell ⟨wb.heap.size, 1, none⟩ (.int .u64 n1)).setCell ⟨wb.heap.size, 2, none⟩ (.int .u64 n2)).setCell ⟨wb.heap.size, 3, none⟩ (.int .u64 n3)).setCell ⟨w.heap.size + 1, 0, none⟩ (.int .u64 n0)).setCell ⟨w.heap.size + 1, 1, none⟩ (.int .u64 n1)).setCell ⟨w.heap.size + 1, 2, none⟩ (.int .u64 n2)).setCell ⟨w.heap.size + 1, 3, none⟩ (.int .u64 n3)) := ⟨_, rfl⟩
  rw [← hv] at hK hL ⊢
  clear hv
  have hQ := cells4 hK
  exact bodyPost_ret (v := .tuple #[.agg #[.int .u64 n0, .int .u64 n1, .int .u64 n2, .int .u64 n3], .bool true]) (by simp [results, Try.results58, go_sem, hQ]) rfl ⟨rfl, hL⟩

end Go.Proofs.Ytgeldhdijochdaa
