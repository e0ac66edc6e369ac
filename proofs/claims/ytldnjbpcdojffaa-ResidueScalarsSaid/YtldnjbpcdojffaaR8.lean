/- @@NUM 25 The walks of residue's Mul (of one, two, three numbers, and of none). Conditions: words are below 2^64. -/
import Derived.Test.YtldnjbpcdojffaaR6
namespace Go.Proofs.Ytldnjbpcdojffaa
set_option linter.unusedVariables false
set_option linter.unusedSimpArgs false
open Go Go.RowKit
open Pl (V V8 W4 T256 pP)

set_option maxHeartbeats 1000000 in
theorem Mul0_fact : ∃ r0 r1 r2 r3 : Nat, (W4 r0 r1 r2 r3 ∧ V r0 r1 r2 r3 = 1) ∧ ∀ w : World,
    Calls Try.prog 25 #[.slice none 0 0] w fun e w' => e = .returned (.agg #[.int .u64 r0, .int .u64 r1, .int .u64 r2, .int .u64 r3]) ∧ Below w.heap.size w w' := by
  refine ⟨1, 0, 0, 0, ⟨by unfold W4; omega, by decide⟩, fun w => ?_⟩
  go_enter Try.func25, Try.ntmps25
  go_wp2
  refine wp_loop_rounds 1 ?_
  rw [rounds_succ]
  go_wp2
  refine bodyPost_ret (v := .agg #[.int .u64 1, .int .u64 0, .int .u64 0, .int .u64 0]) (by simp [results, Try.results25, go_sem]) rfl ⟨rfl, ?_⟩
  go_grown


set_option maxHeartbeats 4000000 in
theorem Mul1_fact (a0 a1 a2 a3 : Nat) (ha : W4 a0 a1 a2 a3) : ∃ r0 r1 r2 r3 : Nat, (W4 r0 r1 r2 r3 ∧ V r0 r1 r2 r3 = (V a0 a1 a2 a3) % pP) ∧ ∀ (b : Nat) (w : World), w.heap[b]? = some (.cells #[.int .u64 a0, .int .u64 a1, .int .u64 a2, .int .u64 a3] 25 (0, 0)) →
    Calls Try.prog 25 #[.slice (some ⟨b, 0, none⟩) 1 1] w fun e w' => e = .returned (.agg #[.int .u64 r0, .int .u64 r1, .int .u64 r2, .int .u64 r3]) ∧ Below w.heap.size w w' := by
  have hz : W4 1 0 0 0 := by unfold W4; omega
  obtain ⟨o00, o01, o02, o03, ⟨ho0, hov0⟩, FO0⟩ := mul_fact 1 0 0 0 a0 a1 a2 a3 hz ha
  refine ⟨o00, o01, o02, o03, ⟨ho0, ?_⟩, fun b w hL0 => ?_⟩
  · rw [hov0]
    simp only [Nat.mod_mul_mod, Nat.mul_mod_mod, Nat.mod_mod, show V 1 0 0 0 = 1 from by decide, Nat.one_mul]
  have HO0 := Lib.hid FO0
  clear FO0 hov0 ho0 hz ha
  have HL := Lib.hid hL0
  have zl : b < w.heap.size := lt_of_heap hL0
  clear hL0
  go_enter Try.func25, Try.ntmps25
  have cL0 := cells4 HL.out
  go_wp2
  refine wp_loop_rounds 2 ?_
  rw [rounds_succ]
  go_wp2_with (fail)
  go_at_call 48
  refine (HO0.out _).mono ?_
  rintro e wk1 ⟨rfl, hb⟩
  have hO1 : wk1.heap[w.heap.size + 1]? = some (.cells #[.int .u64 1, .int .u64 0, .int .u64 0, .int .u64 0] 25 (0, 0)) := heap_keep' hb (heap_old (heap_new' (by simp) _) _)
  have hR1 : wk1.heap[w.heap.size]? = some (.cells #[.int .u64 0, .int .u64 0, .int .u64 0, .int .u64 0] 25 (0, 0)) := heap_keep' hb (heap_old (heap_old (heap_new _ _) _) _)
  have hL1 : wk1.heap[b]? = some (.cells #[.int .u64 a0, .int .u64 a1, .int .u64 a2, .int .u64 a3] 25 (0, 0)) := heap_keep' hb (heap_old (heap_old (heap_old HL.out _) _) _)
  have HBn : Hid (Below w.heap.size w wk1) := below_call (by go_grown) (by simp; omega) hb
  clear cL0 hb
  have cO := cells4 hO1; have fO := frozen_of hO1; have zO := lt_of_heap hO1
  have HOc := Lib.hid hO1; have HRc := Lib.hid hR1; have HLc := Lib.hid hL1; have HBc := HBn
  clear hO1 hR1 hL1 HBn
  go_wp2
  obtain ⟨v1, hv⟩ : ∃ x : World, x = ((((wk1.setCell ⟨w.heap.size + 1, 0, none⟩ (.int .u64 o00)).setCell ⟨w.heap.size + 1, 1, none⟩ (.int .u64 o01)).setCell ⟨w.heap.size + 1, 2, none⟩ (.int .u64 o02)).setCell ⟨w.heap.size + 1, 3, none⟩ (.int .u64 o03)) := ⟨_, rfl⟩
  rw [← hv]
  have hO1 : v1.heap[w.heap.size + 1]? = some (.cells #[.int .u64 o00, .int .u64 o01, .int .u64 o02, .int .u64 o03] 25 (0, 0)) := by rw [hv]; exact set4 HOc.out _ _ _ _
  have hR1 : v1.heap[w.heap.size]? = some (.cells #[.int .u64 0, .int .u64 0, .int .u64 0, .int .u64 0] 25 (0, 0)) := by rw [hv]; exact keep4 HRc.out (by omega) _ _ _ _
  have hL1 : v1.heap[b]? = some (.cells #[.int .u64 a0, .int .u64 a1, .int .u64 a2, .int .u64 a3] 25 (0, 0)) := by rw [hv]; exact keep4 HLc.out (by omega) _ _ _ _
  have HBn : Hid (Below w.heap.size w v1) := by rw [hv]; exact set4_below HBc.out (by omega) _ _ _ _
  clear HOc HRc HLc HBc cO fO zO hv
  have HOc := Lib.hid hO1; have HRc := Lib.hid hR1; have HLc := Lib.hid hL1; have HBc := HBn
  clear hO1 hR1 hL1 HBn
  have cO := cells4 HOc.out; have cR := cells4 HRc.out; have fR := frozen_of HRc.out
  have hQ := cells4 (set4 HRc.out (.int .u64 o00) (.int .u64 o01) (.int .u64 o02) (.int .u64 o03))
  rw [rounds_succ]
  go_wp2
  refine bodyPost_ret (v := .agg #[.int .u64 o00, .int .u64 o01, .int .u64 o02, .int .u64 o03]) (by simp [results, Try.results25, go_sem, hQ]) rfl ⟨rfl, ?_⟩
  have hb : Below w.heap.size w _ := HBc.out
  go_grown

set_option maxHeartbeats 4000000 in
theorem Mul2_fact (a0 a1 a2 a3 b0 b1 b2 b3 : Nat) (ha : W4 a0 a1 a2 a3) (hb : W4 b0 b1 b2 b3) : ∃ r0 r1 r2 r3 : Nat, (W4 r0 r1 r2 r3 ∧ V r0 r1 r2 r3 = (V a0 a1 a2 a3 * V b0 b1 b2 b3) % pP) ∧ ∀ (b : Nat) (w : World), w.heap[b]? = some (.cells #[.int .u64 a0, .int .u64 a1, .int .u64 a2, .int .u64 a3, .int .u64 b0, .int .u64 b1, .int .u64 b2, .int .u64 b3] 25 (0, 0)) →
    Calls Try.prog 25 #[.slice (some ⟨b, 0, none⟩) 2 2] w fun e w' => e = .returned (.agg #[.int .u64 r0, .int .u64 r1, .int .u64 r2, .int .u64 r3]) ∧ Below w.heap.size w w' := by
  have hz : W4 1 0 0 0 := by unfold W4; omega
  obtain ⟨o00, o01, o02, o03, ⟨ho0, hov0⟩, FO0⟩ := mul_fact 1 0 0 0 a0 a1 a2 a3 hz ha
  obtain ⟨o10, o11, o12, o13, ⟨ho1, hov1⟩, FO1⟩ := mul_fact o00 o01 o02 o03 b0 b1 b2 b3 ho0 hb
  refine ⟨o10, o11, o12, o13, ⟨ho1, ?_⟩, fun b w hL0 => ?_⟩
  · rw [hov1, hov0]
    simp only [Nat.mod_mul_mod, Nat.mul_mod_mod, Nat.mod_mod, show V 1 0 0 0 = 1 from by decide, Nat.one_mul]
  have HO0 := Lib.hid FO0
  have HO1 := Lib.hid FO1
  clear FO0 FO1 hov1 ho1 hov0 ho0 hz ha hb
  have HL := Lib.hid hL0
  have zl : b < w.heap.size := lt_of_heap hL0
  clear hL0
  go_enter Try.func25, Try.ntmps25
  have cL0 := cells8 HL.out
  go_wp2
  refine wp_loop_rounds 3 ?_
  rw [rounds_succ]
  go_wp2_with (fail)
  go_at_call 48
  refine (HO0.out _).mono ?_
  rintro e wk1 ⟨rfl, hb⟩
  have hO1 : wk1.heap[w.heap.size + 1]? = some (.cells #[.int .u64 1, .int .u64 0, .int .u64 0, .int .u64 0] 25 (0, 0)) := heap_keep' hb (heap_old (heap_new' (by simp) _) _)
  have hR1 : wk1.heap[w.heap.size]? = some (.cells #[.int .u64 0, .int .u64 0, .int .u64 0, .int .u64 0] 25 (0, 0)) := heap_keep' hb (heap_old (heap_old (heap_new _ _) _) _)
  have hL1 : wk1.heap[b]? = some (.cells #[.int .u64 a0, .int .u64 a1, .int .u64 a2, .int .u64 a3, .int .u64 b0, .int .u64 b1, .int .u64 b2, .int .u64 b3] 25 (0, 0)) := heap_keep' hb (heap_old (heap_old (heap_old HL.out _) _) _)
  have HBn : Hid (Below w.heap.size w wk1) := below_call (by go_grown) (by simp; omega) hb
  clear cL0 hb
  have cO := cells4 hO1; have fO := frozen_of hO1; have zO := lt_of_heap hO1
  have HOc := Lib.hid hO1; have HRc := Lib.hid hR1; have HLc := Lib.hid hL1; have HBc := HBn
  clear hO1 hR1 hL1 HBn
  go_wp2
  obtain ⟨v1, hv⟩ : ∃ x : World, x = ((((wk1.setCell ⟨w.heap.size + 1, 0, none⟩ (.int .u64 o00)).setCell ⟨w.heap.size + 1, 1, none⟩ (.int .u64 o01)).setCell ⟨w.heap.size + 1, 2, none⟩ (.int .u64 o02)).setCell ⟨w.heap.size + 1, 3, none⟩ (.int .u64 o03)) := ⟨_, rfl⟩
  rw [← hv]
  have hO1 : v1.heap[w.heap.size + 1]? = some (.cells #[.int .u64 o00, .int .u64 o01, .int .u64 o02, .int .u64 o03] 25 (0, 0)) := by rw [hv]; exact set4 HOc.out _ _ _ _
  have hR1 : v1.heap[w.heap.size]? = some (.cells #[.int .u64 0, .int .u64 0, .int .u64 0, .int .u64 0] 25 (0, 0)) := by rw [hv]; exact keep4 HRc.out (by omega) _ _ _ _
  have hL1 : v1.heap[b]? = some (.cells #[.int .u64 a0, .int .u64 a1, .int .u64 a2, .int .u64 a3, .int .u64 b0, .int .u64 b1, .int .u64 b2, .int .u64 b3] 25 (0, 0)) := by rw [hv]; exact keep4 HLc.out (by omega) _ _ _ _
  have HBn : Hid (Below w.heap.size w v1) := by rw [hv]; exact set4_below HBc.out (by omega) _ _ _ _
  clear HOc HRc HLc HBc cO fO zO hv
  have HOc := Lib.hid hO1; have HRc := Lib.hid hR1; have HLc := Lib.hid hL1; have HBc := HBn
  clear hO1 hR1 hL1 HBn
  have cL := cells8 HLc.out; have zL := lt_of_heap HLc.out; have cO := cells4 HOc.out; have zO := lt_of_heap HOc.out
  rw [rounds_succ]
  go_wp2_with (fail)
  go_at_call 48
  refine (HO1.out _).mono ?_
  rintro e wk2 ⟨rfl, hb⟩
  have hO1 : wk2.heap[w.heap.size + 1]? = some (.cells #[.int .u64 o00, .int .u64 o01, .int .u64 o02, .int .u64 o03] 25 (0, 0)) := heap_keep' hb (heap_old HOc.out _)
  have hR1 : wk2.heap[w.heap.size]? = some (.cells #[.int .u64 0, .int .u64 0, .int .u64 0, .int .u64 0] 25 (0, 0)) := heap_keep' hb (heap_old HRc.out _)
  have hL1 : wk2.heap[b]? = some (.cells #[.int .u64 a0, .int .u64 a1, .int .u64 a2, .int .u64 a3, .int .u64 b0, .int .u64 b1, .int .u64 b2, .int .u64 b3] 25 (0, 0)) := heap_keep' hb (heap_old HLc.out _)
  have HBn : Hid (Below w.heap.size w wk2) := below_call (HBc.out.alloc HBc.out.size _) (by have := HBc.out.size; rw [World.size_alloc]; omega) hb
  clear HOc HRc HLc HBc hb cO zO
  have cO := cells4 hO1; have fO := frozen_of hO1; have zO := lt_of_heap hO1
  have HOc := Lib.hid hO1; have HRc := Lib.hid hR1; have HLc := Lib.hid hL1; have HBc := HBn
  clear hO1 hR1 hL1 HBn
  go_wp2
  clear cL zL
  obtain ⟨v2, hv⟩ : ∃ x : World, x = ((((wk2.setCell ⟨w.heap.size + 1, 0, none⟩ (.int .u64 o10)).setCell ⟨w.heap.size + 1, 1, none⟩ (.int .u64 o11)).setCell ⟨w.heap.size + 1, 2, none⟩ (.int .u64 o12)).setCell ⟨w.heap.size + 1, 3, none⟩ (.int .u64 o13)) := ⟨_, rfl⟩
  rw [← hv]
  have hO1 : v2.heap[w.heap.size + 1]? = some (.cells #[.int .u64 o10, .int .u64 o11, .int .u64 o12, .int .u64 o13] 25 (0, 0)) := by rw [hv]; exact set4 HOc.out _ _ _ _
  have hR1 : v2.heap[w.heap.size]? = some (.cells #[.int .u64 0, .int .u64 0, .int .u64 0, .int .u64 0] 25 (0, 0)) := by rw [hv]; exact keep4 HRc.out (by omega) _ _ _ _
  have hL1 : v2.heap[b]? = some (.cells #[.int .u64 a0, .int .u64 a1, .int .u64 a2, .int .u64 a3, .int .u64 b0, .int .u64 b1, .int .u64 b2, .int .u64 b3] 25 (0, 0)) := by rw [hv]; exact keep4 HLc.out (by omega) _ _ _ _
  have HBn : Hid (Below w.heap.size w v2) := by rw [hv]; exact set4_below HBc.out (by omega) _ _ _ _
  clear HOc HRc HLc HBc cO fO zO hv
  have HOc := Lib.hid hO1; have HRc := Lib.hid hR1; have HLc := Lib.hid hL1; have HBc := HBn
  clear hO1 hR1 hL1 HBn
  have cO := cells4 HOc.out; have cR := cells4 HRc.out; have fR := frozen_of HRc.out
  have hQ := cells4 (set4 HRc.out (.int .u64 o10) (.int .u64 o11) (.int .u64 o12) (.int .u64 o13))
  rw [rounds_succ]
  go_wp2
  refine bodyPost_ret (v := .agg #[.int .u64 o10, .int .u64 o11, .int .u64 o12, .int .u64 o13]) (by simp [results, Try.results25, go_sem, hQ]) rfl ⟨rfl, ?_⟩
  have hb : Below w.heap.size w _ := HBc.out
  go_grown

set_option maxHeartbeats 4000000 in
theorem Mul3_fact (a0 a1 a2 a3 b0 b1 b2 b3 c0 c1 c2 c3 : Nat) (ha : W4 a0 a1 a2 a3) (hb : W4 b0 b1 b2 b3) (hc : W4 c0 c1 c2 c3) : ∃ r0 r1 r2 r3 : Nat, (W4 r0 r1 r2 r3 ∧ V r0 r1 r2 r3 = (V a0 a1 a2 a3 * V b0 b1 b2 b3 * V c0 c1 c2 c3) % pP) ∧ ∀ (b : Nat) (w : World), w.heap[b]? = some (.cells #[.int .u64 a0, .int .u64 a1, .int .u64 a2, .int .u64 a3, .int .u64 b0, .int .u64 b1, .int .u64 b2, .int .u64 b3, .int .u64 c0, .int .u64 c1, .int .u64 c2, .int .u64 c3] 25 (0, 0)) →
    Calls Try.prog 25 #[.slice (some ⟨b, 0, none⟩) 3 3] w fun e w' => e = .returned (.agg #[.int .u64 r0, .int .u64 r1, .int .u64 r2, .int .u64 r3]) ∧ Below w.heap.size w w' := by
  have hz : W4 1 0 0 0 := by unfold W4; omega
  obtain ⟨o00, o01, o02, o03, ⟨ho0, hov0⟩, FO0⟩ := mul_fact 1 0 0 0 a0 a1 a2 a3 hz ha
  obtain ⟨o10, o11, o12, o13, ⟨ho1, hov1⟩, FO1⟩ := mul_fact o00 o01 o02 o03 b0 b1 b2 b3 ho0 hb
  obtain ⟨o20, o21, o22, o23, ⟨ho2, hov2⟩, FO2⟩ := mul_fact o10 o11 o12 o13 c0 c1 c2 c3 ho1 hc
  refine ⟨o20, o21, o22, o23, ⟨ho2, ?_⟩, fun b w hL0 => ?_⟩
  · rw [hov2, hov1, hov0]
    simp only [Nat.mod_mul_mod, Nat.mul_mod_mod, Nat.mod_mod, show V 1 0 0 0 = 1 from by decide, Nat.one_mul]
  have HO0 := Lib.hid FO0
  have HO1 := Lib.hid FO1
  have HO2 := Lib.hid FO2
  clear FO0 FO1 FO2 hov2 ho2 hov1 ho1 hov0 ho0 hz ha hb hc
  have HL := Lib.hid hL0
  have zl : b < w.heap.size := lt_of_heap hL0
  clear hL0
  go_enter Try.func25, Try.ntmps25
  have cL0 := cells12 HL.out
  go_wp2
  refine wp_loop_rounds 4 ?_
  rw [rounds_succ]
  go_wp2_with (fail)
  go_at_call 48
  refine (HO0.out _).mono ?_
  rintro e wk1 ⟨rfl, hb⟩
  have hO1 : wk1.heap[w.heap.size + 1]? = some (.cells #[.int .u64 1, .int .u64 0, .int .u64 0, .int .u64 0] 25 (0, 0)) := heap_keep' hb (heap_old (heap_new' (by simp) _) _)
  have hR1 : wk1.heap[w.heap.size]? = some (.cells #[.int .u64 0, .int .u64 0, .int .u64 0, .int .u64 0] 25 (0, 0)) := heap_keep' hb (heap_old (heap_old (heap_new _ _) _) _)
  have hL1 : wk1.heap[b]? = some (.cells #[.int .u64 a0, .int .u64 a1, .int .u64 a2, .int .u64 a3, .int .u64 b0, .int .u64 b1, .int .u64 b2, .int .u64 b3, .int .u64 c0, .int .u64 c1, .int .u64 c2, .int .u64 c3] 25 (0, 0)) := heap_keep' hb (heap_old (heap_old (heap_old HL.out _) _) _)
  have HBn : Hid (Below w.heap.size w wk1) := below_call (by go_grown) (by simp; omega) hb
  clear cL0 hb
  have cO := cells4 hO1; have fO := frozen_of hO1; have zO := lt_of_heap hO1
  have HOc := Lib.hid hO1; have HRc := Lib.hid hR1; have HLc := Lib.hid hL1; have HBc := HBn
  clear hO1 hR1 hL1 HBn
  go_wp2
  obtain ⟨v1, hv⟩ : ∃ x : World, x = ((((wk1.setCell ⟨w.heap.size + 1, 0, none⟩ (.int .u64 o00)).setCell ⟨w.heap.size + 1, 1, none⟩ (.int .u64 o01)).setCell ⟨w.heap.size + 1, 2, none⟩ (.int .u64 o02)).setCell ⟨w.heap.size + 1, 3, none⟩ (.int .u64 o03)) := ⟨_, rfl⟩
  rw [← hv]
  have hO1 : v1.heap[w.heap.size + 1]? = some (.cells #[.int .u64 o00, .int .u64 o01, .int .u64 o02, .int .u64 o03] 25 (0, 0)) := by rw [hv]; exact set4 HOc.out _ _ _ _
  have hR1 : v1.heap[w.heap.size]? = some (.cells #[.int .u64 0, .int .u64 0, .int .u64 0, .int .u64 0] 25 (0, 0)) := by rw [hv]; exact keep4 HRc.out (by omega) _ _ _ _
  have hL1 : v1.heap[b]? = some (.cells #[.int .u64 a0, .int .u64 a1, .int .u64 a2, .int .u64 a3, .int .u64 b0, .int .u64 b1, .int .u64 b2, .int .u64 b3, .int .u64 c0, .int .u64 c1, .int .u64 c2, .int .u64 c3] 25 (0, 0)) := by rw [hv]; exact keep4 HLc.out (by omega) _ _ _ _
  have HBn : Hid (Below w.heap.size w v1) := by rw [hv]; exact set4_below HBc.out (by omega) _ _ _ _
  clear HOc HRc HLc HBc cO fO zO hv
  have HOc := Lib.hid hO1; have HRc := Lib.hid hR1; have HLc := Lib.hid hL1; have HBc := HBn
  clear hO1 hR1 hL1 HBn
  have cL := cells12 HLc.out; have zL := lt_of_heap HLc.out; have cO := cells4 HOc.out; have zO := lt_of_heap HOc.out
  rw [rounds_succ]
  go_wp2_with (fail)
  go_at_call 48
  refine (HO1.out _).mono ?_
  rintro e wk2 ⟨rfl, hb⟩
  have hO1 : wk2.heap[w.heap.size + 1]? = some (.cells #[.int .u64 o00, .int .u64 o01, .int .u64 o02, .int .u64 o03] 25 (0, 0)) := heap_keep' hb (heap_old HOc.out _)
  have hR1 : wk2.heap[w.heap.size]? = some (.cells #[.int .u64 0, .int .u64 0, .int .u64 0, .int .u64 0] 25 (0, 0)) := heap_keep' hb (heap_old HRc.out _)
  have hL1 : wk2.heap[b]? = some (.cells #[.int .u64 a0, .int .u64 a1, .int .u64 a2, .int .u64 a3, .int .u64 b0, .int .u64 b1, .int .u64 b2, .int .u64 b3, .int .u64 c0, .int .u64 c1, .int .u64 c2, .int .u64 c3] 25 (0, 0)) := heap_keep' hb (heap_old HLc.out _)
  have HBn : Hid (Below w.heap.size w wk2) := below_call (HBc.out.alloc HBc.out.size _) (by have := HBc.out.size; rw [World.size_alloc]; omega) hb
  clear HOc HRc HLc HBc hb cO zO
  have cO := cells4 hO1; have fO := frozen_of hO1; have zO := lt_of_heap hO1
  have HOc := Lib.hid hO1; have HRc := Lib.hid hR1; have HLc := Lib.hid hL1; have HBc := HBn
  clear hO1 hR1 hL1 HBn
  go_wp2
  clear cL zL
  obtain ⟨v2, hv⟩ : ∃ x : World, x = ((((wk2.setCell ⟨w.heap.size + 1, 0, none⟩ (.int .u64 o10)).setCell ⟨w.heap.size + 1, 1, none⟩ (.int .u64 o11)).setCell ⟨w.heap.size + 1, 2, none⟩ (.int .u64 o12)).setCell ⟨w.heap.size + 1, 3, none⟩ (.int .u64 o13)) := ⟨_, rfl⟩
  rw [← hv]
  have hO1 : v2.heap[w.heap.size + 1]? = some (.cells #[.int .u64 o10, .int .u64 o11, .int .u64 o12, .int .u64 o13] 25 (0, 0)) := by rw [hv]; exact set4 HOc.out _ _ _ _
  have hR1 : v2.heap[w.heap.size]? = some (.cells #[.int .u64 0, .int .u64 0, .int .u64 0, .int .u64 0] 25 (0, 0)) := by rw [hv]; exact keep4 HRc.out (by omega) _ _ _ _
  have hL1 : v2.heap[b]? = some (.cells #[.int .u64 a0, .int .u64 a1, .int .u64 a2, .int .u64 a3, .int .u64 b0, .int .u64 b1, .int .u64 b2, .int .u64 b3, .int .u64 c0, .int .u64 c1, .int .u64 c2, .int .u64 c3] 25 (0, 0)) := by rw [hv]; exact keep4 HLc.out (by omega) _ _ _ _
  have HBn : Hid (Below w.heap.size w v2) := by rw [hv]; exact set4_below HBc.out (by omega) _ _ _ _
  clear HOc HRc HLc HBc cO fO zO hv
  have HOc := Lib.hid hO1; have HRc := Lib.hid hR1; have HLc := Lib.hid hL1; have HBc := HBn
  clear hO1 hR1 hL1 HBn
  have cL := cells12 HLc.out; have zL := lt_of_heap HLc.out; have cO := cells4 HOc.out; have zO := lt_of_heap HOc.out
  rw [rounds_succ]
  go_wp2_with (fail)
  go_at_call 48
  refine (HO2.out _).mono ?_
  rintro e wk3 ⟨rfl, hb⟩
  have hO1 : wk3.heap[w.heap.size + 1]? = some (.cells #[.int .u64 o10, .int .u64 o11, .int .u64 o12, .int .u64 o13] 25 (0, 0)) := heap_keep' hb (heap_old HOc.out _)
  have hR1 : wk3.heap[w.heap.size]? = some (.cells #[.int .u64 0, .int .u64 0, .int .u64 0, .int .u64 0] 25 (0, 0)) := heap_keep' hb (heap_old HRc.out _)
  have hL1 : wk3.heap[b]? = some (.cells #[.int .u64 a0, .int .u64 a1, .int .u64 a2, .int .u64 a3, .int .u64 b0, .int .u64 b1, .int .u64 b2, .int .u64 b3, .int .u64 c0, .int .u64 c1, .int .u64 c2, .int .u64 c3] 25 (0, 0)) := heap_keep' hb (heap_old HLc.out _)
  have HBn : Hid (Below w.heap.size w wk3) := below_call (HBc.out.alloc HBc.out.size _) (by have := HBc.out.size; rw [World.size_alloc]; omega) hb
  clear HOc HRc HLc HBc hb cO zO
  have cO := cells4 hO1; have fO := frozen_of hO1; have zO := lt_of_heap hO1
  have HOc := Lib.hid hO1; have HRc := Lib.hid hR1; have HLc := Lib.hid hL1; have HBc := HBn
  clear hO1 hR1 hL1 HBn
  go_wp2
  clear cL zL
  obtain ⟨v3, hv⟩ : ∃ x : World, x = ((((wk3.setCell ⟨w.heap.size + 1, 0, none⟩ (.int .u64 o20)).setCell ⟨w.heap.size + 1, 1, none⟩ (.int .u64 o21)).setCell ⟨w.heap.size + 1, 2, none⟩ (.int .u64 o22)).setCell ⟨w.heap.size + 1, 3, none⟩ (.int .u64 o23)) := ⟨_, rfl⟩
  rw [← hv]
  have hO1 : v3.heap[w.heap.size + 1]? = some (.cells #[.int .u64 o20, .int .u64 o21, .int .u64 o22, .int .u64 o23] 25 (0, 0)) := by rw [hv]; exact set4 HOc.out _ _ _ _
  have hR1 : v3.heap[w.heap.size]? = some (.cells #[.int .u64 0, .int .u64 0, .int .u64 0, .int .u64 0] 25 (0, 0)) := by rw [hv]; exact keep4 HRc.out (by omega) _ _ _ _
  have hL1 : v3.heap[b]? = some (.cells #[.int .u64 a0, .int .u64 a1, .int .u64 a2, .int .u64 a3, .int .u64 b0, .int .u64 b1, .int .u64 b2, .int .u64 b3, .int .u64 c0, .int .u64 c1, .int .u64 c2, .int .u64 c3] 25 (0, 0)) := by rw [hv]; exact keep4 HLc.out (by omega) _ _ _ _
  have HBn : Hid (Below w.heap.size w v3) := by rw [hv]; exact set4_below HBc.out (by omega) _ _ _ _
  clear HOc HRc HLc HBc cO fO zO hv
  have HOc := Lib.hid hO1; have HRc := Lib.hid hR1; have HLc := Lib.hid hL1; have HBc := HBn
  clear hO1 hR1 hL1 HBn
  have cO := cells4 HOc.out; have cR := cells4 HRc.out; have fR := frozen_of HRc.out
  have hQ := cells4 (set4 HRc.out (.int .u64 o20) (.int .u64 o21) (.int .u64 o22) (.int .u64 o23))
  rw [rounds_succ]
  go_wp2
  refine bodyPost_ret (v := .agg #[.int .u64 o20, .int .u64 o21, .int .u64 o22, .int .u64 o23]) (by simp [results, Try.results25, go_sem, hQ]) rfl ⟨rfl, ?_⟩
  have hb : Below w.heap.size w _ := HBc.out
  go_grown
end Go.Proofs.Ytldnjbpcdojffaa
