/- @@NUM 25 The walks of residue's Add (of one, two, three numbers, and of none). Conditions: words are below 2^64. -/
import Derived.Test.YtldnjbpcdojffaaZ2
import Derived.Test.YtldnjbpcdojffaaZ1
import Derived.Test.YtldnjbpcdojffaaRows
import Derived.WalkKit
import Derived.ProofKit
import Derived.OpenShut
import Derived.ChangeOld
import Derived.Below
import Derived.Test.YtldnjbpcdojffaaZ5
import Derived.Test.YtldnjbpcdojffaaZ6
import Derived.Test.YtldnjbpcdojffaaZ4
set_option linter.unusedSectionVars false
namespace Go.Proofs.Ytldnjbpcdojffaa
set_option linter.unusedVariables false
set_option linter.unusedSimpArgs false
open Go Go.RowKit
open Pl (V V8 W4 T256 pP)

set_option maxHeartbeats 1000000 in
theorem Add0_fact : ∃ r0 r1 r2 r3 : Nat, (W4 r0 r1 r2 r3 ∧ V r0 r1 r2 r3 = 0) ∧ ∀ w : World,
    Calls Try.prog 23 #[.slice none 0 0] w fun e w' => e = .returned (.agg #[.int .u64 r0, .int .u64 r1, .int .u64 r2, .int .u64 r3]) ∧ Below w.heap.size w w' := by
  refine ⟨0, 0, 0, 0, ⟨by unfold W4; omega, by decide⟩, fun w => ?_⟩
  go_enter Try.func23, Try.ntmps23
  go_wp2
  refine wp_loop_rounds 1 ?_
  rw [rounds_succ]
  go_wp2
  refine bodyPost_ret (v := .agg #[.int .u64 0, .int .u64 0, .int .u64 0, .int .u64 0]) (by simp [results, Try.results23, go_sem]) rfl ⟨rfl, ?_⟩
  go_grown


set_option maxHeartbeats 4000000 in
theorem Add1_fact (a0 a1 a2 a3 : Nat) (ha : W4 a0 a1 a2 a3) : ∃ r0 r1 r2 r3 : Nat, (W4 r0 r1 r2 r3 ∧ V r0 r1 r2 r3 = (V a0 a1 a2 a3) % pP) ∧ ∀ (b : Nat) (w : World), w.heap[b]? = some (.cells #[.int .u64 a0, .int .u64 a1, .int .u64 a2, .int .u64 a3] 25 (0, 0)) →
    Calls Try.prog 23 #[.slice (some ⟨b, 0, none⟩) 1 1] w fun e w' => e = .returned (.agg #[.int .u64 r0, .int .u64 r1, .int .u64 r2, .int .u64 r3]) ∧ Below w.heap.size w w' := by
  have hz : W4 0 0 0 0 := by unfold W4; omega
  have hzv : V 0 0 0 0 < pP := by decide +kernel
  obtain ⟨s00, s01, s02, s03, ⟨hs0, hsv0⟩, FS0⟩ := small_fact a0 a1 a2 a3 ha
  obtain ⟨o00, o01, o02, o03, ⟨ho0, hov0'⟩, FO0⟩ := add_fact 0 0 0 0 s00 s01 s02 s03 hz hs0
  have hov0 := hov0' hzv (by rw [hsv0]; exact Nat.mod_lt _ pP_pos)
  clear hov0'
  have hol0 : V o00 o01 o02 o03 < pP := by rw [hov0]; exact Nat.mod_lt _ pP_pos
  refine ⟨o00, o01, o02, o03, ⟨ho0, ?_⟩, fun b w hL0 => ?_⟩
  · rw [hov0, hsv0]
    simp only [Nat.mod_add_mod, Nat.add_mod_mod, Nat.mod_mod, show V 0 0 0 0 = 0 from by decide, Nat.zero_add]
  have HO0 := Lib.hid FO0
  have HS0 := Lib.hid FS0
  clear FO0 FS0 hsv0 hol0 hov0 ho0 hs0 hz hzv ha
  have HL := Lib.hid hL0
  have zl : b < w.heap.size := lt_of_heap hL0
  clear hL0
  go_enter Try.func23, Try.ntmps23
  have cL0 := cells4 HL.out
  go_wp2
  refine wp_loop_rounds 2 ?_
  rw [rounds_succ]
  go_wp2
  refine Rg.region_ (n := 18) [0, 0, 2, 7, 15] [1, 1, 1, 1, 2] [12, 13, 14, 15, 0] [[(3, none)], [(5, none)], [(13, some 1)], [(12, some 0), (14, some 2)], [(3, none), (15, some 3)]] 4 (by kernel_rfl) (by kernel_rfl) (by rfl) ?_
  intro W hW
  have hO : W.heap[w.heap.size + 1]? = some (.cells #[.int .u64 0, .int .u64 0, .int .u64 0, .int .u64 0] 25 (0, 0)) := by rw [hW]; exact heap_drew (heap_old (heap_new' (by simp) _) _)
  have hE : W.heap[w.heap.size + 1 + 1]? = some (.cells #[.int .u64 a0, .int .u64 a1, .int .u64 a2, .int .u64 a3] 25 (0, 0)) := by rw [hW]; exact heap_drew (heap_new' (by simp) _)
  have hR : W.heap[w.heap.size]? = some (.cells #[.int .u64 0, .int .u64 0, .int .u64 0, .int .u64 0] 25 (0, 0)) := by rw [hW]; exact heap_drew (heap_old (heap_old (heap_new _ _) _) _)
  have hL : W.heap[b]? = some (.cells #[.int .u64 a0, .int .u64 a1, .int .u64 a2, .int .u64 a3] 25 (0, 0)) := by rw [hW]; exact heap_drew (heap_old (heap_old (heap_old HL.out _) _) _)
  have HB0 : Below w.heap.size w W := by rw [hW]; go_grown
  change Rg.Chain' _ _ _ _ _ [(0, 1, 12, [(3, none)]), (1, 1, 13, [(5, none)]), (2, 1, 14, [(13, some 1)]), (3, 1, 15, [(12, some 0), (14, some 2)])] [(0, 1, 12, [(3, none)]), (1, 1, 13, [(5, none)]), (2, 1, 14, [(13, some 1)]), (3, 1, 15, [(12, some 0), (14, some 2)])] _
  apply Rg.ch_def (by rfl) (fun a w1 _ => Rg.wanted_none (by rfl))
  · rintro a w1 hb ⟨e3, -⟩
    conv at e3 => rhs; whnf
    have n3 := e3
    simp only [Act.eval, Array.getD_eq_getD_getElem?] at n3
    apply Rg.gives_value
    · conv => lhs; simp [go_sem, n3, cells4 (heap_keep' hb hO), cells4 (heap_keep' hb hE)]
    · exact ⟨rfl, Below.refl _ _⟩
  apply Rg.ch_def (by rfl) (fun a w1 _ => Rg.wanted_none (by rfl))
  · rintro a w1 hb ⟨e5, -⟩
    conv at e5 => rhs; whnf
    have n5 := e5
    simp only [Act.eval, Array.getD_eq_getD_getElem?] at n5
    apply Rg.gives_value
    · conv => lhs; simp [go_sem, n5, cells4 (heap_keep' hb hO), cells4 (heap_keep' hb hE)]
    · exact ⟨rfl, Below.refl _ _⟩
  apply Rg.ch_def (by rfl) (fun a w1 _ => Rg.wanted_none (by rfl))
  · rintro a w1 hb ⟨e13, -⟩
    replace e13 : a.eval (.tmp 13) = _ := e13
    apply Rg.gives_enter
    · apply run_call Try.func47 (by kernel_rfl) rfl _ (by rfl)
      conv => lhs; simp only [List.map_toArray, List.map_cons, List.map_nil, eval_const_, eval_global_, e13]
    · refine (HS0.out _).mono ?_
      rintro e w2 ⟨rfl, hb2⟩
      exact ⟨_, rfl, rfl, hb2⟩
  apply Rg.ch_def (by rfl) (fun a w1 _ => Rg.wanted_none (by rfl))
  · rintro a w1 hb ⟨e12, e14, -⟩
    replace e12 : a.eval (.tmp 12) = _ := e12
    replace e14 : a.eval (.tmp 14) = _ := e14
    apply Rg.gives_enter
    · apply run_call Try.func46 (by kernel_rfl) rfl _ (by rfl)
      conv => lhs; simp only [List.map_toArray, List.map_cons, List.map_nil, eval_const_, eval_global_, e12, e14]
    · refine (HO0.out _).mono ?_
      rintro e w2 ⟨rfl, hb2⟩
      exact ⟨_, rfl, rfl, hb2⟩
  intro w1 hb1
  rintro _ rfl _ rfl _ rfl _ rfl
  change Go.wpList _ _ _ _ _ _
  simp only [List.drop_succ_cons, List.drop_zero, List.drop_nil, Act.put, List.setIfInBounds_toArray, List.set_cons_succ, List.set_cons_zero]
  obtain ⟨wk1, rfl⟩ : ∃ x : World, x = w1 := ⟨_, rfl⟩
  have hO1 := heap_keep' hb1 hO; have cO := cells4 hO1; have fO := frozen_of hO1
  have HOc := Lib.hid hO1; have HRc := Lib.hid (heap_keep' hb1 hR); have HLc := Lib.hid (heap_keep' hb1 hL)
  have HBc : Hid (Below w.heap.size w wk1) := below_call HB0 HB0.size hb1
  clear cL0
  clear hO hE hR hL HB0 hb1 hW hO1
  go_wp2
  refine NoPanic.normal ?_
  clear cO fO
  have hQ := cells4 (set4 (keep4 (b' := w.heap.size + 1) HRc.out (by omega) (.int .u64 o00) (.int .u64 o01) (.int .u64 o02) (.int .u64 o03)) (.int .u64 o00) (.int .u64 o01) (.int .u64 o02) (.int .u64 o03))
  have cO := cells4 (set4 HOc.out (.int .u64 o00) (.int .u64 o01) (.int .u64 o02) (.int .u64 o03))
  have cR := cells4 HRc.out; have fR := frozen_of HRc.out
  go_wp2
  rw [rounds_succ]
  go_wp2
  refine bodyPost_ret (v := .agg #[.int .u64 o00, .int .u64 o01, .int .u64 o02, .int .u64 o03]) (by simp [results, Try.results23, go_sem, hQ]) rfl ⟨rfl, ?_⟩
  have hb : Below w.heap.size w _ := HBc.out
  go_grown

set_option maxHeartbeats 4000000 in
theorem Add2_fact (a0 a1 a2 a3 b0 b1 b2 b3 : Nat) (ha : W4 a0 a1 a2 a3) (hb : W4 b0 b1 b2 b3) : ∃ r0 r1 r2 r3 : Nat, (W4 r0 r1 r2 r3 ∧ V r0 r1 r2 r3 = (V a0 a1 a2 a3 + V b0 b1 b2 b3) % pP) ∧ ∀ (b : Nat) (w : World), w.heap[b]? = some (.cells #[.int .u64 a0, .int .u64 a1, .int .u64 a2, .int .u64 a3, .int .u64 b0, .int .u64 b1, .int .u64 b2, .int .u64 b3] 25 (0, 0)) →
    Calls Try.prog 23 #[.slice (some ⟨b, 0, none⟩) 2 2] w fun e w' => e = .returned (.agg #[.int .u64 r0, .int .u64 r1, .int .u64 r2, .int .u64 r3]) ∧ Below w.heap.size w w' := by
  have hz : W4 0 0 0 0 := by unfold W4; omega
  have hzv : V 0 0 0 0 < pP := by decide +kernel
  obtain ⟨s00, s01, s02, s03, ⟨hs0, hsv0⟩, FS0⟩ := small_fact a0 a1 a2 a3 ha
  obtain ⟨o00, o01, o02, o03, ⟨ho0, hov0'⟩, FO0⟩ := add_fact 0 0 0 0 s00 s01 s02 s03 hz hs0
  have hov0 := hov0' hzv (by rw [hsv0]; exact Nat.mod_lt _ pP_pos)
  clear hov0'
  have hol0 : V o00 o01 o02 o03 < pP := by rw [hov0]; exact Nat.mod_lt _ pP_pos
  obtain ⟨s10, s11, s12, s13, ⟨hs1, hsv1⟩, FS1⟩ := small_fact b0 b1 b2 b3 hb
  obtain ⟨o10, o11, o12, o13, ⟨ho1, hov1'⟩, FO1⟩ := add_fact o00 o01 o02 o03 s10 s11 s12 s13 ho0 hs1
  have hov1 := hov1' hol0 (by rw [hsv1]; exact Nat.mod_lt _ pP_pos)
  clear hov1'
  have hol1 : V o10 o11 o12 o13 < pP := by rw [hov1]; exact Nat.mod_lt _ pP_pos
  refine ⟨o10, o11, o12, o13, ⟨ho1, ?_⟩, fun b w hL0 => ?_⟩
  · rw [hov1, hsv1, hov0, hsv0]
    simp only [Nat.mod_add_mod, Nat.add_mod_mod, Nat.mod_mod, show V 0 0 0 0 = 0 from by decide, Nat.zero_add]
  have HO0 := Lib.hid FO0
  have HS0 := Lib.hid FS0
  have HO1 := Lib.hid FO1
  have HS1 := Lib.hid FS1
  clear FO0 FS0 hsv0 hol0 FO1 FS1 hsv1 hol1 hov1 ho1 hov0 ho0 hs1 hs0 hz hzv ha hb
  have HL := Lib.hid hL0
  have zl : b < w.heap.size := lt_of_heap hL0
  clear hL0
  go_enter Try.func23, Try.ntmps23
  have cL0 := cells8 HL.out
  go_wp2
  refine wp_loop_rounds 3 ?_
  rw [rounds_succ]
  go_wp2
  refine Rg.region_ (n := 18) [0, 0, 2, 7, 15] [1, 1, 1, 1, 2] [12, 13, 14, 15, 0] [[(3, none)], [(5, none)], [(13, some 1)], [(12, some 0), (14, some 2)], [(3, none), (15, some 3)]] 4 (by kernel_rfl) (by kernel_rfl) (by rfl) ?_
  intro W hW
  have hO : W.heap[w.heap.size + 1]? = some (.cells #[.int .u64 0, .int .u64 0, .int .u64 0, .int .u64 0] 25 (0, 0)) := by rw [hW]; exact heap_drew (heap_old (heap_new' (by simp) _) _)
  have hE : W.heap[w.heap.size + 1 + 1]? = some (.cells #[.int .u64 a0, .int .u64 a1, .int .u64 a2, .int .u64 a3] 25 (0, 0)) := by rw [hW]; exact heap_drew (heap_new' (by simp) _)
  have hR : W.heap[w.heap.size]? = some (.cells #[.int .u64 0, .int .u64 0, .int .u64 0, .int .u64 0] 25 (0, 0)) := by rw [hW]; exact heap_drew (heap_old (heap_old (heap_new _ _) _) _)
  have hL : W.heap[b]? = some (.cells #[.int .u64 a0, .int .u64 a1, .int .u64 a2, .int .u64 a3, .int .u64 b0, .int .u64 b1, .int .u64 b2, .int .u64 b3] 25 (0, 0)) := by rw [hW]; exact heap_drew (heap_old (heap_old (heap_old HL.out _) _) _)
  have HB0 : Below w.heap.size w W := by rw [hW]; go_grown
  change Rg.Chain' _ _ _ _ _ [(0, 1, 12, [(3, none)]), (1, 1, 13, [(5, none)]), (2, 1, 14, [(13, some 1)]), (3, 1, 15, [(12, some 0), (14, some 2)])] [(0, 1, 12, [(3, none)]), (1, 1, 13, [(5, none)]), (2, 1, 14, [(13, some 1)]), (3, 1, 15, [(12, some 0), (14, some 2)])] _
  apply Rg.ch_def (by rfl) (fun a w1 _ => Rg.wanted_none (by rfl))
  · rintro a w1 hb ⟨e3, -⟩
    conv at e3 => rhs; whnf
    have n3 := e3
    simp only [Act.eval, Array.getD_eq_getD_getElem?] at n3
    apply Rg.gives_value
    · conv => lhs; simp [go_sem, n3, cells4 (heap_keep' hb hO), cells4 (heap_keep' hb hE)]
    · exact ⟨rfl, Below.refl _ _⟩
  apply Rg.ch_def (by rfl) (fun a w1 _ => Rg.wanted_none (by rfl))
  · rintro a w1 hb ⟨e5, -⟩
    conv at e5 => rhs; whnf
    have n5 := e5
    simp only [Act.eval, Array.getD_eq_getD_getElem?] at n5
    apply Rg.gives_value
    · conv => lhs; simp [go_sem, n5, cells4 (heap_keep' hb hO), cells4 (heap_keep' hb hE)]
    · exact ⟨rfl, Below.refl _ _⟩
  apply Rg.ch_def (by rfl) (fun a w1 _ => Rg.wanted_none (by rfl))
  · rintro a w1 hb ⟨e13, -⟩
    replace e13 : a.eval (.tmp 13) = _ := e13
    apply Rg.gives_enter
    · apply run_call Try.func47 (by kernel_rfl) rfl _ (by rfl)
      conv => lhs; simp only [List.map_toArray, List.map_cons, List.map_nil, eval_const_, eval_global_, e13]
    · refine (HS0.out _).mono ?_
      rintro e w2 ⟨rfl, hb2⟩
      exact ⟨_, rfl, rfl, hb2⟩
  apply Rg.ch_def (by rfl) (fun a w1 _ => Rg.wanted_none (by rfl))
  · rintro a w1 hb ⟨e12, e14, -⟩
    replace e12 : a.eval (.tmp 12) = _ := e12
    replace e14 : a.eval (.tmp 14) = _ := e14
    apply Rg.gives_enter
    · apply run_call Try.func46 (by kernel_rfl) rfl _ (by rfl)
      conv => lhs; simp only [List.map_toArray, List.map_cons, List.map_nil, eval_const_, eval_global_, e12, e14]
    · refine (HO0.out _).mono ?_
      rintro e w2 ⟨rfl, hb2⟩
      exact ⟨_, rfl, rfl, hb2⟩
  intro w1 hb1
  rintro _ rfl _ rfl _ rfl _ rfl
  change Go.wpList _ _ _ _ _ _
  simp only [List.drop_succ_cons, List.drop_zero, List.drop_nil, Act.put, List.setIfInBounds_toArray, List.set_cons_succ, List.set_cons_zero]
  obtain ⟨wk1, rfl⟩ : ∃ x : World, x = w1 := ⟨_, rfl⟩
  have hO1 := heap_keep' hb1 hO; have cO := cells4 hO1; have fO := frozen_of hO1
  have HOc := Lib.hid hO1; have HRc := Lib.hid (heap_keep' hb1 hR); have HLc := Lib.hid (heap_keep' hb1 hL)
  have HBc : Hid (Below w.heap.size w wk1) := below_call HB0 HB0.size hb1
  clear cL0
  clear hO hE hR hL HB0 hb1 hW hO1
  go_wp2
  refine NoPanic.normal ?_
  clear cO fO
  have cL := cells8 HLc.out; have zL := lt_of_heap HLc.out
  go_wp2
  skip
  rw [rounds_succ]
  go_wp2
  refine Rg.region_ (n := 18) [0, 0, 2, 7, 15] [1, 1, 1, 1, 2] [12, 13, 14, 15, 0] [[(3, none)], [(5, none)], [(13, some 1)], [(12, some 0), (14, some 2)], [(3, none), (15, some 3)]] 4 (by kernel_rfl) (by kernel_rfl) (by rfl) ?_
  intro W hW
  have hO : W.heap[w.heap.size + 1]? = some (.cells #[.int .u64 o00, .int .u64 o01, .int .u64 o02, .int .u64 o03] 25 (0, 0)) := by rw [hW]; exact heap_drew (heap_old (set4 HOc.out _ _ _ _) _)
  have hE : W.heap[wk1.heap.size]? = some (.cells #[.int .u64 b0, .int .u64 b1, .int .u64 b2, .int .u64 b3] 25 (0, 0)) := by rw [hW]; exact heap_drew (heap_new' (by rw [size4]) _)
  have hR : W.heap[w.heap.size]? = some (.cells #[.int .u64 0, .int .u64 0, .int .u64 0, .int .u64 0] 25 (0, 0)) := by rw [hW]; exact heap_drew (heap_old (keep4 HRc.out (by omega) _ _ _ _) _)
  have hL : W.heap[b]? = some (.cells #[.int .u64 a0, .int .u64 a1, .int .u64 a2, .int .u64 a3, .int .u64 b0, .int .u64 b1, .int .u64 b2, .int .u64 b3] 25 (0, 0)) := by rw [hW]; exact heap_drew (heap_old (keep4 HLc.out (by omega) _ _ _ _) _)
  have HB0 : Below w.heap.size w W := by rw [hW]; exact (((set4_below HBc.out (by omega) _ _ _ _).alloc (by rw [size4]; exact HBc.out.size) _)).drew
  change Rg.Chain' _ _ _ _ _ [(0, 1, 12, [(3, none)]), (1, 1, 13, [(5, none)]), (2, 1, 14, [(13, some 1)]), (3, 1, 15, [(12, some 0), (14, some 2)])] [(0, 1, 12, [(3, none)]), (1, 1, 13, [(5, none)]), (2, 1, 14, [(13, some 1)]), (3, 1, 15, [(12, some 0), (14, some 2)])] _
  apply Rg.ch_def (by rfl) (fun a w1 _ => Rg.wanted_none (by rfl))
  · rintro a w1 hb ⟨e3, -⟩
    conv at e3 => rhs; whnf
    have n3 := e3
    simp only [Act.eval, Array.getD_eq_getD_getElem?] at n3
    apply Rg.gives_value
    · conv => lhs; simp [go_sem, n3, cells4 (heap_keep' hb hO), cells4 (heap_keep' hb hE)]
    · exact ⟨rfl, Below.refl _ _⟩
  apply Rg.ch_def (by rfl) (fun a w1 _ => Rg.wanted_none (by rfl))
  · rintro a w1 hb ⟨e5, -⟩
    conv at e5 => rhs; whnf
    have n5 := e5
    simp only [Act.eval, Array.getD_eq_getD_getElem?] at n5
    apply Rg.gives_value
    · conv => lhs; simp [go_sem, n5, cells4 (heap_keep' hb hO), cells4 (heap_keep' hb hE)]
    · exact ⟨rfl, Below.refl _ _⟩
  apply Rg.ch_def (by rfl) (fun a w1 _ => Rg.wanted_none (by rfl))
  · rintro a w1 hb ⟨e13, -⟩
    replace e13 : a.eval (.tmp 13) = _ := e13
    apply Rg.gives_enter
    · apply run_call Try.func47 (by kernel_rfl) rfl _ (by rfl)
      conv => lhs; simp only [List.map_toArray, List.map_cons, List.map_nil, eval_const_, eval_global_, e13]
    · refine (HS1.out _).mono ?_
      rintro e w2 ⟨rfl, hb2⟩
      exact ⟨_, rfl, rfl, hb2⟩
  apply Rg.ch_def (by rfl) (fun a w1 _ => Rg.wanted_none (by rfl))
  · rintro a w1 hb ⟨e12, e14, -⟩
    replace e12 : a.eval (.tmp 12) = _ := e12
    replace e14 : a.eval (.tmp 14) = _ := e14
    apply Rg.gives_enter
    · apply run_call Try.func46 (by kernel_rfl) rfl _ (by rfl)
      conv => lhs; simp only [List.map_toArray, List.map_cons, List.map_nil, eval_const_, eval_global_, e12, e14]
    · refine (HO1.out _).mono ?_
      rintro e w2 ⟨rfl, hb2⟩
      exact ⟨_, rfl, rfl, hb2⟩
  intro w1 hb1
  rintro _ rfl _ rfl _ rfl _ rfl
  change Go.wpList _ _ _ _ _ _
  simp only [List.drop_succ_cons, List.drop_zero, List.drop_nil, Act.put, List.setIfInBounds_toArray, List.set_cons_succ, List.set_cons_zero]
  obtain ⟨wk2, rfl⟩ : ∃ x : World, x = w1 := ⟨_, rfl⟩
  have hO1 := heap_keep' hb1 hO; have cO := cells4 hO1; have fO := frozen_of hO1
  clear HOc HRc HLc HBc
  have HOc := Lib.hid hO1; have HRc := Lib.hid (heap_keep' hb1 hR); have HLc := Lib.hid (heap_keep' hb1 hL)
  have HBc : Hid (Below w.heap.size w wk2) := below_call HB0 HB0.size hb1
  clear hO hE hR hL HB0 hb1 hW hO1
  go_wp2
  refine NoPanic.normal ?_
  clear cO fO
  have hQ := cells4 (set4 (keep4 (b' := w.heap.size + 1) HRc.out (by omega) (.int .u64 o10) (.int .u64 o11) (.int .u64 o12) (.int .u64 o13)) (.int .u64 o10) (.int .u64 o11) (.int .u64 o12) (.int .u64 o13))
  have cO := cells4 (set4 HOc.out (.int .u64 o10) (.int .u64 o11) (.int .u64 o12) (.int .u64 o13))
  have cR := cells4 HRc.out; have fR := frozen_of HRc.out
  go_wp2
  rw [rounds_succ]
  go_wp2
  refine bodyPost_ret (v := .agg #[.int .u64 o10, .int .u64 o11, .int .u64 o12, .int .u64 o13]) (by simp [results, Try.results23, go_sem, hQ]) rfl ⟨rfl, ?_⟩
  have hb : Below w.heap.size w _ := HBc.out
  go_grown

set_option maxHeartbeats 4000000 in
theorem Add3_fact (a0 a1 a2 a3 b0 b1 b2 b3 c0 c1 c2 c3 : Nat) (ha : W4 a0 a1 a2 a3) (hb : W4 b0 b1 b2 b3) (hc : W4 c0 c1 c2 c3) : ∃ r0 r1 r2 r3 : Nat, (W4 r0 r1 r2 r3 ∧ V r0 r1 r2 r3 = (V a0 a1 a2 a3 + V b0 b1 b2 b3 + V c0 c1 c2 c3) % pP) ∧ ∀ (b : Nat) (w : World), w.heap[b]? = some (.cells #[.int .u64 a0, .int .u64 a1, .int .u64 a2, .int .u64 a3, .int .u64 b0, .int .u64 b1, .int .u64 b2, .int .u64 b3, .int .u64 c0, .int .u64 c1, .int .u64 c2, .int .u64 c3] 25 (0, 0)) →
    Calls Try.prog 23 #[.slice (some ⟨b, 0, none⟩) 3 3] w fun e w' => e = .returned (.agg #[.int .u64 r0, .int .u64 r1, .int .u64 r2, .int .u64 r3]) ∧ Below w.heap.size w w' := by
  have hz : W4 0 0 0 0 := by unfold W4; omega
  have hzv : V 0 0 0 0 < pP := by decide +kernel
  obtain ⟨s00, s01, s02, s03, ⟨hs0, hsv0⟩, FS0⟩ := small_fact a0 a1 a2 a3 ha
  obtain ⟨o00, o01, o02, o03, ⟨ho0, hov0'⟩, FO0⟩ := add_fact 0 0 0 0 s00 s01 s02 s03 hz hs0
  have hov0 := hov0' hzv (by rw [hsv0]; exact Nat.mod_lt _ pP_pos)
  clear hov0'
  have hol0 : V o00 o01 o02 o03 < pP := by rw [hov0]; exact Nat.mod_lt _ pP_pos
  obtain ⟨s10, s11, s12, s13, ⟨hs1, hsv1⟩, FS1⟩ := small_fact b0 b1 b2 b3 hb
  obtain ⟨o10, o11, o12, o13, ⟨ho1, hov1'⟩, FO1⟩ := add_fact o00 o01 o02 o03 s10 s11 s12 s13 ho0 hs1
  have hov1 := hov1' hol0 (by rw [hsv1]; exact Nat.mod_lt _ pP_pos)
  clear hov1'
  have hol1 : V o10 o11 o12 o13 < pP := by rw [hov1]; exact Nat.mod_lt _ pP_pos
  obtain ⟨s20, s21, s22, s23, ⟨hs2, hsv2⟩, FS2⟩ := small_fact c0 c1 c2 c3 hc
  obtain ⟨o20, o21, o22, o23, ⟨ho2, hov2'⟩, FO2⟩ := add_fact o10 o11 o12 o13 s20 s21 s22 s23 ho1 hs2
  have hov2 := hov2' hol1 (by rw [hsv2]; exact Nat.mod_lt _ pP_pos)
  clear hov2'
  have hol2 : V o20 o21 o22 o23 < pP := by rw [hov2]; exact Nat.mod_lt _ pP_pos
  refine ⟨o20, o21, o22, o23, ⟨ho2, ?_⟩, fun b w hL0 => ?_⟩
  · rw [hov2, hsv2, hov1, hsv1, hov0, hsv0]
    simp only [Nat.mod_add_mod, Nat.add_mod_mod, Nat.mod_mod, show V 0 0 0 0 = 0 from by decide, Nat.zero_add]
  have HO0 := Lib.hid FO0
  have HS0 := Lib.hid FS0
  have HO1 := Lib.hid FO1
  have HS1 := Lib.hid FS1
  have HO2 := Lib.hid FO2
  have HS2 := Lib.hid FS2
  clear FO0 FS0 hsv0 hol0 FO1 FS1 hsv1 hol1 FO2 FS2 hsv2 hol2 hov2 ho2 hov1 ho1 hov0 ho0 hs2 hs1 hs0 hz hzv ha hb hc
  have HL := Lib.hid hL0
  have zl : b < w.heap.size := lt_of_heap hL0
  clear hL0
  go_enter Try.func23, Try.ntmps23
  have cL0 := cells12 HL.out
  go_wp2
  refine wp_loop_rounds 4 ?_
  rw [rounds_succ]
  go_wp2
  refine Rg.region_ (n := 18) [0, 0, 2, 7, 15] [1, 1, 1, 1, 2] [12, 13, 14, 15, 0] [[(3, none)], [(5, none)], [(13, some 1)], [(12, some 0), (14, some 2)], [(3, none), (15, some 3)]] 4 (by kernel_rfl) (by kernel_rfl) (by rfl) ?_
  intro W hW
  have hO : W.heap[w.heap.size + 1]? = some (.cells #[.int .u64 0, .int .u64 0, .int .u64 0, .int .u64 0] 25 (0, 0)) := by rw [hW]; exact heap_drew (heap_old (heap_new' (by simp) _) _)
  have hE : W.heap[w.heap.size + 1 + 1]? = some (.cells #[.int .u64 a0, .int .u64 a1, .int .u64 a2, .int .u64 a3] 25 (0, 0)) := by rw [hW]; exact heap_drew (heap_new' (by simp) _)
  have hR : W.heap[w.heap.size]? = some (.cells #[.int .u64 0, .int .u64 0, .int .u64 0, .int .u64 0] 25 (0, 0)) := by rw [hW]; exact heap_drew (heap_old (heap_old (heap_new _ _) _) _)
  have hL : W.heap[b]? = some (.cells #[.int .u64 a0, .int .u64 a1, .int .u64 a2, .int .u64 a3, .int .u64 b0, .int .u64 b1, .int .u64 b2, .int .u64 b3, .int .u64 c0, .int .u64 c1, .int .u64 c2, .int .u64 c3] 25 (0, 0)) := by rw [hW]; exact heap_drew (heap_old (heap_old (heap_old HL.out _) _) _)
  have HB0 : Below w.heap.size w W := by rw [hW]; go_grown
  change Rg.Chain' _ _ _ _ _ [(0, 1, 12, [(3, none)]), (1, 1, 13, [(5, none)]), (2, 1, 14, [(13, some 1)]), (3, 1, 15, [(12, some 0), (14, some 2)])] [(0, 1, 12, [(3, none)]), (1, 1, 13, [(5, none)]), (2, 1, 14, [(13, some 1)]), (3, 1, 15, [(12, some 0), (14, some 2)])] _
  apply Rg.ch_def (by rfl) (fun a w1 _ => Rg.wanted_none (by rfl))
  · rintro a w1 hb ⟨e3, -⟩
    conv at e3 => rhs; whnf
    have n3 := e3
    simp only [Act.eval, Array.getD_eq_getD_getElem?] at n3
    apply Rg.gives_value
    · conv => lhs; simp [go_sem, n3, cells4 (heap_keep' hb hO), cells4 (heap_keep' hb hE)]
    · exact ⟨rfl, Below.refl _ _⟩
  apply Rg.ch_def (by rfl) (fun a w1 _ => Rg.wanted_none (by rfl))
  · rintro a w1 hb ⟨e5, -⟩
    conv at e5 => rhs; whnf
    have n5 := e5
    simp only [Act.eval, Array.getD_eq_getD_getElem?] at n5
    apply Rg.gives_value
    · conv => lhs; simp [go_sem, n5, cells4 (heap_keep' hb hO), cells4 (heap_keep' hb hE)]
    · exact ⟨rfl, Below.refl _ _⟩
  apply Rg.ch_def (by rfl) (fun a w1 _ => Rg.wanted_none (by rfl))
  · rintro a w1 hb ⟨e13, -⟩
    replace e13 : a.eval (.tmp 13) = _ := e13
    apply Rg.gives_enter
    · apply run_call Try.func47 (by kernel_rfl) rfl _ (by rfl)
      conv => lhs; simp only [List.map_toArray, List.map_cons, List.map_nil, eval_const_, eval_global_, e13]
    · refine (HS0.out _).mono ?_
      rintro e w2 ⟨rfl, hb2⟩
      exact ⟨_, rfl, rfl, hb2⟩
  apply Rg.ch_def (by rfl) (fun a w1 _ => Rg.wanted_none (by rfl))
  · rintro a w1 hb ⟨e12, e14, -⟩
    replace e12 : a.eval (.tmp 12) = _ := e12
    replace e14 : a.eval (.tmp 14) = _ := e14
    apply Rg.gives_enter
    · apply run_call Try.func46 (by kernel_rfl) rfl _ (by rfl)
      conv => lhs; simp only [List.map_toArray, List.map_cons, List.map_nil, eval_const_, eval_global_, e12, e14]
    · refine (HO0.out _).mono ?_
      rintro e w2 ⟨rfl, hb2⟩
      exact ⟨_, rfl, rfl, hb2⟩
  intro w1 hb1
  rintro _ rfl _ rfl _ rfl _ rfl
  change Go.wpList _ _ _ _ _ _
  simp only [List.drop_succ_cons, List.drop_zero, List.drop_nil, Act.put, List.setIfInBounds_toArray, List.set_cons_succ, List.set_cons_zero]
  obtain ⟨wk1, rfl⟩ : ∃ x : World, x = w1 := ⟨_, rfl⟩
  have hO1 := heap_keep' hb1 hO; have cO := cells4 hO1; have fO := frozen_of hO1
  have HOc := Lib.hid hO1; have HRc := Lib.hid (heap_keep' hb1 hR); have HLc := Lib.hid (heap_keep' hb1 hL)
  have HBc : Hid (Below w.heap.size w wk1) := below_call HB0 HB0.size hb1
  clear cL0
  clear hO hE hR hL HB0 hb1 hW hO1
  go_wp2
  refine NoPanic.normal ?_
  clear cO fO
  have cL := cells12 HLc.out; have zL := lt_of_heap HLc.out
  go_wp2
  skip
  rw [rounds_succ]
  go_wp2
  refine Rg.region_ (n := 18) [0, 0, 2, 7, 15] [1, 1, 1, 1, 2] [12, 13, 14, 15, 0] [[(3, none)], [(5, none)], [(13, some 1)], [(12, some 0), (14, some 2)], [(3, none), (15, some 3)]] 4 (by kernel_rfl) (by kernel_rfl) (by rfl) ?_
  intro W hW
  have hO : W.heap[w.heap.size + 1]? = some (.cells #[.int .u64 o00, .int .u64 o01, .int .u64 o02, .int .u64 o03] 25 (0, 0)) := by rw [hW]; exact heap_drew (heap_old (set4 HOc.out _ _ _ _) _)
  have hE : W.heap[wk1.heap.size]? = some (.cells #[.int .u64 b0, .int .u64 b1, .int .u64 b2, .int .u64 b3] 25 (0, 0)) := by rw [hW]; exact heap_drew (heap_new' (by rw [size4]) _)
  have hR : W.heap[w.heap.size]? = some (.cells #[.int .u64 0, .int .u64 0, .int .u64 0, .int .u64 0] 25 (0, 0)) := by rw [hW]; exact heap_drew (heap_old (keep4 HRc.out (by omega) _ _ _ _) _)
  have hL : W.heap[b]? = some (.cells #[.int .u64 a0, .int .u64 a1, .int .u64 a2, .int .u64 a3, .int .u64 b0, .int .u64 b1, .int .u64 b2, .int .u64 b3, .int .u64 c0, .int .u64 c1, .int .u64 c2, .int .u64 c3] 25 (0, 0)) := by rw [hW]; exact heap_drew (heap_old (keep4 HLc.out (by omega) _ _ _ _) _)
  have HB0 : Below w.heap.size w W := by rw [hW]; exact (((set4_below HBc.out (by omega) _ _ _ _).alloc (by rw [size4]; exact HBc.out.size) _)).drew
  change Rg.Chain' _ _ _ _ _ [(0, 1, 12, [(3, none)]), (1, 1, 13, [(5, none)]), (2, 1, 14, [(13, some 1)]), (3, 1, 15, [(12, some 0), (14, some 2)])] [(0, 1, 12, [(3, none)]), (1, 1, 13, [(5, none)]), (2, 1, 14, [(13, some 1)]), (3, 1, 15, [(12, some 0), (14, some 2)])] _
  apply Rg.ch_def (by rfl) (fun a w1 _ => Rg.wanted_none (by rfl))
  · rintro a w1 hb ⟨e3, -⟩
    conv at e3 => rhs; whnf
    have n3 := e3
    simp only [Act.eval, Array.getD_eq_getD_getElem?] at n3
    apply Rg.gives_value
    · conv => lhs; simp [go_sem, n3, cells4 (heap_keep' hb hO), cells4 (heap_keep' hb hE)]
    · exact ⟨rfl, Below.refl _ _⟩
  apply Rg.ch_def (by rfl) (fun a w1 _ => Rg.wanted_none (by rfl))
  · rintro a w1 hb ⟨e5, -⟩
    conv at e5 => rhs; whnf
    have n5 := e5
    simp only [Act.eval, Array.getD_eq_getD_getElem?] at n5
    apply Rg.gives_value
    · conv => lhs; simp [go_sem, n5, cells4 (heap_keep' hb hO), cells4 (heap_keep' hb hE)]
    · exact ⟨rfl, Below.refl _ _⟩
  apply Rg.ch_def (by rfl) (fun a w1 _ => Rg.wanted_none (by rfl))
  · rintro a w1 hb ⟨e13, -⟩
    replace e13 : a.eval (.tmp 13) = _ := e13
    apply Rg.gives_enter
    · apply run_call Try.func47 (by kernel_rfl) rfl _ (by rfl)
      conv => lhs; simp only [List.map_toArray, List.map_cons, List.map_nil, eval_const_, eval_global_, e13]
    · refine (HS1.out _).mono ?_
      rintro e w2 ⟨rfl, hb2⟩
      exact ⟨_, rfl, rfl, hb2⟩
  apply Rg.ch_def (by rfl) (fun a w1 _ => Rg.wanted_none (by rfl))
  · rintro a w1 hb ⟨e12, e14, -⟩
    replace e12 : a.eval (.tmp 12) = _ := e12
    replace e14 : a.eval (.tmp 14) = _ := e14
    apply Rg.gives_enter
    · apply run_call Try.func46 (by kernel_rfl) rfl _ (by rfl)
      conv => lhs; simp only [List.map_toArray, List.map_cons, List.map_nil, eval_const_, eval_global_, e12, e14]
    · refine (HO1.out _).mono ?_
      rintro e w2 ⟨rfl, hb2⟩
      exact ⟨_, rfl, rfl, hb2⟩
  intro w1 hb1
  rintro _ rfl _ rfl _ rfl _ rfl
  change Go.wpList _ _ _ _ _ _
  simp only [List.drop_succ_cons, List.drop_zero, List.drop_nil, Act.put, List.setIfInBounds_toArray, List.set_cons_succ, List.set_cons_zero]
  obtain ⟨wk2, rfl⟩ : ∃ x : World, x = w1 := ⟨_, rfl⟩
  have hO1 := heap_keep' hb1 hO; have cO := cells4 hO1; have fO := frozen_of hO1
  clear HOc HRc HLc HBc
  have HOc := Lib.hid hO1; have HRc := Lib.hid (heap_keep' hb1 hR); have HLc := Lib.hid (heap_keep' hb1 hL)
  have HBc : Hid (Below w.heap.size w wk2) := below_call HB0 HB0.size hb1
  clear hO hE hR hL HB0 hb1 hW hO1
  go_wp2
  refine NoPanic.normal ?_
  clear cO fO
  have cL := cells12 HLc.out; have zL := lt_of_heap HLc.out
  go_wp2
  skip
  rw [rounds_succ]
  go_wp2
  refine Rg.region_ (n := 18) [0, 0, 2, 7, 15] [1, 1, 1, 1, 2] [12, 13, 14, 15, 0] [[(3, none)], [(5, none)], [(13, some 1)], [(12, some 0), (14, some 2)], [(3, none), (15, some 3)]] 4 (by kernel_rfl) (by kernel_rfl) (by rfl) ?_
  intro W hW
  have hO : W.heap[w.heap.size + 1]? = some (.cells #[.int .u64 o10, .int .u64 o11, .int .u64 o12, .int .u64 o13] 25 (0, 0)) := by rw [hW]; exact heap_drew (heap_old (set4 HOc.out _ _ _ _) _)
  have hE : W.heap[wk2.heap.size]? = some (.cells #[.int .u64 c0, .int .u64 c1, .int .u64 c2, .int .u64 c3] 25 (0, 0)) := by rw [hW]; exact heap_drew (heap_new' (by rw [size4]) _)
  have hR : W.heap[w.heap.size]? = some (.cells #[.int .u64 0, .int .u64 0, .int .u64 0, .int .u64 0] 25 (0, 0)) := by rw [hW]; exact heap_drew (heap_old (keep4 HRc.out (by omega) _ _ _ _) _)
  have hL : W.heap[b]? = some (.cells #[.int .u64 a0, .int .u64 a1, .int .u64 a2, .int .u64 a3, .int .u64 b0, .int .u64 b1, .int .u64 b2, .int .u64 b3, .int .u64 c0, .int .u64 c1, .int .u64 c2, .int .u64 c3] 25 (0, 0)) := by rw [hW]; exact heap_drew (heap_old (keep4 HLc.out (by omega) _ _ _ _) _)
  have HB0 : Below w.heap.size w W := by rw [hW]; exact (((set4_below HBc.out (by omega) _ _ _ _).alloc (by rw [size4]; exact HBc.out.size) _)).drew
  change Rg.Chain' _ _ _ _ _ [(0, 1, 12, [(3, none)]), (1, 1, 13, [(5, none)]), (2, 1, 14, [(13, some 1)]), (3, 1, 15, [(12, some 0), (14, some 2)])] [(0, 1, 12, [(3, none)]), (1, 1, 13, [(5, none)]), (2, 1, 14, [(13, some 1)]), (3, 1, 15, [(12, some 0), (14, some 2)])] _
  apply Rg.ch_def (by rfl) (fun a w1 _ => Rg.wanted_none (by rfl))
  · rintro a w1 hb ⟨e3, -⟩
    conv at e3 => rhs; whnf
    have n3 := e3
    simp only [Act.eval, Array.getD_eq_getD_getElem?] at n3
    apply Rg.gives_value
    · conv => lhs; simp [go_sem, n3, cells4 (heap_keep' hb hO), cells4 (heap_keep' hb hE)]
    · exact ⟨rfl, Below.refl _ _⟩
  apply Rg.ch_def (by rfl) (fun a w1 _ => Rg.wanted_none (by rfl))
  · rintro a w1 hb ⟨e5, -⟩
    conv at e5 => rhs; whnf
    have n5 := e5
    simp only [Act.eval, Array.getD_eq_getD_getElem?] at n5
    apply Rg.gives_value
    · conv => lhs; simp [go_sem, n5, cells4 (heap_keep' hb hO), cells4 (heap_keep' hb hE)]
    · exact ⟨rfl, Below.refl _ _⟩
  apply Rg.ch_def (by rfl) (fun a w1 _ => Rg.wanted_none (by rfl))
  · rintro a w1 hb ⟨e13, -⟩
    replace e13 : a.eval (.tmp 13) = _ := e13
    apply Rg.gives_enter
    · apply run_call Try.func47 (by kernel_rfl) rfl _ (by rfl)
      conv => lhs; simp only [List.map_toArray, List.map_cons, List.map_nil, eval_const_, eval_global_, e13]
    · refine (HS2.out _).mono ?_
      rintro e w2 ⟨rfl, hb2⟩
      exact ⟨_, rfl, rfl, hb2⟩
  apply Rg.ch_def (by rfl) (fun a w1 _ => Rg.wanted_none (by rfl))
  · rintro a w1 hb ⟨e12, e14, -⟩
    replace e12 : a.eval (.tmp 12) = _ := e12
    replace e14 : a.eval (.tmp 14) = _ := e14
    apply Rg.gives_enter
    · apply run_call Try.func46 (by kernel_rfl) rfl _ (by rfl)
      conv => lhs; simp only [List.map_toArray, List.map_cons, List.map_nil, eval_const_, eval_global_, e12, e14]
    · refine (HO2.out _).mono ?_
      rintro e w2 ⟨rfl, hb2⟩
      exact ⟨_, rfl, rfl, hb2⟩
  intro w1 hb1
  rintro _ rfl _ rfl _ rfl _ rfl
  change Go.wpList _ _ _ _ _ _
  simp only [List.drop_succ_cons, List.drop_zero, List.drop_nil, Act.put, List.setIfInBounds_toArray, List.set_cons_succ, List.set_cons_zero]
  obtain ⟨wk3, rfl⟩ : ∃ x : World, x = w1 := ⟨_, rfl⟩
  have hO1 := heap_keep' hb1 hO; have cO := cells4 hO1; have fO := frozen_of hO1
  clear HOc HRc HLc HBc
  have HOc := Lib.hid hO1; have HRc := Lib.hid (heap_keep' hb1 hR); have HLc := Lib.hid (heap_keep' hb1 hL)
  have HBc : Hid (Below w.heap.size w wk3) := below_call HB0 HB0.size hb1
  clear hO hE hR hL HB0 hb1 hW hO1
  go_wp2
  refine NoPanic.normal ?_
  clear cO fO
  have hQ := cells4 (set4 (keep4 (b' := w.heap.size + 1) HRc.out (by omega) (.int .u64 o20) (.int .u64 o21) (.int .u64 o22) (.int .u64 o23)) (.int .u64 o20) (.int .u64 o21) (.int .u64 o22) (.int .u64 o23))
  have cO := cells4 (set4 HOc.out (.int .u64 o20) (.int .u64 o21) (.int .u64 o22) (.int .u64 o23))
  have cR := cells4 HRc.out; have fR := frozen_of HRc.out
  go_wp2
  rw [rounds_succ]
  go_wp2
  refine bodyPost_ret (v := .agg #[.int .u64 o20, .int .u64 o21, .int .u64 o22, .int .u64 o23]) (by simp [results, Try.results23, go_sem, hQ]) rfl ⟨rfl, ?_⟩
  have hb : Below w.heap.size w _ := HBc.out
  go_grown
end Go.Proofs.Ytldnjbpcdojffaa
/- @@NUM 25 The walks of residue's Mul (of one, two, three numbers, and of none). Conditions: words are below 2^64. -/
namespace Go.Proofs.Ytldnjbpcdojffaa
set_option linter.unusedVariables false
set_option linter.unusedSimpArgs false
open Go Go.RowKit
open Pl (V V8 W4 T256 pP)

set_option maxHeartbeats 1000000 in
theorem Mul0_fact : ∃ r0 r1 r2 r3 : Nat, (W4 r0 r1 r2 r3 ∧ V r0 r1 r2 r3 = 1) ∧ ∀ w : World,
    Calls Try.prog 25 #[.slice none 0 0] w fun e w' => e = .returned (.agg #[.int .u64 r0, .int .u64 r1, .int .u64 r2, .int .u64 r3]) ∧ Below w.heap.size w w' := by
  refine ⟨1, 0, 0, 0, ⟨by unfold W4; omega, by decide⟩, fun w => ?_⟩
  go_enter Try.func25, Try.ntmps25
  go_wp2
  refine wp_loop_rounds 1 ?_
  rw [rounds_succ]
  go_wp2
  refine bodyPost_ret (v := .agg #[.int .u64 1, .int .u64 0, .int .u64 0, .int .u64 0]) (by simp [results, Try.results25, go_sem]) rfl ⟨rfl, ?_⟩
  go_grown


set_option maxHeartbeats 4000000 in
theorem Mul1_fact (a0 a1 a2 a3 : Nat) (ha : W4 a0 a1 a2 a3) : ∃ r0 r1 r2 r3 : Nat, (W4 r0 r1 r2 r3 ∧ V r0 r1 r2 r3 = (V a0 a1 a2 a3) % pP) ∧ ∀ (b : Nat) (w : World), w.heap[b]? = some (.cells #[.int .u64 a0, .int .u64 a1, .int .u64 a2, .int .u64 a3] 25 (0, 0)) →
    Calls Try.prog 25 #[.slice (some ⟨b, 0, none⟩) 1 1] w fun e w' => e = .returned (.agg #[.int .u64 r0, .int .u64 r1, .int .u64 r2, .int .u64 r3]) ∧ Below w.heap.size w w' := by
  have hz : W4 1 0 0 0 := by unfold W4; omega
  obtain ⟨o00, o01, o02, o03, ⟨ho0, hov0⟩, FO0⟩ := mul_fact 1 0 0 0 a0 a1 a2 a3 hz ha
  refine ⟨o00, o01, o02, o03, ⟨ho0, ?_⟩, fun b w hL0 => ?_⟩
  · rw [hov0]
    simp only [Nat.mod_mul_mod, Nat.mul_mod_mod, Nat.mod_mod, show V 1 0 0 0 = 1 from by decide, Nat.one_mul]
  have HO0 := Lib.hid FO0
  clear FO0 hov0 ho0 hz ha
  have HL := Lib.hid hL0
  have zl : b < w.heap.size := lt_of_heap hL0
  clear hL0
  go_enter Try.func25, Try.ntmps25
  have cL0 := cells4 HL.out
  go_wp2
  refine wp_loop_rounds 2 ?_
  rw [rounds_succ]
  go_wp2_with (fail)
  go_at_call 48
  refine (HO0.out _).mono ?_
  rintro e wk1 ⟨rfl, hb⟩
  have hO1 : wk1.heap[w.heap.size + 1]? = some (.cells #[.int .u64 1, .int .u64 0, .int .u64 0, .int .u64 0] 25 (0, 0)) := heap_keep' hb (heap_old (heap_new' (by simp) _) _)
  have hR1 : wk1.heap[w.heap.size]? = some (.cells #[.int .u64 0, .int .u64 0, .int .u64 0, .int .u64 0] 25 (0, 0)) := heap_keep' hb (heap_old (heap_old (heap_new _ _) _) _)
  have hL1 : wk1.heap[b]? = some (.cells #[.int .u64 a0, .int .u64 a1, .int .u64 a2, .int .u64 a3] 25 (0, 0)) := heap_keep' hb (heap_old (heap_old (heap_old HL.out _) _) _)
  have HBn : Hid (Below w.heap.size w wk1) := below_call (by go_grown) (by simp; omega) hb
  clear cL0 hb
  have cO := cells4 hO1; have fO := frozen_of hO1; have zO := lt_of_heap hO1
  have HOc := Lib.hid hO1; have HRc := Lib.hid hR1; have HLc := Lib.hid hL1; have HBc := HBn
  clear hO1 hR1 hL1 HBn
  go_wp2
  obtain ⟨v1, hv⟩ : ∃ x : World, x = ((((wk1.setCell ⟨w.heap.size + 1, 0, none⟩ (.int .u64 o00)).setCell ⟨w.heap.size + 1, 1, none⟩ (.int .u64 o01)).setCell ⟨w.heap.size + 1, 2, none⟩ (.int .u64 o02)).setCell ⟨w.heap.size + 1, 3, none⟩ (.int .u64 o03)) := ⟨_, rfl⟩
  rw [← hv]
  have hO1 : v1.heap[w.heap.size + 1]? = some (.cells #[.int .u64 o00, .int .u64 o01, .int .u64 o02, .int .u64 o03] 25 (0, 0)) := by rw [hv]; exact set4 HOc.out _ _ _ _
  have hR1 : v1.heap[w.heap.size]? = some (.cells #[.int .u64 0, .int .u64 0, .int .u64 0, .int .u64 0] 25 (0, 0)) := by rw [hv]; exact keep4 HRc.out (by omega) _ _ _ _
  have hL1 : v1.heap[b]? = some (.cells #[.int .u64 a0, .int .u64 a1, .int .u64 a2, .int .u64 a3] 25 (0, 0)) := by rw [hv]; exact keep4 HLc.out (by omega) _ _ _ _
  have HBn : Hid (Below w.heap.size w v1) := by rw [hv]; exact set4_below HBc.out (by omega) _ _ _ _
  clear HOc HRc HLc HBc cO fO zO hv
  have HOc := Lib.hid hO1; have HRc := Lib.hid hR1; have HLc := Lib.hid hL1; have HBc := HBn
  clear hO1 hR1 hL1 HBn
  have cO := cells4 HOc.out; have cR := cells4 HRc.out; have fR := frozen_of HRc.out
  have hQ := cells4 (set4 HRc.out (.int .u64 o00) (.int .u64 o01) (.int .u64 o02) (.int .u64 o03))
  rw [rounds_succ]
  go_wp2
  refine bodyPost_ret (v := .agg #[.int .u64 o00, .int .u64 o01, .int .u64 o02, .int .u64 o03]) (by simp [results, Try.results25, go_sem, hQ]) rfl ⟨rfl, ?_⟩
  have hb : Below w.heap.size w _ := HBc.out
  go_grown

set_option maxHeartbeats 4000000 in
theorem Mul2_fact (a0 a1 a2 a3 b0 b1 b2 b3 : Nat) (ha : W4 a0 a1 a2 a3) (hb : W4 b0 b1 b2 b3) : ∃ r0 r1 r2 r3 : Nat, (W4 r0 r1 r2 r3 ∧ V r0 r1 r2 r3 = (V a0 a1 a2 a3 * V b0 b1 b2 b3) % pP) ∧ ∀ (b : Nat) (w : World), w.heap[b]? = some (.cells #[.int .u64 a0, .int .u64 a1, .int .u64 a2, .int .u64 a3, .int .u64 b0, .int .u64 b1, .int .u64 b2, .int .u64 b3] 25 (0, 0)) →
    Calls Try.prog 25 #[.slice (some ⟨b, 0, none⟩) 2 2] w fun e w' => e = .returned (.agg #[.int .u64 r0, .int .u64 r1, .int .u64 r2, .int .u64 r3]) ∧ Below w.heap.size w w' := by
  have hz : W4 1 0 0 0 := by unfold W4; omega
  obtain ⟨o00, o01, o02, o03, ⟨ho0, hov0⟩, FO0⟩ := mul_fact 1 0 0 0 a0 a1 a2 a3 hz ha
  obtain ⟨o10, o11, o12, o13, ⟨ho1, hov1⟩, FO1⟩ := mul_fact o00 o01 o02 o03 b0 b1 b2 b3 ho0 hb
  refine ⟨o10, o11, o12, o13, ⟨ho1, ?_⟩, fun b w hL0 => ?_⟩
  · rw [hov1, hov0]
    simp only [Nat.mod_mul_mod, Nat.mul_mod_mod, Nat.mod_mod, show V 1 0 0 0 = 1 from by decide, Nat.one_mul]
  have HO0 := Lib.hid FO0
  have HO1 := Lib.hid FO1
  clear FO0 FO1 hov1 ho1 hov0 ho0 hz ha hb
  have HL := Lib.hid hL0
  have zl : b < w.heap.size := lt_of_heap hL0
  clear hL0
  go_enter Try.func25, Try.ntmps25
  have cL0 := cells8 HL.out
  go_wp2
  refine wp_loop_rounds 3 ?_
  rw [rounds_succ]
  go_wp2_with (fail)
  go_at_call 48
  refine (HO0.out _).mono ?_
  rintro e wk1 ⟨rfl, hb⟩
  have hO1 : wk1.heap[w.heap.size + 1]? = some (.cells #[.int .u64 1, .int .u64 0, .int .u64 0, .int .u64 0] 25 (0, 0)) := heap_keep' hb (heap_old (heap_new' (by simp) _) _)
  have hR1 : wk1.heap[w.heap.size]? = some (.cells #[.int .u64 0, .int .u64 0, .int .u64 0, .int .u64 0] 25 (0, 0)) := heap_keep' hb (heap_old (heap_old (heap_new _ _) _) _)
  have hL1 : wk1.heap[b]? = some (.cells #[.int .u64 a0, .int .u64 a1, .int .u64 a2, .int .u64 a3, .int .u64 b0, .int .u64 b1, .int .u64 b2, .int .u64 b3] 25 (0, 0)) := heap_keep' hb (heap_old (heap_old (heap_old HL.out _) _) _)
  have HBn : Hid (Below w.heap.size w wk1) := below_call (by go_grown) (by simp; omega) hb
  clear cL0 hb
  have cO := cells4 hO1; have fO := frozen_of hO1; have zO := lt_of_heap hO1
  have HOc := Lib.hid hO1; have HRc := Lib.hid hR1; have HLc := Lib.hid hL1; have HBc := HBn
  clear hO1 hR1 hL1 HBn
  go_wp2
  obtain ⟨v1, hv⟩ : ∃ x : World, x = ((((wk1.setCell ⟨w.heap.size + 1, 0, none⟩ (.int .u64 o00)).setCell ⟨w.heap.size + 1, 1, none⟩ (.int .u64 o01)).setCell ⟨w.heap.size + 1, 2, none⟩ (.int .u64 o02)).setCell ⟨w.heap.size + 1, 3, none⟩ (.int .u64 o03)) := ⟨_, rfl⟩
  rw [← hv]
  have hO1 : v1.heap[w.heap.size + 1]? = some (.cells #[.int .u64 o00, .int .u64 o01, .int .u64 o02, .int .u64 o03] 25 (0, 0)) := by rw [hv]; exact set4 HOc.out _ _ _ _
  have hR1 : v1.heap[w.heap.size]? = some (.cells #[.int .u64 0, .int .u64 0, .int .u64 0, .int .u64 0] 25 (0, 0)) := by rw [hv]; exact keep4 HRc.out (by omega) _ _ _ _
  have hL1 : v1.heap[b]? = some (.cells #[.int .u64 a0, .int .u64 a1, .int .u64 a2, .int .u64 a3, .int .u64 b0, .int .u64 b1, .int .u64 b2, .int .u64 b3] 25 (0, 0)) := by rw [hv]; exact keep4 HLc.out (by omega) _ _ _ _
  have HBn : Hid (Below w.heap.size w v1) := by rw [hv]; exact set4_below HBc.out (by omega) _ _ _ _
  clear HOc HRc HLc HBc cO fO zO hv
  have HOc := Lib.hid hO1; have HRc := Lib.hid hR1; have HLc := Lib.hid hL1; have HBc := HBn
  clear hO1 hR1 hL1 HBn
  have cL := cells8 HLc.out; have zL := lt_of_heap HLc.out; have cO := cells4 HOc.out; have zO := lt_of_heap HOc.out
  rw [rounds_succ]
  go_wp2_with (fail)
  go_at_call 48
  refine (HO1.out _).mono ?_
  rintro e wk2 ⟨rfl, hb⟩
  have hO1 : wk2.heap[w.heap.size + 1]? = some (.cells #[.int .u64 o00, .int .u64 o01, .int .u64 o02, .int .u64 o03] 25 (0, 0)) := heap_keep' hb (heap_old HOc.out _)
  have hR1 : wk2.heap[w.heap.size]? = some (.cells #[.int .u64 0, .int .u64 0, .int .u64 0, .int .u64 0] 25 (0, 0)) := heap_keep' hb (heap_old HRc.out _)
  have hL1 : wk2.heap[b]? = some (.cells #[.int .u64 a0, .int .u64 a1, .int .u64 a2, .int .u64 a3, .int .u64 b0, .int .u64 b1, .int .u64 b2, .int .u64 b3] 25 (0, 0)) := heap_keep' hb (heap_old HLc.out _)
  have HBn : Hid (Below w.heap.size w wk2) := below_call (HBc.out.alloc HBc.out.size _) (by have := HBc.out.size; rw [World.size_alloc]; omega) hb
  clear HOc HRc HLc HBc hb cO zO
  have cO := cells4 hO1; have fO := frozen_of hO1; have zO := lt_of_heap hO1
  have HOc := Lib.hid hO1; have HRc := Lib.hid hR1; have HLc := Lib.hid hL1; have HBc := HBn
  clear hO1 hR1 hL1 HBn
  go_wp2
  clear cL zL
  obtain ⟨v2, hv⟩ : ∃ x : World, x = ((((wk2.setCell ⟨w.heap.size + 1, 0, none⟩ (.int .u64 o10)).setCell ⟨w.heap.size + 1, 1, none⟩ (.int .u64 o11)).setCell ⟨w.heap.size + 1, 2, none⟩ (.int .u64 o12)).setCell ⟨w.heap.size + 1, 3, none⟩ (.int .u64 o13)) := ⟨_, rfl⟩
  rw [← hv]
  have hO1 : v2.heap[w.heap.size + 1]? = some (.cells #[.int .u64 o10, .int .u64 o11, .int .u64 o12, .int .u64 o13] 25 (0, 0)) := by rw [hv]; exact set4 HOc.out _ _ _ _
  have hR1 : v2.heap[w.heap.size]? = some (.cells #[.int .u64 0, .int .u64 0, .int .u64 0, .int .u64 0] 25 (0, 0)) := by rw [hv]; exact keep4 HRc.out (by omega) _ _ _ _
  have hL1 : v2.heap[b]? = some (.cells #[.int .u64 a0, .int .u64 a1, .int .u64 a2, .int .u64 a3, .int .u64 b0, .int .u64 b1, .int .u64 b2, .int .u64 b3] 25 (0, 0)) := by rw [hv]; exact keep4 HLc.out (by omega) _ _ _ _
  have HBn : Hid (Below w.heap.size w v2) := by rw [hv]; exact set4_below HBc.out (by omega) _ _ _ _
  clear HOc HRc HLc HBc cO fO zO hv
  have HOc := Lib.hid hO1; have HRc := Lib.hid hR1; have HLc := Lib.hid hL1; have HBc := HBn
  clear hO1 hR1 hL1 HBn
  have cO := cells4 HOc.out; have cR := cells4 HRc.out; have fR := frozen_of HRc.out
  have hQ := cells4 (set4 HRc.out (.int .u64 o10) (.int .u64 o11) (.int .u64 o12) (.int .u64 o13))
  rw [rounds_succ]
  go_wp2
  refine bodyPost_ret (v := .agg #[.int .u64 o10, .int .u64 o11, .int .u64 o12, .int .u64 o13]) (by simp [results, Try.results25, go_sem, hQ]) rfl ⟨rfl, ?_⟩
  have hb : Below w.heap.size w _ := HBc.out
  go_grown

set_option maxHeartbeats 4000000 in
theorem Mul3_fact (a0 a1 a2 a3 b0 b1 b2 b3 c0 c1 c2 c3 : Nat) (ha : W4 a0 a1 a2 a3) (hb : W4 b0 b1 b2 b3) (hc : W4 c0 c1 c2 c3) : ∃ r0 r1 r2 r3 : Nat, (W4 r0 r1 r2 r3 ∧ V r0 r1 r2 r3 = (V a0 a1 a2 a3 * V b0 b1 b2 b3 * V c0 c1 c2 c3) % pP) ∧ ∀ (b : Nat) (w : World), w.heap[b]? = some (.cells #[.int .u64 a0, .int .u64 a1, .int .u64 a2, .int .u64 a3, .int .u64 b0, .int .u64 b1, .int .u64 b2, .int .u64 b3, .int .u64 c0, .int .u64 c1, .int .u64 c2, .int .u64 c3] 25 (0, 0)) →
    Calls Try.prog 25 #[.slice (some ⟨b, 0, none⟩) 3 3] w fun e w' => e = .returned (.agg #[.int .u64 r0, .int .u64 r1, .int .u64 r2, .int .u64 r3]) ∧ Below w.heap.size w w' := by
  have hz : W4 1 0 0 0 := by unfold W4; omega
  obtain ⟨o00, o01, o02, o03, ⟨ho0, hov0⟩, FO0⟩ := mul_fact 1 0 0 0 a0 a1 a2 a3 hz ha
  obtain ⟨o10, o11, o12, o13, ⟨ho1, hov1⟩, FO1⟩ := mul_fact o00 o01 o02 o03 b0 b1 b2 b3 ho0 hb
  obtain ⟨o20, o21, o22, o23, ⟨ho2, hov2⟩, FO2⟩ := mul_fact o10 o11 o12 o13 c0 c1 c2 c3 ho1 hc
  refine ⟨o20, o21, o22, o23, ⟨ho2, ?_⟩, fun b w hL0 => ?_⟩
  · rw [hov2, hov1, hov0]
    simp only [Nat.mod_mul_mod, Nat.mul_mod_mod, Nat.mod_mod, show V 1 0 0 0 = 1 from by decide, Nat.one_mul]
  have HO0 := Lib.hid FO0
  have HO1 := Lib.hid FO1
  have HO2 := Lib.hid FO2
  clear FO0 FO1 FO2 hov2 ho2 hov1 ho1 hov0 ho0 hz ha hb hc
  have HL := Lib.hid hL0
  have zl : b < w.heap.size := lt_of_heap hL0
  clear hL0
  go_enter Try.func25, Try.ntmps25
  have cL0 := cells12 HL.out
  go_wp2
  refine wp_loop_rounds 4 ?_
  rw [rounds_succ]
  go_wp2_with (fail)
  go_at_call 48
  refine (HO0.out _).mono ?_
  rintro e wk1 ⟨rfl, hb⟩
  have hO1 : wk1.heap[w.heap.size + 1]? = some (.cells #[.int .u64 1, .int .u64 0, .int .u64 0, .int .u64 0] 25 (0, 0)) := heap_keep' hb (heap_old (heap_new' (by simp) _) _)
  have hR1 : wk1.heap[w.heap.size]? = some (.cells #[.int .u64 0, .int .u64 0, .int .u64 0, .int .u64 0] 25 (0, 0)) := heap_keep' hb (heap_old (heap_old (heap_new _ _) _) _)
  have hL1 : wk1.heap[b]? = some (.cells #[.int .u64 a0, .int .u64 a1, .int .u64 a2, .int .u64 a3, .int .u64 b0, .int .u64 b1, .int .u64 b2, .int .u64 b3, .int .u64 c0, .int .u64 c1, .int .u64 c2, .int .u64 c3] 25 (0, 0)) := heap_keep' hb (heap_old (heap_old (heap_old HL.out _) _) _)
  have HBn : Hid (Below w.heap.size w wk1) := below_call (by go_grown) (by simp; omega) hb
  clear cL0 hb
  have cO := cells4 hO1; have fO := frozen_of hO1; have zO := lt_of_heap hO1
  have HOc := Lib.hid hO1; have HRc := Lib.hid hR1; have HLc := Lib.hid hL1; have HBc := HBn
  clear hO1 hR1 hL1 HBn
  go_wp2
  obtain ⟨v1, hv⟩ : ∃ x : World, x = ((((wk1.setCell ⟨w.heap.size + 1, 0, none⟩ (.int .u64 o00)).setCell ⟨w.heap.size + 1, 1, none⟩ (.int .u64 o01)).setCell ⟨w.heap.size + 1, 2, none⟩ (.int .u64 o02)).setCell ⟨w.heap.size + 1, 3, none⟩ (.int .u64 o03)) := ⟨_, rfl⟩
  rw [← hv]
  have hO1 : v1.heap[w.heap.size + 1]? = some (.cells #[.int .u64 o00, .int .u64 o01, .int .u64 o02, .int .u64 o03] 25 (0, 0)) := by rw [hv]; exact set4 HOc.out _ _ _ _
  have hR1 : v1.heap[w.heap.size]? = some (.cells #[.int .u64 0, .int .u64 0, .int .u64 0, .int .u64 0] 25 (0, 0)) := by rw [hv]; exact keep4 HRc.out (by omega) _ _ _ _
  have hL1 : v1.heap[b]? = some (.cells #[.int .u64 a0, .int .u64 a1, .int .u64 a2, .int .u64 a3, .int .u64 b0, .int .u64 b1, .int .u64 b2, .int .u64 b3, .int .u64 c0, .int .u64 c1, .int .u64 c2, .int .u64 c3] 25 (0, 0)) := by rw [hv]; exact keep4 HLc.out (by omega) _ _ _ _
  have HBn : Hid (Below w.heap.size w v1) := by rw [hv]; exact set4_below HBc.out (by omega) _ _ _ _
  clear HOc HRc HLc HBc cO fO zO hv
  have HOc := Lib.hid hO1; have HRc := Lib.hid hR1; have HLc := Lib.hid hL1; have HBc := HBn
  clear hO1 hR1 hL1 HBn
  have cL := cells12 HLc.out; have zL := lt_of_heap HLc.out; have cO := cells4 HOc.out; have zO := lt_of_heap HOc.out
  rw [rounds_succ]
  go_wp2_with (fail)
  go_at_call 48
  refine (HO1.out _).mono ?_
  rintro e wk2 ⟨rfl, hb⟩
  have hO1 : wk2.heap[w.heap.size + 1]? = some (.cells #[.int .u64 o00, .int .u64 o01, .int .u64 o02, .int .u64 o03] 25 (0, 0)) := heap_keep' hb (heap_old HOc.out _)
  have hR1 : wk2.heap[w.heap.size]? = some (.cells #[.int .u64 0, .int .u64 0, .int .u64 0, .int .u64 0] 25 (0, 0)) := heap_keep' hb (heap_old HRc.out _)
  have hL1 : wk2.heap[b]? = some (.cells #[.int .u64 a0, .int .u64 a1, .int .u64 a2, .int .u64 a3, .int .u64 b0, .int .u64 b1, .int .u64 b2, .int .u64 b3, .int .u64 c0, .int .u64 c1, .int .u64 c2, .int .u64 c3] 25 (0, 0)) := heap_keep' hb (heap_old HLc.out _)
  have HBn : Hid (Below w.heap.size w wk2) := below_call (HBc.out.alloc HBc.out.size _) (by have := HBc.out.size; rw [World.size_alloc]; omega) hb
  clear HOc HRc HLc HBc hb cO zO
  have cO := cells4 hO1; have fO := frozen_of hO1; have zO := lt_of_heap hO1
  have HOc := Lib.hid hO1; have HRc := Lib.hid hR1; have HLc := Lib.hid hL1; have HBc := HBn
  clear hO1 hR1 hL1 HBn
  go_wp2
  clear cL zL
  obtain ⟨v2, hv⟩ : ∃ x : World, x = ((((wk2.setCell ⟨w.heap.size + 1, 0, none⟩ (.int .u64 o10)).setCell ⟨w.heap.size + 1, 1, none⟩ (.int .u64 o11)).setCell ⟨w.heap.size + 1, 2, none⟩ (.int .u64 o12)).setCell ⟨w.heap.size + 1, 3, none⟩ (.int .u64 o13)) := ⟨_, rfl⟩
  rw [← hv]
  have hO1 : v2.heap[w.heap.size + 1]? = some (.cells #[.int .u64 o10, .int .u64 o11, .int .u64 o12, .int .u64 o13] 25 (0, 0)) := by rw [hv]; exact set4 HOc.out _ _ _ _
  have hR1 : v2.heap[w.heap.size]? = some (.cells #[.int .u64 0, .int .u64 0, .int .u64 0, .int .u64 0] 25 (0, 0)) := by rw [hv]; exact keep4 HRc.out (by omega) _ _ _ _
  have hL1 : v2.heap[b]? = some (.cells #[.int .u64 a0, .int .u64 a1, .int .u64 a2, .int .u64 a3, .int .u64 b0, .int .u64 b1, .int .u64 b2, .int .u64 b3, .int .u64 c0, .int .u64 c1, .int .u64 c2, .int .u64 c3] 25 (0, 0)) := by rw [hv]; exact keep4 HLc.out (by omega) _ _ _ _
  have HBn : Hid (Below w.heap.size w v2) := by rw [hv]; exact set4_below HBc.out (by omega) _ _ _ _
  clear HOc HRc HLc HBc cO fO zO hv
  have HOc := Lib.hid hO1; have HRc := Lib.hid hR1; have HLc := Lib.hid hL1; have HBc := HBn
  clear hO1 hR1 hL1 HBn
  have cL := cells12 HLc.out; have zL := lt_of_heap HLc.out; have cO := cells4 HOc.out; have zO := lt_of_heap HOc.out
  rw [rounds_succ]
  go_wp2_with (fail)
  go_at_call 48
  refine (HO2.out _).mono ?_
  rintro e wk3 ⟨rfl, hb⟩
  have hO1 : wk3.heap[w.heap.size + 1]? = some (.cells #[.int .u64 o10, .int .u64 o11, .int .u64 o12, .int .u64 o13] 25 (0, 0)) := heap_keep' hb (heap_old HOc.out _)
  have hR1 : wk3.heap[w.heap.size]? = some (.cells #[.int .u64 0, .int .u64 0, .int .u64 0, .int .u64 0] 25 (0, 0)) := heap_keep' hb (heap_old HRc.out _)
  have hL1 : wk3.heap[b]? = some (.cells #[.int .u64 a0, .int .u64 a1, .int .u64 a2, .int .u64 a3, .int .u64 b0, .int .u64 b1, .int .u64 b2, .int .u64 b3, .int .u64 c0, .int .u64 c1, .int .u64 c2, .int .u64 c3] 25 (0, 0)) := heap_keep' hb (heap_old HLc.out _)
  have HBn : Hid (Below w.heap.size w wk3) := below_call (HBc.out.alloc HBc.out.size _) (by have := HBc.out.size; rw [World.size_alloc]; omega) hb
  clear HOc HRc HLc HBc hb cO zO
  have cO := cells4 hO1; have fO := frozen_of hO1; have zO := lt_of_heap hO1
  have HOc := Lib.hid hO1; have HRc := Lib.hid hR1; have HLc := Lib.hid hL1; have HBc := HBn
  clear hO1 hR1 hL1 HBn
  go_wp2
  clear cL zL
  obtain ⟨v3, hv⟩ : ∃ x : World, x = ((((wk3.setCell ⟨w.heap.size + 1, 0, none⟩ (.int .u64 o20)).setCell ⟨w.heap.size + 1, 1, none⟩ (.int .u64 o21)).setCell ⟨w.heap.size + 1, 2, none⟩ (.int .u64 o22)).setCell ⟨w.heap.size + 1, 3, none⟩ (.int .u64 o23)) := ⟨_, rfl⟩
  rw [← hv]
  have hO1 : v3.heap[w.heap.size + 1]? = some (.cells #[.int .u64 o20, .int .u64 o21, .int .u64 o22, .int .u64 o23] 25 (0, 0)) := by rw [hv]; exact set4 HOc.out _ _ _ _
  have hR1 : v3.heap[w.heap.size]? = some (.cells #[.int .u64 0, .int .u64 0, .int .u64 0, .int .u64 0] 25 (0, 0)) := by rw [hv]; exact keep4 HRc.out (by omega) _ _ _ _
  have hL1 : v3.heap[b]? = some (.cells #[.int .u64 a0, .int .u64 a1, .int .u64 a2, .int .u64 a3, .int .u64 b0, .int .u64 b1, .int .u64 b2, .int .u64 b3, .int .u64 c0, .int .u64 c1, .int .u64 c2, .int .u64 c3] 25 (0, 0)) := by rw [hv]; exact keep4 HLc.out (by omega) _ _ _ _
  have HBn : Hid (Below w.heap.size w v3) := by rw [hv]; exact set4_below HBc.out (by omega) _ _ _ _
  clear HOc HRc HLc HBc cO fO zO hv
  have HOc := Lib.hid hO1; have HRc := Lib.hid hR1; have HLc := Lib.hid hL1; have HBc := HBn
  clear hO1 hR1 hL1 HBn
  have cO := cells4 HOc.out; have cR := cells4 HRc.out; have fR := frozen_of HRc.out
  have hQ := cells4 (set4 HRc.out (.int .u64 o20) (.int .u64 o21) (.int .u64 o22) (.int .u64 o23))
  rw [rounds_succ]
  go_wp2
  refine bodyPost_ret (v := .agg #[.int .u64 o20, .int .u64 o21, .int .u64 o22, .int .u64 o23]) (by simp [results, Try.results25, go_sem, hQ]) rfl ⟨rfl, ?_⟩
  have hb : Below w.heap.size w _ := HBc.out
  go_grown
end Go.Proofs.Ytldnjbpcdojffaa
/- @@NUM 25 The walk of law 08's awake: the prime answers as a prime should. Conditions: none. -/
namespace Go.Proofs.Ytldnjbpcdojffaa
set_option linter.unusedVariables false
set_option linter.unusedSimpArgs false
open Go Go.RowKit
open Pl (V V8 W4 T256 pP)

attribute [local go_sem ↓] eql_num neq_num
set_option maxHeartbeats 2000000 in
theorem awake_fact : ∀ w : World, Calls Try.prog 13 #[] w fun e w' => e = .returned (.bool true) ∧ Below w.heap.size w w' := by
  obtain ⟨p0, p1, p2, p3, hp, FP⟩ := prime_fact
  have h1 : W4 1 0 0 0 := by unfold W4; omega
  have h2 : W4 2 0 0 0 := by unfold W4; omega
  obtain ⟨s0, s1, s2, s3, ⟨hs, hsv⟩, FS⟩ := Sub_fact p0 p1 p2 p3 1 0 0 0 hp.1 h1
  obtain ⟨a0, a1, a2, a3, ⟨ha, hav⟩, FA⟩ := Add2_fact s0 s1 s2 s3 2 0 0 0 hs h2
  obtain ⟨z, hz, FZ⟩ := zero_fact p0 p1 p2 p3
  have hzf : z = false := by
    cases z
    · rfl
    · have := hz.1 rfl; rw [hp.2] at this; have := pP_pos; omega
  have hE : eqL [(a0 : Int), a1, a2, a3] [1, 0, 0, 0] = true := by
    refine (eqL_V ha h1).2 ?_
    rw [hav, hsv, hp.2]
    decide +kernel
  subst hzf
  have HP := Lib.hid FP; have HS := Lib.hid FS; have HA := Lib.hid FA; have HZ := Lib.hid FZ
  clear FP FS FA FZ hz hav ha hsv hs hp h1 h2
  intro w
  go_enter Try.func13, Try.ntmps13
  go_wp2_with (fail)
  go_at_call 24
  refine (HP.out _).mono ?_
  rintro e w1 ⟨rfl, hb⟩
  have HB1 : Hid (Below w.heap.size w w1) := Lib.hid (below_call (by go_grown) (by simp) hb)
  clear hb
  go_wp2_with (fail)
  go_at_call 26
  refine (HS.out _).mono ?_
  rintro e w2 ⟨rfl, hb⟩
  have HB2 : Hid (Below w.heap.size w w2) := Lib.hid (below_call (by have := HB1.out; have := HB1.out.size; go_grown) (by have := HB1.out.size; simp; omega) hb)
  have HP2 := Lib.hid (heap_keep' hb (heap_new _ _))
  clear hb
  go_wp2_with (fail)
  go_at_call 23
  refine (HA.out _ _ (heap_new _ _)).mono ?_
  rintro e w3 ⟨rfl, hb⟩
  have HB3 : Hid (Below w.heap.size w w3) := Lib.hid (below_call (by have := HB2.out; have := HB2.out.size; go_grown) (by have := HB2.out.size; simp; omega) hb)
  have HP3 := Lib.hid (heap_keep' hb (heap_old HP2.out _))
  clear hb HP2
  have cP := cells4 HP3.out
  go_wp2_with (fail)
  go_at_call 15
  refine (HZ.out _).mono ?_
  rintro e w4 ⟨rfl, hb⟩
  have HB4 : Hid (Below w.heap.size w w4) := Lib.hid (below_call (by have := HB3.out; have := HB3.out.size; go_grown) (by have := HB3.out.size; first | exact this | (simp; omega)) hb)
  clear hb
  go_wp2
  go_ret
  refine ⟨rfl, ?_⟩
  have := HB4.out; have := HB4.out.size
  go_grown

end Go.Proofs.Ytldnjbpcdojffaa
/- Opening a number's four words and a row of bytes at a law's call. Conditions: none. -/
namespace Go.Proofs.Ytldnjbpcdojffaa
set_option linter.unusedVariables false
set_option linter.unusedSimpArgs false
open Go Go.ChangeShapes Go.WideShapes Go.ChangeAt Go.RowKit
open Pl (W4)

theorem own_ : ownKnob Try.prog.godebug = none := by kernel_rfl
theorem laidOut_ : laidOutB Try.prog = true := by kernel_rfl
theorem cells_num : Try.prog.cellsOf 25 = 4 := by kernel_rfl
theorem cells_u64 : Try.prog.cellsOf 23 = 1 := by kernel_rfl
theorem array_four {α : Type} {cs : Array α} (h : cs.size = 4) : ∃ c0 c1 c2 c3, cs = #[c0, c1, c2, c3] := by
  obtain ⟨l⟩ := cs
  match l, h with
  | [a, b, c, d], _ => exact ⟨a, b, c, d, rfl⟩
theorem nat_of_wf {x : Int} (h : (Lit.int .u64 x).wf = true) : ∃ n : Nat, n < 18446744073709551616 ∧ x = (n : Int) := by
  have h := bounds_u64 h
  exact ⟨x.toNat, by omega, by omega⟩

set_option maxRecDepth 100000 in
/-- A number that comes in: four words. -/
theorem open_num {H : Type} {enc : TypeId × Value → H} {W : World} {base : Nat} {b0 : Nat} {spare : Nat → Bool} {held : Bool} {v : Value} {d : DataW H} {ps : List MemPlace}
    (hval : Value.okWide Try.prog W .any b0 25 v) (h : DataW.Trod enc Try.prog W base spare held 25 v d ps) :
    ∃ a0 a1 a2 a3 : Nat, W4 a0 a1 a2 a3 ∧ v = .agg #[.int .u64 a0, .int .u64 a1, .int .u64 a2, .int .u64 a3] := by
  obtain ⟨cs, rfl, hsz, _⟩ : ∃ cs, v = .agg cs ∧ cs.size = Try.prog.cellsOf 25 ∧ Row.okWide Try.prog W .any b0 25 cs := by
    simpa [Value.okWide, Try.underlying25] using hval
  rw [cells_num] at hsz
  obtain ⟨c0, c1, c2, c3, rfl⟩ := array_four hsz
  obtain ⟨fuel, hf⟩ := h
  obtain ⟨y0, y1, y2, y3, m, hx, hy0, hy1, hy2, hy3⟩ := trod_array4 Try.underlying25 cells_u64 hf
  obtain ⟨x0, e0, rfl, w0⟩ := DataW.trod_int Try.underlying23 hy0
  obtain ⟨x1, e1, rfl, w1⟩ := DataW.trod_int Try.underlying23 hy1
  obtain ⟨x2, e2, rfl, w2⟩ := DataW.trod_int Try.underlying23 hy2
  obtain ⟨x3, e3, rfl, w3⟩ := DataW.trod_int Try.underlying23 hy3
  simp at e0 e1 e2 e3
  subst e0 e1 e2 e3
  obtain ⟨a0, l0, rfl⟩ := nat_of_wf w0
  obtain ⟨a1, l1, rfl⟩ := nat_of_wf w1
  obtain ⟨a2, l2, rfl⟩ := nat_of_wf w2
  obtain ⟨a3, l3, rfl⟩ := nat_of_wf w3
  exact ⟨a0, a1, a2, a3, ⟨l0, l1, l2, l3⟩, rfl⟩

/-- What is known of a row of integers that came in. -/
def IsRow (k : IntKind) (w : World) (a : Option Addr) (len cap : Nat) (zs : List Int) : Prop :=
  (a = none ∧ len = 0 ∧ cap = 0 ∧ zs = []) ∨
  ∃ x, a = some x ∧ len ≤ cap ∧ cap ≤ maxLen ∧ zs.length = cap ∧ (∀ i, i < zs.length → w.cell? (x.add i) = some (.int k (zs.getD i 0))) ∧ ∀ n ∈ zs, (Lit.int k n).wf = true

end Go.Proofs.Ytldnjbpcdojffaa
/- @@NUM 25 The walk of law 08's ResidueBytes. Conditions: words are below 2^64. -/
namespace Go.Proofs.Ytldnjbpcdojffaa
set_option linter.unusedVariables false
set_option linter.unusedSimpArgs false
open Go Go.RowKit
open Pl (V V8 W4 T256 le bytesOf)
open Dg (nv dg Ok)

set_option maxHeartbeats 2000000 in
theorem rb_A (n0 n1 n2 n3 m0 m1 m2 m3 : Nat) (sa : Option Addr) (len cap : Nat) (hl1 : (100 : Int) < (len : Int)) (w : World) : Calls Try.prog 3 #[.slice sa len cap, .agg #[.int .u64 n0, .int .u64 n1, .int .u64 n2, .int .u64 n3], .agg #[.int .u64 m0, .int .u64 m1, .int .u64 m2, .int .u64 m3]] w fun e w' => e = .returned (.bool true) ∧ Below w.heap.size w w' := by
  have H0 := Lib.hid awake_fact
  go_enter Try.func3, Try.ntmps3
  go_wp2_with (fail)
  go_at_call 13
  refine (H0.out _).mono ?_
  rintro e wa ⟨rfl, hb⟩
  have HBn : Hid (Below w.heap.size w wa) := Lib.hid ((fun (h : Below _ _ _) => below_call h h.size hb) (by first | go_grown))
  clear hb
  have HB := HBn; clear HBn
  go_wp2_with (fail)
  go_at_call 13
  refine (H0.out _).mono ?_
  rintro e wb ⟨rfl, hb⟩
  have HBn : Hid (Below w.heap.size w wb) := Lib.hid ((fun (h : Below _ _ _) => below_call h h.size hb) (by have hB0 := HB.out; have hS0 := hB0.size; first | (with_reducible exact hB0) | (with_reducible exact set4_below hB0 (by omega) _ _ _ _) | (with_reducible exact set4_below (set4_below hB0 (by omega) _ _ _ _) (by omega) _ _ _ _) | (with_reducible exact set4_below (set4_below (set4_below (set4_below hB0 (by omega) _ _ _ _) (by omega) _ _ _ _) (by omega) _ _ _ _) (by omega) _ _ _ _) | go_grown))
  clear hb HB
  have HB := HBn; clear HBn
  go_wp2
  go_ret
  refine ⟨rfl, ?_⟩
  have hB0 := HB.out; have hS0 := hB0.size; first | exact hB0 | go_grown

theorem bts_row {w : World} {a : Option Addr} {len cap : Nat} {zs : List Int} (h : IsRow .u8 w a len cap zs) (hl : 0 < len) : ∃ bs : List Nat, bs.length = len ∧ (∀ x ∈ bs, x < 256) ∧ Bts w.heap.size w (.slice a len cap) bs := by
  rcases h with ⟨rfl, rfl, rfl, rfl⟩ | ⟨x, rfl, hlc, hcm, hzl, hcell, hwf⟩
  · omega
  · have hb : ∀ i, i < zs.length → 0 ≤ zs.getD i 0 ∧ zs.getD i 0 < 256 := fun i hi => by
      have h1 := hwf _ (List.getElem_mem hi)
      have h2 := bounds_u8 h1
      have e : zs.getD i 0 = zs[i] := by simp [hi]
      rw [e]; omega
    refine ⟨(List.range len).map fun i => (zs.getD i 0).toNat, by simp, fun y hy => ?_, .inr ⟨x, cap, by simp, ?_, fun j hj => ?_⟩⟩
    · simp only [List.mem_map, List.mem_range] at hy
      obtain ⟨i, hi, rfl⟩ := hy
      have := hb i (by omega)
      omega
    · have h1 := hcell 0 (by omega)
      have h2 := World.block_lt_of_cell? w _ h1
      rw [add_block] at h2
      exact h2
    · have hj' : j < len := by simpa using hj
      rw [hcell j (by omega)]
      have := hb j (by omega)
      simp only [List.getElem?_map, List.getElem?_range hj', Option.map_some, Option.getD_some]
      rw [show (((zs.getD j 0).toNat : Nat) : Int) = zs.getD j 0 by omega]

theorem rbytes_fact (n0 n1 n2 n3 m0 m1 m2 m3 : Nat) (hn : W4 n0 n1 n2 n3) (hm : W4 m0 m1 m2 m3) (sa : Option Addr) (len cap : Nat) (zs : List Int) (w : World) (hrow : IsRow .u8 w sa len cap zs) : Calls Try.prog 3 #[.slice sa len cap, .agg #[.int .u64 n0, .int .u64 n1, .int .u64 n2, .int .u64 n3], .agg #[.int .u64 m0, .int .u64 m1, .int .u64 m2, .int .u64 m3]] w fun e w' => e = .returned (.bool true) ∧ Below w.heap.size w w' := by
  by_cases hbig : 100 < len
  · exact rb_A n0 n1 n2 n3 m0 m1 m2 m3 sa len cap (by omega) w
  have ldn := dg_num n0 n1 n2 n3 hn
  have ldm := dg_num m0 m1 m2 m3 hm
  have HBn := Bytes_bt n0 n1 n2 n3 hn
  have HRn := Ref_fact n0 n1 n2 n3 hn
  have HRm := Ref_fact m0 m1 m2 m3 hm
  have HRB := RBytes_bt (V n0 n1 n2 n3) (by omega)
  obtain ⟨z1, hz1, HL⟩ := less_fact n0 n1 n2 n3 m0 m1 m2 m3 hn hm
  have HRL := fun sa sb w hA hB => Less_fact (dg (V n0 n1 n2 n3)) (dg (V m0 m1 m2 m3)) (Dg.dg_ok _) (Dg.dg_ok _) (by omega) (by omega) sa sb w hA hB
  have hz : decide (nv (dg (V n0 n1 n2 n3)) < nv (dg (V m0 m1 m2 m3))) = z1 := by
    rw [Dg.nv_dg, Dg.nv_dg]
    cases z1
    · exact decide_eq_false (fun h => by have := hz1.2 (by omega); cases this)
    · exact decide_eq_true (by have := hz1.1 rfl; omega)
  rw [hz] at HRL
  obtain ⟨z2, hz2, HZ⟩ := zero_fact n0 n1 n2 n3
  have hL : (z2 = true → (dg (V n0 n1 n2 n3)).length = 0) ∧ (z2 = false → ¬ (dg (V n0 n1 n2 n3)).length = 0) := by
    refine ⟨fun h => ?_, fun h e => ?_⟩
    · rw [hz2.1 h, Dg.dg_zero]; rfl
    · have := hz2.2 (dg_nil e)
      rw [h] at this; cases this
  have hnil : ∀ l : List Int, (l.length = 0 → l = []) ∧ (¬ l.length = 0 → ¬ l = []) := fun l => ⟨List.eq_nil_of_length_eq_zero, fun h e => h (by rw [e]; rfl)⟩
  by_cases h32 : len = 32
  · subst h32
    obtain ⟨bs, hbl, hbs, hI⟩ := bts_row hrow (by omega)
    obtain ⟨x0, x1, x2, x3, ⟨hx, hxv⟩, HOf⟩ := Of_fact bs hbs hbl
    have HROf := fun sv w hI => ROf_fact bs hbs (by omega) sv w hI
    have hll : (dg (le bs)).length ≤ 16 := by rw [← hxv]; exact dg_num _ _ _ _ hx
    have His := fun sv w hI => is_fact x0 x1 x2 x3 hx (dg (le bs)) (Dg.dg_ok _) (by omega) sv w hI
    rw [Dg.nv_dg, decide_eq_true (show (V x0 x1 x2 x3 : Int) = (le bs : Int) by rw [hxv])] at His
    have HBx := Bytes_bt x0 x1 x2 x3 hx
    rw [hxv, show bytesOf 32 (le bs) = bs by rw [← hbl]; exact Pl.bytesOf_le bs hbs] at HBx
    cases z2
    · have h1 := hL.2 rfl
      exact rb_C0 n0 n1 n2 n3 m0 m1 m2 m3 x0 x1 x2 x3 bs _ _ _ _ z1 sa cap awake_fact HBn HRn HRm HRB HL HRL HZ h1 ((hnil _).2 h1) w hI HOf HROf His HBx
    · have h1 := hL.1 rfl
      exact rb_C1 n0 n1 n2 n3 m0 m1 m2 m3 x0 x1 x2 x3 bs _ _ _ _ z1 sa cap awake_fact HBn HRn HRm HRB HL HRL HZ h1 ((hnil _).1 h1) w hI HOf HROf His HBx
  · have HOf := Of_bad sa len cap (by omega) h32
    obtain ⟨y, hy, HZ0⟩ := zero_fact 0 0 0 0
    obtain rfl : y = true := hy.2 (by unfold V; omega)
    cases z2
    · have h1 := hL.2 rfl
      exact rb_B0 n0 n1 n2 n3 m0 m1 m2 m3 0 0 0 0 [] _ _ _ [] z1 sa len cap awake_fact HBn HRn HRm HRB HL HRL HZ h1 ((hnil _).2 h1) w HOf HZ0 (by omega) (by omega)
    · have h1 := hL.1 rfl
      exact rb_B1 n0 n1 n2 n3 m0 m1 m2 m3 0 0 0 0 [] _ _ _ [] z1 sa len cap awake_fact HBn HRn HRm HRB HL HRL HZ h1 ((hnil _).1 h1) w HOf HZ0 (by omega) (by omega)

end Go.Proofs.Ytldnjbpcdojffaa
/- @@NUM 25 The walk of residue's ScalarAdd. Conditions: words are below 2^64. -/
namespace Go.Proofs.Ytldnjbpcdojffaa
set_option linter.unusedVariables false
set_option linter.unusedSimpArgs false
open Go Go.RowKit
open Pl (V V8 W4 T256 pL le bytesOf)

theorem Bytes_row (a0 a1 a2 a3 : Nat) (ha : W4 a0 a1 a2 a3) (w : World) : Calls Try.prog 18 #[.agg #[.int .u64 a0, .int .u64 a1, .int .u64 a2, .int .u64 a3]] w fun e w' => (∃ v, e = .returned v ∧ Bts w'.heap.size w' v (bytesOf 32 (V a0 a1 a2 a3))) ∧ Below w.heap.size w w' :=
  (Bytes_fact a0 a1 a2 a3 ha w).mono fun e w' ⟨⟨v, he, hown⟩, hb⟩ => ⟨⟨v, he, bts_owned (n := w.heap.size) (by rw [Pl.bytesOf_length]; exact hown)⟩, hb⟩
theorem bytes_get (n N : Nat) : ∀ j, j < (bytesOf n N).length → (bytesOf n N)[j]?.getD 0 < 256 := fun j hj => by
  rw [List.getElem?_eq_getElem hj, Option.getD_some]
  exact Pl.bytesOf_lt n N _ (List.getElem_mem _)
theorem Scalar_bytes (a0 a1 a2 a3 : Nat) (ha : W4 a0 a1 a2 a3) : ∃ r0 r1 r2 r3 : Nat, (W4 r0 r1 r2 r3 ∧ V r0 r1 r2 r3 = V a0 a1 a2 a3 % pL) ∧ ∀ (sv : Value) (w : World), Bts w.heap.size w sv (bytesOf 32 (V a0 a1 a2 a3)) →
    Calls Try.prog 37 #[sv] w fun e w' => e = .returned (.tuple #[.agg #[.int .u64 r0, .int .u64 r1, .int .u64 r2, .int .u64 r3], .int .i64 0]) ∧ Below w.heap.size w w' := by
  obtain ⟨r0, r1, r2, r3, ⟨hr, hrv⟩, FS⟩ := Scalar_fact (bytesOf 32 (V a0 a1 a2 a3)) (bytes_get _ _) (by rw [Pl.bytesOf_length]; omega) (by rw [Pl.bytesOf_length]; omega)
  rw [Pl.le_bytes32 (Pl.V_lt ha)] at hrv
  exact ⟨r0, r1, r2, r3, ⟨hr, hrv⟩, FS⟩

set_option maxHeartbeats 4000000 in
theorem ScalarAdd_fact (a0 a1 a2 a3 b0 b1 b2 b3 : Nat) (ha : W4 a0 a1 a2 a3) (hb : W4 b0 b1 b2 b3) : ∃ r0 r1 r2 r3 : Nat, (W4 r0 r1 r2 r3 ∧ V r0 r1 r2 r3 = (V a0 a1 a2 a3 + V b0 b1 b2 b3) % pL) ∧ ∀ w : World,
    Calls Try.prog 39 #[.agg #[.int .u64 a0, .int .u64 a1, .int .u64 a2, .int .u64 a3], .agg #[.int .u64 b0, .int .u64 b1, .int .u64 b2, .int .u64 b3]] w fun e w' => e = .returned (.agg #[.int .u64 r0, .int .u64 r1, .int .u64 r2, .int .u64 r3]) ∧ Below w.heap.size w w' := by
  obtain ⟨x0, x1, x2, x3, ⟨hx, hxv⟩, FX⟩ := Scalar_bytes a0 a1 a2 a3 ha
  obtain ⟨y0, y1, y2, y3, ⟨hy, hyv⟩, FY⟩ := Scalar_bytes b0 b1 b2 b3 hb
  have hxl : V x0 x1 x2 x3 < pL := by rw [hxv]; exact Nat.mod_lt _ Pl.pL_pos
  have hyl : V y0 y1 y2 y3 < pL := by rw [hyv]; exact Nat.mod_lt _ Pl.pL_pos
  have hp := Pl.pL_small
  obtain ⟨t0, t1, t2, t3, c, ⟨ht, hc, htv⟩, FP⟩ := plus_fact x0 x1 x2 x3 y0 y1 y2 y3 hx hy
  have hc0 : c = 0 := by
    rcases (show c = 0 ∨ c = 1 by omega) with rfl | rfl
    · rfl
    · omega
  subst hc0
  have htv2 : V t0 t1 t2 t3 = V x0 x1 x2 x3 + V y0 y1 y2 y3 := by omega
  have hmod : (V x0 x1 x2 x3 + V y0 y1 y2 y3) % pL = (V a0 a1 a2 a3 + V b0 b1 b2 b3) % pL := by rw [hxv, hyv, ← Nat.add_mod]
  obtain ⟨z, hz, FL⟩ := less_fact t0 t1 t2 t3 _ _ _ _ ht Pl.pL_W
  rw [Pl.pL_words, htv2] at hz
  have HA := Lib.hid (Bytes_row a0 a1 a2 a3 ha); have HB_ := Lib.hid (Bytes_row b0 b1 b2 b3 hb)
  have HX := Lib.hid FX; have HY := Lib.hid FY; have HP := Lib.hid FP; have HL := Lib.hid FL; have HO := Lib.hid Order_fact
  clear FX FY FP FL
  rcases Pl.sum_mod hxl hyl with ⟨hlt, hm⟩ | ⟨hge, hm⟩
  · obtain rfl : z = true := hz.2 hlt
    refine ⟨t0, t1, t2, t3, ⟨ht, by rw [htv2, ← hmod, hm]⟩, fun w => ?_⟩
    clear hz hm hlt hmod htv2 htv hc hp hxl hyl hxv hyv hx hy ht ha hb
    go_enter Try.func39, Try.ntmps39
    go_wp2_with (fail)
    go_at_call 18
    refine (HA.out _).mono ?_
    rintro e wa ⟨⟨v, rfl, hBt⟩, hb⟩
    have HBn : Hid (Below w.heap.size w wa) := Lib.hid ((fun (h : Below _ _ _) => below_call h h.size hb) (by first | go_grown))
    have hBa_ : wa.heap[w.heap.size]? = some (.cells #[.int .u64 a0, .int .u64 a1, .int .u64 a2, .int .u64 a3] 25 (0, 0)) := heap_keep' hb (by repeat (first | (with_reducible refine heap_new' ?_ _; simp; done) | (with_reducible refine keep4 ?_ (by omega) _ _ _ _) | (with_reducible refine heap_old ?_ _) | (with_reducible refine heap_drew ?_) | (with_reducible refine heap_set_ne ?_ (by simp <;> omega) _)))
    have hBb_ : wa.heap[w.heap.size + 1]? = some (.cells #[.int .u64 b0, .int .u64 b1, .int .u64 b2, .int .u64 b3] 25 (0, 0)) := heap_keep' hb (by repeat (first | (with_reducible refine heap_new' ?_ _; simp; done) | (with_reducible refine keep4 ?_ (by omega) _ _ _ _) | (with_reducible refine heap_old ?_ _) | (with_reducible refine heap_drew ?_) | (with_reducible refine heap_set_ne ?_ (by simp <;> omega) _)))
    have hBr_ : wa.heap[w.heap.size + 1 + 1]? = some (.cells #[.int .u64 0, .int .u64 0, .int .u64 0, .int .u64 0] 25 (0, 0)) := heap_keep' hb (by repeat (first | (with_reducible refine heap_new' ?_ _; simp; done) | (with_reducible refine keep4 ?_ (by omega) _ _ _ _) | (with_reducible refine heap_old ?_ _) | (with_reducible refine heap_drew ?_) | (with_reducible refine heap_set_ne ?_ (by simp <;> omega) _)))
    clear hb
    have HB := HBn; clear HBn
    have HBa := Lib.hid hBa_; have cBa := cells4 hBa_; have fBa := frozen_of hBa_; have zBa := lt_of_heap hBa_; clear hBa_
    have HBb := Lib.hid hBb_; have cBb := cells4 hBb_; have fBb := frozen_of hBb_; have zBb := lt_of_heap hBb_; clear hBb_
    have HBr := Lib.hid hBr_; have cBr := cells4 hBr_; have fBr := frozen_of hBr_; have zBr := lt_of_heap hBr_; clear hBr_
    go_wp2_with (fail)
    go_at_call 37
    refine (HX.out _ _ hBt).mono ?_
    rintro e wb ⟨rfl, hb⟩
    have HBn : Hid (Below w.heap.size w wb) := Lib.hid ((fun (h : Below _ _ _) => below_call h h.size hb) (by have hB0 := HB.out; have hS0 := hB0.size; first | (with_reducible exact hB0) | (with_reducible exact set4_below hB0 (by omega) _ _ _ _) | (with_reducible exact set4_below (set4_below hB0 (by omega) _ _ _ _) (by omega) _ _ _ _) | (with_reducible exact set4_below (set4_below (set4_below (set4_below hB0 (by omega) _ _ _ _) (by omega) _ _ _ _) (by omega) _ _ _ _) (by omega) _ _ _ _) | go_grown))
    have hBa_ : wb.heap[w.heap.size]? = some (.cells #[.int .u64 a0, .int .u64 a1, .int .u64 a2, .int .u64 a3] 25 (0, 0)) := heap_keep' hb (by repeat (first | (with_reducible exact HBa.out) | (with_reducible exact set4 HBa.out _ _ _ _) | (with_reducible apply set4) | (with_reducible refine heap_new' ?_ _; simp; done) | (with_reducible refine keep4 ?_ (by omega) _ _ _ _) | (with_reducible refine heap_old ?_ _) | (with_reducible refine heap_drew ?_) | (with_reducible refine heap_set_ne ?_ (by simp <;> omega) _)))
    have hBb_ : wb.heap[w.heap.size + 1]? = some (.cells #[.int .u64 b0, .int .u64 b1, .int .u64 b2, .int .u64 b3] 25 (0, 0)) := heap_keep' hb (by repeat (first | (with_reducible exact HBb.out) | (with_reducible exact set4 HBb.out _ _ _ _) | (with_reducible apply set4) | (with_reducible refine heap_new' ?_ _; simp; done) | (with_reducible refine keep4 ?_ (by omega) _ _ _ _) | (with_reducible refine heap_old ?_ _) | (with_reducible refine heap_drew ?_) | (with_reducible refine heap_set_ne ?_ (by simp <;> omega) _)))
    have hBr_ : wb.heap[w.heap.size + 1 + 1]? = some (.cells #[.int .u64 0, .int .u64 0, .int .u64 0, .int .u64 0] 25 (0, 0)) := heap_keep' hb (by repeat (first | (with_reducible exact HBr.out) | (with_reducible exact set4 HBr.out _ _ _ _) | (with_reducible apply set4) | (with_reducible refine heap_new' ?_ _; simp; done) | (with_reducible refine keep4 ?_ (by omega) _ _ _ _) | (with_reducible refine heap_old ?_ _) | (with_reducible refine heap_drew ?_) | (with_reducible refine heap_set_ne ?_ (by simp <;> omega) _)))
    clear hb HB HBa cBa fBa zBa HBb cBb fBb zBb HBr cBr fBr zBr
    have HB := HBn; clear HBn
    have HBa := Lib.hid hBa_; have cBa := cells4 hBa_; have fBa := frozen_of hBa_; have zBa := lt_of_heap hBa_; clear hBa_
    have HBb := Lib.hid hBb_; have cBb := cells4 hBb_; have fBb := frozen_of hBb_; have zBb := lt_of_heap hBb_; clear hBb_
    have HBr := Lib.hid hBr_; have cBr := cells4 hBr_; have fBr := frozen_of hBr_; have zBr := lt_of_heap hBr_; clear hBr_
    clear hBt
    go_wp2_with (fail)
    go_at_call 18
    refine (HB_.out _).mono ?_
    rintro e wc ⟨⟨v2, rfl, hBt⟩, hb⟩
    have HBn : Hid (Below w.heap.size w wc) := Lib.hid ((fun (h : Below _ _ _) => below_call h h.size hb) (by have hB0 := HB.out; have hS0 := hB0.size; first | (with_reducible exact hB0) | (with_reducible exact set4_below hB0 (by omega) _ _ _ _) | (with_reducible exact set4_below (set4_below hB0 (by omega) _ _ _ _) (by omega) _ _ _ _) | (with_reducible exact set4_below (set4_below (set4_below (set4_below hB0 (by omega) _ _ _ _) (by omega) _ _ _ _) (by omega) _ _ _ _) (by omega) _ _ _ _) | go_grown))
    have hBa_ : wc.heap[w.heap.size]? = some (.cells #[.int .u64 x0, .int .u64 x1, .int .u64 x2, .int .u64 x3] 25 (0, 0)) := heap_keep' hb (by repeat (first | (with_reducible exact HBa.out) | (with_reducible exact set4 HBa.out _ _ _ _) | (with_reducible apply set4) | (with_reducible refine heap_new' ?_ _; simp; done) | (with_reducible refine keep4 ?_ (by omega) _ _ _ _) | (with_reducible refine heap_old ?_ _) | (with_reducible refine heap_drew ?_) | (with_reducible refine heap_set_ne ?_ (by simp <;> omega) _)))
    have hBb_ : wc.heap[w.heap.size + 1]? = some (.cells #[.int .u64 b0, .int .u64 b1, .int .u64 b2, .int .u64 b3] 25 (0, 0)) := heap_keep' hb (by repeat (first | (with_reducible exact HBb.out) | (with_reducible exact set4 HBb.out _ _ _ _) | (with_reducible apply set4) | (with_reducible refine heap_new' ?_ _; simp; done) | (with_reducible refine keep4 ?_ (by omega) _ _ _ _) | (with_reducible refine heap_old ?_ _) | (with_reducible refine heap_drew ?_) | (with_reducible refine heap_set_ne ?_ (by simp <;> omega) _)))
    have hBr_ : wc.heap[w.heap.size + 1 + 1]? = some (.cells #[.int .u64 0, .int .u64 0, .int .u64 0, .int .u64 0] 25 (0, 0)) := heap_keep' hb (by repeat (first | (with_reducible exact HBr.out) | (with_reducible exact set4 HBr.out _ _ _ _) | (with_reducible apply set4) | (with_reducible refine heap_new' ?_ _; simp; done) | (with_reducible refine keep4 ?_ (by omega) _ _ _ _) | (with_reducible refine heap_old ?_ _) | (with_reducible refine heap_drew ?_) | (with_reducible refine heap_set_ne ?_ (by simp <;> omega) _)))
    clear hb HB HBa cBa fBa zBa HBb cBb fBb zBb HBr cBr fBr zBr
    have HB := HBn; clear HBn
    have HBa := Lib.hid hBa_; have cBa := cells4 hBa_; have fBa := frozen_of hBa_; have zBa := lt_of_heap hBa_; clear hBa_
    have HBb := Lib.hid hBb_; have cBb := cells4 hBb_; have fBb := frozen_of hBb_; have zBb := lt_of_heap hBb_; clear hBb_
    have HBr := Lib.hid hBr_; have cBr := cells4 hBr_; have fBr := frozen_of hBr_; have zBr := lt_of_heap hBr_; clear hBr_
    go_wp2_with (fail)
    go_at_call 37
    refine (HY.out _ _ hBt).mono ?_
    rintro e wd ⟨rfl, hb⟩
    have HBn : Hid (Below w.heap.size w wd) := Lib.hid ((fun (h : Below _ _ _) => below_call h h.size hb) (by have hB0 := HB.out; have hS0 := hB0.size; first | (with_reducible exact hB0) | (with_reducible exact set4_below hB0 (by omega) _ _ _ _) | (with_reducible exact set4_below (set4_below hB0 (by omega) _ _ _ _) (by omega) _ _ _ _) | (with_reducible exact set4_below (set4_below (set4_below (set4_below hB0 (by omega) _ _ _ _) (by omega) _ _ _ _) (by omega) _ _ _ _) (by omega) _ _ _ _) | go_grown))
    have hBa_ : wd.heap[w.heap.size]? = some (.cells #[.int .u64 x0, .int .u64 x1, .int .u64 x2, .int .u64 x3] 25 (0, 0)) := heap_keep' hb (by repeat (first | (with_reducible exact HBa.out) | (with_reducible exact set4 HBa.out _ _ _ _) | (with_reducible apply set4) | (with_reducible refine heap_new' ?_ _; simp; done) | (with_reducible refine keep4 ?_ (by omega) _ _ _ _) | (with_reducible refine heap_old ?_ _) | (with_reducible refine heap_drew ?_) | (with_reducible refine heap_set_ne ?_ (by simp <;> omega) _)))
    have hBb_ : wd.heap[w.heap.size + 1]? = some (.cells #[.int .u64 b0, .int .u64 b1, .int .u64 b2, .int .u64 b3] 25 (0, 0)) := heap_keep' hb (by repeat (first | (with_reducible exact HBb.out) | (with_reducible exact set4 HBb.out _ _ _ _) | (with_reducible apply set4) | (with_reducible refine heap_new' ?_ _; simp; done) | (with_reducible refine keep4 ?_ (by omega) _ _ _ _) | (with_reducible refine heap_old ?_ _) | (with_reducible refine heap_drew ?_) | (with_reducible refine heap_set_ne ?_ (by simp <;> omega) _)))
    have hBr_ : wd.heap[w.heap.size + 1 + 1]? = some (.cells #[.int .u64 0, .int .u64 0, .int .u64 0, .int .u64 0] 25 (0, 0)) := heap_keep' hb (by repeat (first | (with_reducible exact HBr.out) | (with_reducible exact set4 HBr.out _ _ _ _) | (with_reducible apply set4) | (with_reducible refine heap_new' ?_ _; simp; done) | (with_reducible refine keep4 ?_ (by omega) _ _ _ _) | (with_reducible refine heap_old ?_ _) | (with_reducible refine heap_drew ?_) | (with_reducible refine heap_set_ne ?_ (by simp <;> omega) _)))
    clear hb HB HBa cBa fBa zBa HBb cBb fBb zBb HBr cBr fBr zBr
    have HB := HBn; clear HBn
    have HBa := Lib.hid hBa_; have cBa := cells4 hBa_; have fBa := frozen_of hBa_; have zBa := lt_of_heap hBa_; clear hBa_
    have HBb := Lib.hid hBb_; have cBb := cells4 hBb_; have fBb := frozen_of hBb_; have zBb := lt_of_heap hBb_; clear hBb_
    have HBr := Lib.hid hBr_; have cBr := cells4 hBr_; have fBr := frozen_of hBr_; have zBr := lt_of_heap hBr_; clear hBr_
    clear hBt
    go_wp2_with (fail)
    go_at_call 53
    refine (HP.out _).mono ?_
    rintro e we ⟨rfl, hb⟩
    have HBn : Hid (Below w.heap.size w we) := Lib.hid ((fun (h : Below _ _ _) => below_call h h.size hb) (by have hB0 := HB.out; have hS0 := hB0.size; first | (with_reducible exact hB0) | (with_reducible exact set4_below hB0 (by omega) _ _ _ _) | (with_reducible exact set4_below (set4_below hB0 (by omega) _ _ _ _) (by omega) _ _ _ _) | (with_reducible exact set4_below (set4_below (set4_below (set4_below hB0 (by omega) _ _ _ _) (by omega) _ _ _ _) (by omega) _ _ _ _) (by omega) _ _ _ _) | go_grown))
    have hBa_ : we.heap[w.heap.size]? = some (.cells #[.int .u64 x0, .int .u64 x1, .int .u64 x2, .int .u64 x3] 25 (0, 0)) := heap_keep' hb (by repeat (first | (with_reducible exact HBa.out) | (with_reducible exact set4 HBa.out _ _ _ _) | (with_reducible apply set4) | (with_reducible refine heap_new' ?_ _; simp; done) | (with_reducible refine keep4 ?_ (by omega) _ _ _ _) | (with_reducible refine heap_old ?_ _) | (with_reducible refine heap_drew ?_) | (with_reducible refine heap_set_ne ?_ (by simp <;> omega) _)))
    have hBb_ : we.heap[w.heap.size + 1]? = some (.cells #[.int .u64 y0, .int .u64 y1, .int .u64 y2, .int .u64 y3] 25 (0, 0)) := heap_keep' hb (by repeat (first | (with_reducible exact HBb.out) | (with_reducible exact set4 HBb.out _ _ _ _) | (with_reducible apply set4) | (with_reducible refine heap_new' ?_ _; simp; done) | (with_reducible refine keep4 ?_ (by omega) _ _ _ _) | (with_reducible refine heap_old ?_ _) | (with_reducible refine heap_drew ?_) | (with_reducible refine heap_set_ne ?_ (by simp <;> omega) _)))
    have hBr_ : we.heap[w.heap.size + 1 + 1]? = some (.cells #[.int .u64 0, .int .u64 0, .int .u64 0, .int .u64 0] 25 (0, 0)) := heap_keep' hb (by repeat (first | (with_reducible exact HBr.out) | (with_reducible exact set4 HBr.out _ _ _ _) | (with_reducible apply set4) | (with_reducible refine heap_new' ?_ _; simp; done) | (with_reducible refine keep4 ?_ (by omega) _ _ _ _) | (with_reducible refine heap_old ?_ _) | (with_reducible refine heap_drew ?_) | (with_reducible refine heap_set_ne ?_ (by simp <;> omega) _)))
    clear hb HB HBa cBa fBa zBa HBb cBb fBb zBb HBr cBr fBr zBr
    have HB := HBn; clear HBn
    have HBa := Lib.hid hBa_; have cBa := cells4 hBa_; have fBa := frozen_of hBa_; have zBa := lt_of_heap hBa_; clear hBa_
    have HBb := Lib.hid hBb_; have cBb := cells4 hBb_; have fBb := frozen_of hBb_; have zBb := lt_of_heap hBb_; clear hBb_
    have HBr := Lib.hid hBr_; have cBr := cells4 hBr_; have fBr := frozen_of hBr_; have zBr := lt_of_heap hBr_; clear hBr_
    have kz1 := zBr
    go_wp2
    refine Rg.region_ (n := 36) [0, 0, 3, 7] [1, 1, 1, 0] [25, 26, 27, 28] [[(5, none)], [], [(25, some 0), (26, some 1)], [(27, some 2)]] 4 (by kernel_rfl) (by kernel_rfl) (by rfl) ?_
    intro W hW
    have hBa_ : W.heap[w.heap.size]? = some (.cells #[.int .u64 x0, .int .u64 x1, .int .u64 x2, .int .u64 x3] 25 (0, 0)) := by rw [hW]; exact (by repeat (first | (with_reducible exact HBa.out) | (with_reducible exact set4 HBa.out _ _ _ _) | (with_reducible apply set4) | (with_reducible refine heap_new' ?_ _; simp; done) | (with_reducible refine keep4 ?_ (by omega) _ _ _ _) | (with_reducible refine heap_old ?_ _) | (with_reducible refine heap_drew ?_) | (with_reducible refine heap_set_ne ?_ (by simp <;> omega) _)))
    have hBb_ : W.heap[w.heap.size + 1]? = some (.cells #[.int .u64 y0, .int .u64 y1, .int .u64 y2, .int .u64 y3] 25 (0, 0)) := by rw [hW]; exact (by repeat (first | (with_reducible exact HBb.out) | (with_reducible exact set4 HBb.out _ _ _ _) | (with_reducible apply set4) | (with_reducible refine heap_new' ?_ _; simp; done) | (with_reducible refine keep4 ?_ (by omega) _ _ _ _) | (with_reducible refine heap_old ?_ _) | (with_reducible refine heap_drew ?_) | (with_reducible refine heap_set_ne ?_ (by simp <;> omega) _)))
    have hBr_ : W.heap[w.heap.size + 1 + 1]? = some (.cells #[.int .u64 0, .int .u64 0, .int .u64 0, .int .u64 0] 25 (0, 0)) := by rw [hW]; exact (by repeat (first | (with_reducible exact HBr.out) | (with_reducible exact set4 HBr.out _ _ _ _) | (with_reducible apply set4) | (with_reducible refine heap_new' ?_ _; simp; done) | (with_reducible refine keep4 ?_ (by omega) _ _ _ _) | (with_reducible refine heap_old ?_ _) | (with_reducible refine heap_drew ?_) | (with_reducible refine heap_set_ne ?_ (by simp <;> omega) _)))
    have hBo_ : W.heap[we.heap.size]? = some (.cells #[.int .u64 t0, .int .u64 t1, .int .u64 t2, .int .u64 t3] 25 (0, 0)) := by rw [hW]; exact (by repeat (first | (with_reducible refine heap_new' ?_ _; simp; done) | (with_reducible refine keep4 ?_ (by omega) _ _ _ _) | (with_reducible refine heap_old ?_ _) | (with_reducible refine heap_drew ?_) | (with_reducible refine heap_set_ne ?_ (by simp <;> omega) _)))
    have HB0 : Below w.heap.size w W := by rw [hW]; have hB0 := HB.out; have hS0 := hB0.size; first | exact hB0.drew | exact (set4_below hB0 (by omega) _ _ _ _).drew | go_grown
    change Rg.Chain' _ _ _ _ _ [(0, 1, 25, [(5, none)]), (1, 1, 26, []), (2, 1, 27, [(25, some 0), (26, some 1)]), (3, 0, 28, [(27, some 2)])] [(0, 1, 25, [(5, none)]), (1, 1, 26, []), (2, 1, 27, [(25, some 0), (26, some 1)]), (3, 0, 28, [(27, some 2)])] _
    apply Rg.ch_def (by rfl) (fun a w1 _ => Rg.wanted_none (by rfl))
    · rintro a w1 hb ⟨e5, -⟩
      conv at e5 => rhs; whnf
      have n5 := e5
      simp only [Act.eval, Array.getD_eq_getD_getElem?] at n5
      apply Rg.gives_value
      · conv => lhs; simp [go_sem, n5, cells4 (heap_keep' hb hBa_), cells4 (heap_keep' hb hBb_), cells4 (heap_keep' hb hBr_), cells4 (heap_keep' hb hBo_)]
      · exact ⟨rfl, Below.refl _ _⟩
    apply Rg.ch_def (by rfl) (fun a w1 _ => Rg.wanted_none (by rfl))
    · rintro a w1 hb -
      apply Rg.gives_enter
      · exact run_call Try.func32 (by kernel_rfl) rfl #[] (by rfl) (by simp)
      · refine (HO.out _).mono ?_
        rintro e w2 ⟨rfl, hb2⟩
        exact ⟨_, rfl, rfl, hb2⟩
    apply Rg.ch_def (by rfl) (fun a w1 _ => Rg.wanted_none (by rfl))
    · rintro a w1 hb ⟨e25, e26, -⟩
      replace e25 : a.eval (.tmp 25) = _ := e25
      replace e26 : a.eval (.tmp 26) = _ := e26
      apply Rg.gives_enter
      · apply run_call Try.func21 (by kernel_rfl) rfl _ (by rfl)
        conv => lhs; simp only [List.map_toArray, List.map_cons, List.map_nil, eval_const_, eval_global_, e25, e26]
      · refine (HL.out _).mono ?_
        rintro e w2 ⟨rfl, hb2⟩
        exact ⟨_, rfl, rfl, hb2⟩
    apply Rg.ch_pure (by rfl)
    · rintro a w1 ⟨e27, -⟩
      replace e27 : a.eval (.tmp 27) = _ := e27
      have n27 := e27
      simp only [Act.eval, Array.getD_eq_getD_getElem?] at n27
      apply Rg.yields_run (Rg.wanted_none (by rfl))
      intro w2
      conv => lhs; simp [go_sem, n27]
    intro w1 hb1
    rintro _ rfl _ rfl _ rfl _ rfl
    change Go.wpList _ _ _ _ _ _
    simp only [List.drop_succ_cons, List.drop_zero, List.drop_nil, Act.put, List.setIfInBounds_toArray, List.set_cons_succ, List.set_cons_zero]
    change Go.NoPanic _ _ _ _
    refine NoPanic.normal ?_
    have HBn : Hid (Below w.heap.size w w1) := Lib.hid (below_call HB0 HB0.size hb1)
    have hBa__ := heap_keep' hb1 hBa_
    have hBb__ := heap_keep' hb1 hBb_
    have hBr__ := heap_keep' hb1 hBr_
    have hBo__ := heap_keep' hb1 hBo_
    clear hb1 HB0 HB hBa_ HBa cBa fBa zBa hBb_ HBb cBb fBb zBb hBr_ HBr cBr fBr zBr hBo_
    clear hW
    obtain ⟨wf, rfl⟩ : ∃ x : World, x = w1 := ⟨_, rfl⟩
    have HB := HBn; clear HBn
    have HBa := Lib.hid hBa__; have cBa := cells4 hBa__; have fBa := frozen_of hBa__; have zBa := lt_of_heap hBa__; clear hBa__
    have HBb := Lib.hid hBb__; have cBb := cells4 hBb__; have fBb := frozen_of hBb__; have zBb := lt_of_heap hBb__; clear hBb__
    have HBr := Lib.hid hBr__; have cBr := cells4 hBr__; have fBr := frozen_of hBr__; have zBr := lt_of_heap hBr__; clear hBr__
    have HBo := Lib.hid hBo__; have cBo := cells4 hBo__; have fBo := frozen_of hBo__; have zBo := lt_of_heap hBo__; clear hBo__
    go_wp2
    have hK := set4 HBr.out (.int .u64 t0) (.int .u64 t1) (.int .u64 t2) (.int .u64 t3)
    have hL := set4_below (b := w.heap.size + 1 + 1) HB.out (by omega) (.int .u64 t0) (.int .u64 t1) (.int .u64 t2) (.int .u64 t3)
    have hQ := cells4 hK
    exact bodyPost_ret (v := .agg #[.int .u64 t0, .int .u64 t1, .int .u64 t2, .int .u64 t3]) (by simp [results, Try.results39, go_sem, hQ]) rfl ⟨rfl, hL⟩
  · obtain rfl : z = false := by
      cases z
      · rfl
      · exact absurd (hz.1 rfl) (by omega)
    obtain ⟨d0, d1, d2, d3, c2, ⟨hd, hc2, hdv⟩, FM⟩ := minus_fact t0 t1 t2 t3 _ _ _ _ ht Pl.pL_W
    rw [Pl.pL_words, htv2] at hdv
    have hd2 := Pl.V_lt hd
    have hc0 : c2 = 0 := by
      rcases (show c2 = 0 ∨ c2 = 1 by omega) with rfl | rfl
      · rfl
      · omega
    subst hc0
    have HM := Lib.hid FM
    refine ⟨d0, d1, d2, d3, ⟨hd, by rw [← hmod, hm]; omega⟩, fun w => ?_⟩
    clear FM hd2 hdv hc2 hd hz hm hge hmod htv2 htv hc hp hxl hyl hxv hyv hx hy ht ha hb
    go_enter Try.func39, Try.ntmps39
    go_wp2_with (fail)
    go_at_call 18
    refine (HA.out _).mono ?_
    rintro e wa ⟨⟨v, rfl, hBt⟩, hb⟩
    have HBn : Hid (Below w.heap.size w wa) := Lib.hid ((fun (h : Below _ _ _) => below_call h h.size hb) (by first | go_grown))
    have hBa_ : wa.heap[w.heap.size]? = some (.cells #[.int .u64 a0, .int .u64 a1, .int .u64 a2, .int .u64 a3] 25 (0, 0)) := heap_keep' hb (by repeat (first | (with_reducible refine heap_new' ?_ _; simp; done) | (with_reducible refine keep4 ?_ (by omega) _ _ _ _) | (with_reducible refine heap_old ?_ _) | (with_reducible refine heap_drew ?_) | (with_reducible refine heap_set_ne ?_ (by simp <;> omega) _)))
    have hBb_ : wa.heap[w.heap.size + 1]? = some (.cells #[.int .u64 b0, .int .u64 b1, .int .u64 b2, .int .u64 b3] 25 (0, 0)) := heap_keep' hb (by repeat (first | (with_reducible refine heap_new' ?_ _; simp; done) | (with_reducible refine keep4 ?_ (by omega) _ _ _ _) | (with_reducible refine heap_old ?_ _) | (with_reducible refine heap_drew ?_) | (with_reducible refine heap_set_ne ?_ (by simp <;> omega) _)))
    have hBr_ : wa.heap[w.heap.size + 1 + 1]? = some (.cells #[.int .u64 0, .int .u64 0, .int .u64 0, .int .u64 0] 25 (0, 0)) := heap_keep' hb (by repeat (first | (with_reducible refine heap_new' ?_ _; simp; done) | (with_reducible refine keep4 ?_ (by omega) _ _ _ _) | (with_reducible refine heap_old ?_ _) | (with_reducible refine heap_drew ?_) | (with_reducible refine heap_set_ne ?_ (by simp <;> omega) _)))
    clear hb
    have HB := HBn; clear HBn
    have HBa := Lib.hid hBa_; have cBa := cells4 hBa_; have fBa := frozen_of hBa_; have zBa := lt_of_heap hBa_; clear hBa_
    have HBb := Lib.hid hBb_; have cBb := cells4 hBb_; have fBb := frozen_of hBb_; have zBb := lt_of_heap hBb_; clear hBb_
    have HBr := Lib.hid hBr_; have cBr := cells4 hBr_; have fBr := frozen_of hBr_; have zBr := lt_of_heap hBr_; clear hBr_
    go_wp2_with (fail)
    go_at_call 37
    refine (HX.out _ _ hBt).mono ?_
    rintro e wb ⟨rfl, hb⟩
    have HBn : Hid (Below w.heap.size w wb) := Lib.hid ((fun (h : Below _ _ _) => below_call h h.size hb) (by have hB0 := HB.out; have hS0 := hB0.size; first | (with_reducible exact hB0) | (with_reducible exact set4_below hB0 (by omega) _ _ _ _) | (with_reducible exact set4_below (set4_below hB0 (by omega) _ _ _ _) (by omega) _ _ _ _) | (with_reducible exact set4_below (set4_below (set4_below (set4_below hB0 (by omega) _ _ _ _) (by omega) _ _ _ _) (by omega) _ _ _ _) (by omega) _ _ _ _) | go_grown))
    have hBa_ : wb.heap[w.heap.size]? = some (.cells #[.int .u64 a0, .int .u64 a1, .int .u64 a2, .int .u64 a3] 25 (0, 0)) := heap_keep' hb (by repeat (first | (with_reducible exact HBa.out) | (with_reducible exact set4 HBa.out _ _ _ _) | (with_reducible apply set4) | (with_reducible refine heap_new' ?_ _; simp; done) | (with_reducible refine keep4 ?_ (by omega) _ _ _ _) | (with_reducible refine heap_old ?_ _) | (with_reducible refine heap_drew ?_) | (with_reducible refine heap_set_ne ?_ (by simp <;> omega) _)))
    have hBb_ : wb.heap[w.heap.size + 1]? = some (.cells #[.int .u64 b0, .int .u64 b1, .int .u64 b2, .int .u64 b3] 25 (0, 0)) := heap_keep' hb (by repeat (first | (with_reducible exact HBb.out) | (with_reducible exact set4 HBb.out _ _ _ _) | (with_reducible apply set4) | (with_reducible refine heap_new' ?_ _; simp; done) | (with_reducible refine keep4 ?_ (by omega) _ _ _ _) | (with_reducible refine heap_old ?_ _) | (with_reducible refine heap_drew ?_) | (with_reducible refine heap_set_ne ?_ (by simp <;> omega) _)))
    have hBr_ : wb.heap[w.heap.size + 1 + 1]? = some (.cells #[.int .u64 0, .int .u64 0, .int .u64 0, .int .u64 0] 25 (0, 0)) := heap_keep' hb (by repeat (first | (with_reducible exact HBr.out) | (with_reducible exact set4 HBr.out _ _ _ _) | (with_reducible apply set4) | (with_reducible refine heap_new' ?_ _; simp; done) | (with_reducible refine keep4 ?_ (by omega) _ _ _ _) | (with_reducible refine heap_old ?_ _) | (with_reducible refine heap_drew ?_) | (with_reducible refine heap_set_ne ?_ (by simp <;> omega) _)))
    clear hb HB HBa cBa fBa zBa HBb cBb fBb zBb HBr cBr fBr zBr
    have HB := HBn; clear HBn
    have HBa := Lib.hid hBa_; have cBa := cells4 hBa_; have fBa := frozen_of hBa_; have zBa := lt_of_heap hBa_; clear hBa_
    have HBb := Lib.hid hBb_; have cBb := cells4 hBb_; have fBb := frozen_of hBb_; have zBb := lt_of_heap hBb_; clear hBb_
    have HBr := Lib.hid hBr_; have cBr := cells4 hBr_; have fBr := frozen_of hBr_; have zBr := lt_of_heap hBr_; clear hBr_
    clear hBt
    go_wp2_with (fail)
    go_at_call 18
    refine (HB_.out _).mono ?_
    rintro e wc ⟨⟨v2, rfl, hBt⟩, hb⟩
    have HBn : Hid (Below w.heap.size w wc) := Lib.hid ((fun (h : Below _ _ _) => below_call h h.size hb) (by have hB0 := HB.out; have hS0 := hB0.size; first | (with_reducible exact hB0) | (with_reducible exact set4_below hB0 (by omega) _ _ _ _) | (with_reducible exact set4_below (set4_below hB0 (by omega) _ _ _ _) (by omega) _ _ _ _) | (with_reducible exact set4_below (set4_below (set4_below (set4_below hB0 (by omega) _ _ _ _) (by omega) _ _ _ _) (by omega) _ _ _ _) (by omega) _ _ _ _) | go_grown))
    have hBa_ : wc.heap[w.heap.size]? = some (.cells #[.int .u64 x0, .int .u64 x1, .int .u64 x2, .int .u64 x3] 25 (0, 0)) := heap_keep' hb (by repeat (first | (with_reducible exact HBa.out) | (with_reducible exact set4 HBa.out _ _ _ _) | (with_reducible apply set4) | (with_reducible refine heap_new' ?_ _; simp; done) | (with_reducible refine keep4 ?_ (by omega) _ _ _ _) | (with_reducible refine heap_old ?_ _) | (with_reducible refine heap_drew ?_) | (with_reducible refine heap_set_ne ?_ (by simp <;> omega) _)))
    have hBb_ : wc.heap[w.heap.size + 1]? = some (.cells #[.int .u64 b0, .int .u64 b1, .int .u64 b2, .int .u64 b3] 25 (0, 0)) := heap_keep' hb (by repeat (first | (with_reducible exact HBb.out) | (with_reducible exact set4 HBb.out _ _ _ _) | (with_reducible apply set4) | (with_reducible refine heap_new' ?_ _; simp; done) | (with_reducible refine keep4 ?_ (by omega) _ _ _ _) | (with_reducible refine heap_old ?_ _) | (with_reducible refine heap_drew ?_) | (with_reducible refine heap_set_ne ?_ (by simp <;> omega) _)))
    have hBr_ : wc.heap[w.heap.size + 1 + 1]? = some (.cells #[.int .u64 0, .int .u64 0, .int .u64 0, .int .u64 0] 25 (0, 0)) := heap_keep' hb (by repeat (first | (with_reducible exact HBr.out) | (with_reducible exact set4 HBr.out _ _ _ _) | (with_reducible apply set4) | (with_reducible refine heap_new' ?_ _; simp; done) | (with_reducible refine keep4 ?_ (by omega) _ _ _ _) | (with_reducible refine heap_old ?_ _) | (with_reducible refine heap_drew ?_) | (with_reducible refine heap_set_ne ?_ (by simp <;> omega) _)))
    clear hb HB HBa cBa fBa zBa HBb cBb fBb zBb HBr cBr fBr zBr
    have HB := HBn; clear HBn
    have HBa := Lib.hid hBa_; have cBa := cells4 hBa_; have fBa := frozen_of hBa_; have zBa := lt_of_heap hBa_; clear hBa_
    have HBb := Lib.hid hBb_; have cBb := cells4 hBb_; have fBb := frozen_of hBb_; have zBb := lt_of_heap hBb_; clear hBb_
    have HBr := Lib.hid hBr_; have cBr := cells4 hBr_; have fBr := frozen_of hBr_; have zBr := lt_of_heap hBr_; clear hBr_
    go_wp2_with (fail)
    go_at_call 37
    refine (HY.out _ _ hBt).mono ?_
    rintro e wd ⟨rfl, hb⟩
    have HBn : Hid (Below w.heap.size w wd) := Lib.hid ((fun (h : Below _ _ _) => below_call h h.size hb) (by have hB0 := HB.out; have hS0 := hB0.size; first | (with_reducible exact hB0) | (with_reducible exact set4_below hB0 (by omega) _ _ _ _) | (with_reducible exact set4_below (set4_below hB0 (by omega) _ _ _ _) (by omega) _ _ _ _) | (with_reducible exact set4_below (set4_below (set4_below (set4_below hB0 (by omega) _ _ _ _) (by omega) _ _ _ _) (by omega) _ _ _ _) (by omega) _ _ _ _) | go_grown))
    have hBa_ : wd.heap[w.heap.size]? = some (.cells #[.int .u64 x0, .int .u64 x1, .int .u64 x2, .int .u64 x3] 25 (0, 0)) := heap_keep' hb (by repeat (first | (with_reducible exact HBa.out) | (with_reducible exact set4 HBa.out _ _ _ _) | (with_reducible apply set4) | (with_reducible refine heap_new' ?_ _; simp; done) | (with_reducible refine keep4 ?_ (by omega) _ _ _ _) | (with_reducible refine heap_old ?_ _) | (with_reducible refine heap_drew ?_) | (with_reducible refine heap_set_ne ?_ (by simp <;> omega) _)))
    have hBb_ : wd.heap[w.heap.size + 1]? = some (.cells #[.int .u64 b0, .int .u64 b1, .int .u64 b2, .int .u64 b3] 25 (0, 0)) := heap_keep' hb (by repeat (first | (with_reducible exact HBb.out) | (with_reducible exact set4 HBb.out _ _ _ _) | (with_reducible apply set4) | (with_reducible refine heap_new' ?_ _; simp; done) | (with_reducible refine keep4 ?_ (by omega) _ _ _ _) | (with_reducible refine heap_old ?_ _) | (with_reducible refine heap_drew ?_) | (with_reducible refine heap_set_ne ?_ (by simp <;> omega) _)))
    have hBr_ : wd.heap[w.heap.size + 1 + 1]? = some (.cells #[.int .u64 0, .int .u64 0, .int .u64 0, .int .u64 0] 25 (0, 0)) := heap_keep' hb (by repeat (first | (with_reducible exact HBr.out) | (with_reducible exact set4 HBr.out _ _ _ _) | (with_reducible apply set4) | (with_reducible refine heap_new' ?_ _; simp; done) | (with_reducible refine keep4 ?_ (by omega) _ _ _ _) | (with_reducible refine heap_old ?_ _) | (with_reducible refine heap_drew ?_) | (with_reducible refine heap_set_ne ?_ (by simp <;> omega) _)))
    clear hb HB HBa cBa fBa zBa HBb cBb fBb zBb HBr cBr fBr zBr
    have HB := HBn; clear HBn
    have HBa := Lib.hid hBa_; have cBa := cells4 hBa_; have fBa := frozen_of hBa_; have zBa := lt_of_heap hBa_; clear hBa_
    have HBb := Lib.hid hBb_; have cBb := cells4 hBb_; have fBb := frozen_of hBb_; have zBb := lt_of_heap hBb_; clear hBb_
    have HBr := Lib.hid hBr_; have cBr := cells4 hBr_; have fBr := frozen_of hBr_; have zBr := lt_of_heap hBr_; clear hBr_
    clear hBt
    go_wp2_with (fail)
    go_at_call 53
    refine (HP.out _).mono ?_
    rintro e we ⟨rfl, hb⟩
    have HBn : Hid (Below w.heap.size w we) := Lib.hid ((fun (h : Below _ _ _) => below_call h h.size hb) (by have hB0 := HB.out; have hS0 := hB0.size; first | (with_reducible exact hB0) | (with_reducible exact set4_below hB0 (by omega) _ _ _ _) | (with_reducible exact set4_below (set4_below hB0 (by omega) _ _ _ _) (by omega) _ _ _ _) | (with_reducible exact set4_below (set4_below (set4_below (set4_below hB0 (by omega) _ _ _ _) (by omega) _ _ _ _) (by omega) _ _ _ _) (by omega) _ _ _ _) | go_grown))
    have hBa_ : we.heap[w.heap.size]? = some (.cells #[.int .u64 x0, .int .u64 x1, .int .u64 x2, .int .u64 x3] 25 (0, 0)) := heap_keep' hb (by repeat (first | (with_reducible exact HBa.out) | (with_reducible exact set4 HBa.out _ _ _ _) | (with_reducible apply set4) | (with_reducible refine heap_new' ?_ _; simp; done) | (with_reducible refine keep4 ?_ (by omega) _ _ _ _) | (with_reducible refine heap_old ?_ _) | (with_reducible refine heap_drew ?_) | (with_reducible refine heap_set_ne ?_ (by simp <;> omega) _)))
    have hBb_ : we.heap[w.heap.size + 1]? = some (.cells #[.int .u64 y0, .int .u64 y1, .int .u64 y2, .int .u64 y3] 25 (0, 0)) := heap_keep' hb (by repeat (first | (with_reducible exact HBb.out) | (with_reducible exact set4 HBb.out _ _ _ _) | (with_reducible apply set4) | (with_reducible refine heap_new' ?_ _; simp; done) | (with_reducible refine keep4 ?_ (by omega) _ _ _ _) | (with_reducible refine heap_old ?_ _) | (with_reducible refine heap_drew ?_) | (with_reducible refine heap_set_ne ?_ (by simp <;> omega) _)))
    have hBr_ : we.heap[w.heap.size + 1 + 1]? = some (.cells #[.int .u64 0, .int .u64 0, .int .u64 0, .int .u64 0] 25 (0, 0)) := heap_keep' hb (by repeat (first | (with_reducible exact HBr.out) | (with_reducible exact set4 HBr.out _ _ _ _) | (with_reducible apply set4) | (with_reducible refine heap_new' ?_ _; simp; done) | (with_reducible refine keep4 ?_ (by omega) _ _ _ _) | (with_reducible refine heap_old ?_ _) | (with_reducible refine heap_drew ?_) | (with_reducible refine heap_set_ne ?_ (by simp <;> omega) _)))
    clear hb HB HBa cBa fBa zBa HBb cBb fBb zBb HBr cBr fBr zBr
    have HB := HBn; clear HBn
    have HBa := Lib.hid hBa_; have cBa := cells4 hBa_; have fBa := frozen_of hBa_; have zBa := lt_of_heap hBa_; clear hBa_
    have HBb := Lib.hid hBb_; have cBb := cells4 hBb_; have fBb := frozen_of hBb_; have zBb := lt_of_heap hBb_; clear hBb_
    have HBr := Lib.hid hBr_; have cBr := cells4 hBr_; have fBr := frozen_of hBr_; have zBr := lt_of_heap hBr_; clear hBr_
    have kz1 := zBr
    go_wp2
    refine Rg.region_ (n := 36) [0, 0, 3, 7] [1, 1, 1, 0] [25, 26, 27, 28] [[(5, none)], [], [(25, some 0), (26, some 1)], [(27, some 2)]] 4 (by kernel_rfl) (by kernel_rfl) (by rfl) ?_
    intro W hW
    have hBa_ : W.heap[w.heap.size]? = some (.cells #[.int .u64 x0, .int .u64 x1, .int .u64 x2, .int .u64 x3] 25 (0, 0)) := by rw [hW]; exact (by repeat (first | (with_reducible exact HBa.out) | (with_reducible exact set4 HBa.out _ _ _ _) | (with_reducible apply set4) | (with_reducible refine heap_new' ?_ _; simp; done) | (with_reducible refine keep4 ?_ (by omega) _ _ _ _) | (with_reducible refine heap_old ?_ _) | (with_reducible refine heap_drew ?_) | (with_reducible refine heap_set_ne ?_ (by simp <;> omega) _)))
    have hBb_ : W.heap[w.heap.size + 1]? = some (.cells #[.int .u64 y0, .int .u64 y1, .int .u64 y2, .int .u64 y3] 25 (0, 0)) := by rw [hW]; exact (by repeat (first | (with_reducible exact HBb.out) | (with_reducible exact set4 HBb.out _ _ _ _) | (with_reducible apply set4) | (with_reducible refine heap_new' ?_ _; simp; done) | (with_reducible refine keep4 ?_ (by omega) _ _ _ _) | (with_reducible refine heap_old ?_ _) | (with_reducible refine heap_drew ?_) | (with_reducible refine heap_set_ne ?_ (by simp <;> omega) _)))
    have hBr_ : W.heap[w.heap.size + 1 + 1]? = some (.cells #[.int .u64 0, .int .u64 0, .int .u64 0, .int .u64 0] 25 (0, 0)) := by rw [hW]; exact (by repeat (first | (with_reducible exact HBr.out) | (with_reducible exact set4 HBr.out _ _ _ _) | (with_reducible apply set4) | (with_reducible refine heap_new' ?_ _; simp; done) | (with_reducible refine keep4 ?_ (by omega) _ _ _ _) | (with_reducible refine heap_old ?_ _) | (with_reducible refine heap_drew ?_) | (with_reducible refine heap_set_ne ?_ (by simp <;> omega) _)))
    have hBo_ : W.heap[we.heap.size]? = some (.cells #[.int .u64 t0, .int .u64 t1, .int .u64 t2, .int .u64 t3] 25 (0, 0)) := by rw [hW]; exact (by repeat (first | (with_reducible refine heap_new' ?_ _; simp; done) | (with_reducible refine keep4 ?_ (by omega) _ _ _ _) | (with_reducible refine heap_old ?_ _) | (with_reducible refine heap_drew ?_) | (with_reducible refine heap_set_ne ?_ (by simp <;> omega) _)))
    have HB0 : Below w.heap.size w W := by rw [hW]; have hB0 := HB.out; have hS0 := hB0.size; first | exact hB0.drew | exact (set4_below hB0 (by omega) _ _ _ _).drew | go_grown
    change Rg.Chain' _ _ _ _ _ [(0, 1, 25, [(5, none)]), (1, 1, 26, []), (2, 1, 27, [(25, some 0), (26, some 1)]), (3, 0, 28, [(27, some 2)])] [(0, 1, 25, [(5, none)]), (1, 1, 26, []), (2, 1, 27, [(25, some 0), (26, some 1)]), (3, 0, 28, [(27, some 2)])] _
    apply Rg.ch_def (by rfl) (fun a w1 _ => Rg.wanted_none (by rfl))
    · rintro a w1 hb ⟨e5, -⟩
      conv at e5 => rhs; whnf
      have n5 := e5
      simp only [Act.eval, Array.getD_eq_getD_getElem?] at n5
      apply Rg.gives_value
      · conv => lhs; simp [go_sem, n5, cells4 (heap_keep' hb hBa_), cells4 (heap_keep' hb hBb_), cells4 (heap_keep' hb hBr_), cells4 (heap_keep' hb hBo_)]
      · exact ⟨rfl, Below.refl _ _⟩
    apply Rg.ch_def (by rfl) (fun a w1 _ => Rg.wanted_none (by rfl))
    · rintro a w1 hb -
      apply Rg.gives_enter
      · exact run_call Try.func32 (by kernel_rfl) rfl #[] (by rfl) (by simp)
      · refine (HO.out _).mono ?_
        rintro e w2 ⟨rfl, hb2⟩
        exact ⟨_, rfl, rfl, hb2⟩
    apply Rg.ch_def (by rfl) (fun a w1 _ => Rg.wanted_none (by rfl))
    · rintro a w1 hb ⟨e25, e26, -⟩
      replace e25 : a.eval (.tmp 25) = _ := e25
      replace e26 : a.eval (.tmp 26) = _ := e26
      apply Rg.gives_enter
      · apply run_call Try.func21 (by kernel_rfl) rfl _ (by rfl)
        conv => lhs; simp only [List.map_toArray, List.map_cons, List.map_nil, eval_const_, eval_global_, e25, e26]
      · refine (HL.out _).mono ?_
        rintro e w2 ⟨rfl, hb2⟩
        exact ⟨_, rfl, rfl, hb2⟩
    apply Rg.ch_pure (by rfl)
    · rintro a w1 ⟨e27, -⟩
      replace e27 : a.eval (.tmp 27) = _ := e27
      have n27 := e27
      simp only [Act.eval, Array.getD_eq_getD_getElem?] at n27
      apply Rg.yields_run (Rg.wanted_none (by rfl))
      intro w2
      conv => lhs; simp [go_sem, n27]
    intro w1 hb1
    rintro _ rfl _ rfl _ rfl _ rfl
    change Go.wpList _ _ _ _ _ _
    simp only [List.drop_succ_cons, List.drop_zero, List.drop_nil, Act.put, List.setIfInBounds_toArray, List.set_cons_succ, List.set_cons_zero]
    change Go.NoPanic _ _ _ _
    refine NoPanic.normal ?_
    have HBn : Hid (Below w.heap.size w w1) := Lib.hid (below_call HB0 HB0.size hb1)
    have hBa__ := heap_keep' hb1 hBa_
    have hBb__ := heap_keep' hb1 hBb_
    have hBr__ := heap_keep' hb1 hBr_
    have hBo__ := heap_keep' hb1 hBo_
    clear hb1 HB0 HB hBa_ HBa cBa fBa zBa hBb_ HBb cBb fBb zBb hBr_ HBr cBr fBr zBr hBo_
    clear hW
    obtain ⟨wf, rfl⟩ : ∃ x : World, x = w1 := ⟨_, rfl⟩
    have HB := HBn; clear HBn
    have HBa := Lib.hid hBa__; have cBa := cells4 hBa__; have fBa := frozen_of hBa__; have zBa := lt_of_heap hBa__; clear hBa__
    have HBb := Lib.hid hBb__; have cBb := cells4 hBb__; have fBb := frozen_of hBb__; have zBb := lt_of_heap hBb__; clear hBb__
    have HBr := Lib.hid hBr__; have cBr := cells4 hBr__; have fBr := frozen_of hBr__; have zBr := lt_of_heap hBr__; clear hBr__
    have HBo := Lib.hid hBo__; have cBo := cells4 hBo__; have fBo := frozen_of hBo__; have zBo := lt_of_heap hBo__; clear hBo__
    go_wp2
    refine Rg.region_ (n := 36) [0, 0, 3, 7, 15, 15, 31] [1, 1, 1, 0, 0, 0, 2] [30, 31, 32, 29, 33, 34, 0] [[(5, none)], [], [(30, some 0), (31, some 1)], [(32, some 2)], [(29, some 3)], [(29, some 3)], [(5, none), (33, some 4)]] 6 (by kernel_rfl) (by kernel_rfl) (by rfl) ?_
    intro W hW
    have hBa_ : W.heap[w.heap.size]? = some (.cells #[.int .u64 x0, .int .u64 x1, .int .u64 x2, .int .u64 x3] 25 (0, 0)) := by rw [hW]; exact (by repeat (first | (with_reducible exact HBa.out) | (with_reducible exact set4 HBa.out _ _ _ _) | (with_reducible apply set4) | (with_reducible refine heap_new' ?_ _; simp; done) | (with_reducible refine keep4 ?_ (by omega) _ _ _ _) | (with_reducible refine heap_old ?_ _) | (with_reducible refine heap_drew ?_) | (with_reducible refine heap_set_ne ?_ (by simp <;> omega) _)))
    have hBb_ : W.heap[w.heap.size + 1]? = some (.cells #[.int .u64 y0, .int .u64 y1, .int .u64 y2, .int .u64 y3] 25 (0, 0)) := by rw [hW]; exact (by repeat (first | (with_reducible exact HBb.out) | (with_reducible exact set4 HBb.out _ _ _ _) | (with_reducible apply set4) | (with_reducible refine heap_new' ?_ _; simp; done) | (with_reducible refine keep4 ?_ (by omega) _ _ _ _) | (with_reducible refine heap_old ?_ _) | (with_reducible refine heap_drew ?_) | (with_reducible refine heap_set_ne ?_ (by simp <;> omega) _)))
    have hBr_ : W.heap[w.heap.size + 1 + 1]? = some (.cells #[.int .u64 0, .int .u64 0, .int .u64 0, .int .u64 0] 25 (0, 0)) := by rw [hW]; exact (by repeat (first | (with_reducible exact HBr.out) | (with_reducible exact set4 HBr.out _ _ _ _) | (with_reducible apply set4) | (with_reducible refine heap_new' ?_ _; simp; done) | (with_reducible refine keep4 ?_ (by omega) _ _ _ _) | (with_reducible refine heap_old ?_ _) | (with_reducible refine heap_drew ?_) | (with_reducible refine heap_set_ne ?_ (by simp <;> omega) _)))
    have hBo_ : W.heap[we.heap.size]? = some (.cells #[.int .u64 t0, .int .u64 t1, .int .u64 t2, .int .u64 t3] 25 (0, 0)) := by rw [hW]; exact (by repeat (first | (with_reducible exact HBo.out) | (with_reducible exact set4 HBo.out _ _ _ _) | (with_reducible apply set4) | (with_reducible refine heap_new' ?_ _; simp; done) | (with_reducible refine keep4 ?_ (by omega) _ _ _ _) | (with_reducible refine heap_old ?_ _) | (with_reducible refine heap_drew ?_) | (with_reducible refine heap_set_ne ?_ (by simp <;> omega) _)))
    have HB0 : Below w.heap.size w W := by rw [hW]; have hB0 := HB.out; have hS0 := hB0.size; first | exact hB0.drew | exact (set4_below hB0 (by omega) _ _ _ _).drew | go_grown
    change Rg.Chain' _ _ _ _ _ [(0, 1, 30, [(5, none)]), (1, 1, 31, []), (2, 1, 32, [(30, some 0), (31, some 1)]), (3, 0, 29, [(32, some 2)]), (4, 0, 33, [(29, some 3)]), (5, 0, 34, [(29, some 3)])] [(0, 1, 30, [(5, none)]), (1, 1, 31, []), (2, 1, 32, [(30, some 0), (31, some 1)]), (3, 0, 29, [(32, some 2)]), (4, 0, 33, [(29, some 3)]), (5, 0, 34, [(29, some 3)])] _
    apply Rg.ch_def (by rfl) (fun a w1 _ => Rg.wanted_none (by rfl))
    · rintro a w1 hb ⟨e5, -⟩
      conv at e5 => rhs; whnf
      have n5 := e5
      simp only [Act.eval, Array.getD_eq_getD_getElem?] at n5
      apply Rg.gives_value
      · conv => lhs; simp [go_sem, n5, cells4 (heap_keep' hb hBa_), cells4 (heap_keep' hb hBb_), cells4 (heap_keep' hb hBr_), cells4 (heap_keep' hb hBo_)]
      · exact ⟨rfl, Below.refl _ _⟩
    apply Rg.ch_def (by rfl) (fun a w1 _ => Rg.wanted_none (by rfl))
    · rintro a w1 hb -
      apply Rg.gives_enter
      · exact run_call Try.func32 (by kernel_rfl) rfl #[] (by rfl) (by simp)
      · refine (HO.out _).mono ?_
        rintro e w2 ⟨rfl, hb2⟩
        exact ⟨_, rfl, rfl, hb2⟩
    apply Rg.ch_def (by rfl) (fun a w1 _ => Rg.wanted_none (by rfl))
    · rintro a w1 hb ⟨e30, e31, -⟩
      replace e30 : a.eval (.tmp 30) = _ := e30
      replace e31 : a.eval (.tmp 31) = _ := e31
      apply Rg.gives_enter
      · apply run_call Try.func45 (by kernel_rfl) rfl _ (by rfl)
        conv => lhs; simp only [List.map_toArray, List.map_cons, List.map_nil, eval_const_, eval_global_, e30, e31]
      · refine (HM.out _).mono ?_
        rintro e w2 ⟨rfl, hb2⟩
        exact ⟨_, rfl, rfl, hb2⟩
    apply Rg.ch_pure (by rfl)
    · rintro a w1 ⟨e32, -⟩
      replace e32 : a.eval (.tmp 32) = _ := e32
      have n32 := e32
      simp only [Act.eval, Array.getD_eq_getD_getElem?] at n32
      apply Rg.yields_run (Rg.wanted_none (by rfl))
      intro w2
      conv => lhs; simp [go_sem, n32]
    apply Rg.ch_pure (by rfl)
    · rintro a w1 ⟨e29, -⟩
      replace e29 : a.eval (.tmp 29) = _ := e29
      have n29 := e29
      simp only [Act.eval, Array.getD_eq_getD_getElem?] at n29
      apply Rg.yields_run (Rg.wanted_none (by rfl))
      intro w2
      conv => lhs; simp [go_sem, n29]
    apply Rg.ch_pure (by rfl)
    · rintro a w1 ⟨e29, -⟩
      replace e29 : a.eval (.tmp 29) = _ := e29
      have n29 := e29
      simp only [Act.eval, Array.getD_eq_getD_getElem?] at n29
      apply Rg.yields_run (Rg.wanted_none (by rfl))
      intro w2
      conv => lhs; simp [go_sem, n29]
    intro w1 hb1
    rintro _ rfl _ rfl _ rfl _ rfl _ rfl _ rfl
    change Go.wpList _ _ _ _ _ _
    simp only [List.drop_succ_cons, List.drop_zero, List.drop_nil, Act.put, List.setIfInBounds_toArray, List.set_cons_succ, List.set_cons_zero]
    have HBn : Hid (Below w.heap.size w w1) := Lib.hid (below_call HB0 HB0.size hb1)
    have hBa__ := heap_keep' hb1 hBa_
    have hBb__ := heap_keep' hb1 hBb_
    have hBr__ := heap_keep' hb1 hBr_
    have hBo__ := heap_keep' hb1 hBo_
    clear hb1 HB0 HB hBa_ HBa cBa fBa zBa hBb_ HBb cBb fBb zBb hBr_ HBr cBr fBr zBr hBo_ HBo cBo fBo zBo
    clear hW
    obtain ⟨wg, rfl⟩ : ∃ x : World, x = w1 := ⟨_, rfl⟩
    have HB := HBn; clear HBn
    have HBa := Lib.hid hBa__; have cBa := cells4 hBa__; have fBa := frozen_of hBa__; have zBa := lt_of_heap hBa__; clear hBa__
    have HBb := Lib.hid hBb__; have cBb := cells4 hBb__; have fBb := frozen_of hBb__; have zBb := lt_of_heap hBb__; clear hBb__
    have HBr := Lib.hid hBr__; have cBr := cells4 hBr__; have fBr := frozen_of hBr__; have zBr := lt_of_heap hBr__; clear hBr__
    have HBo := Lib.hid hBo__; have cBo := cells4 hBo__; have fBo := frozen_of hBo__; have zBo := lt_of_heap hBo__; clear hBo__
    go_wp2
    refine NoPanic.normal ?_
    go_wp2
    have hK := set4 (keep4 (b' := we.heap.size) HBr.out (by omega) (.int .u64 d0) (.int .u64 d1) (.int .u64 d2) (.int .u64 d3)) (.int .u64 d0) (.int .u64 d1) (.int .u64 d2) (.int .u64 d3)
    have hL := set4_below (set4_below HB.out (b := we.heap.size) (by omega) (.int .u64 d0) (.int .u64 d1) (.int .u64 d2) (.int .u64 d3)) (b := w.heap.size + 1 + 1) (by omega) (.int .u64 d0) (.int .u64 d1) (.int .u64 d2) (.int .u64 d3)
    have hQ := cells4 hK
    exact bodyPost_ret (v := .agg #[.int .u64 d0, .int .u64 d1, .int .u64 d2, .int .u64 d3]) (by simp [results, Try.results39, go_sem, hQ]) rfl ⟨rfl, hL⟩

end Go.Proofs.Ytldnjbpcdojffaa
