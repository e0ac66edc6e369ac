/- @@NUM 25 The walks of residue's Add (of one, two, three numbers, and of none). Conditions: words are below 2^64. -/
import Derived.Test.YtldnjbpcdojffaaR6
namespace Go.Proofs.Ytldnjbpcdojffaa
set_option linter.unusedVariables false
set_option linter.unusedSimpArgs false
open Go Go.RowKit
open Pl (V V8 W4 T256 pP)

set_option maxHeartbeats 1000000 in
theorem Add0_fact : ∃ r0 r1 r2 r3 : Nat, (W4 r0 r1 r2 r3 ∧ V r0 r1 r2 r3 = 0) ∧ ∀ w : World,
    Calls Try.prog 23 #[.slice none 0 0] w fun e w' => e = .returned (.agg #[.int .u64 r0, .int .u64 r1, .int .u64 r2, .int .u64 r3]) ∧ Below w.heap.size w w' := by
  refine ⟨0, 0, 0, 0, ⟨by unfold W4; omega, by decide⟩, fun w => ?_⟩
  go_enter Try.func23, Try.ntmps23
  go_wp2
  refine wp_loop_rounds 1 ?_
  rw [rounds_succ]
  go_wp2
  refine bodyPost_ret (v := .agg #[.int .u64 0, .int .u64 0, .int .u64 0, .int .u64 0]) (by simp [results, Try.results23, go_sem]) rfl ⟨rfl, ?_⟩
  go_grown


set_option maxHeartbeats 4000000 in
theorem Add1_fact (a0 a1 a2 a3 : Nat) (ha : W4 a0 a1 a2 a3) : ∃ r0 r1 r2 r3 : Nat, (W4 r0 r1 r2 r3 ∧ V r0 r1 r2 r3 = (V a0 a1 a2 a3) % pP) ∧ ∀ (b : Nat) (w : World), w.heap[b]? = some (.cells #[.int .u64 a0, .int .u64 a1, .int .u64 a2, .int .u64 a3] 25 (0, 0)) →
    Calls Try.prog 23 #[.slice (some ⟨b, 0, none⟩) 1 1] w fun e w' => e = .returned (.agg #[.int .u64 r0, .int .u64 r1, .int .u64 r2, .int .u64 r3]) ∧ Below w.heap.size w w' := by
  have hz : W4 0 0 0 0 := by unfold W4; omega
  have hzv : V 0 0 0 0 < pP := by decide +kernel
  obtain ⟨s00, s01, s02, s03, ⟨hs0, hsv0⟩, FS0⟩ := small_fact a0 a1 a2 a3 ha
  obtain ⟨o00, o01, o02, o03, ⟨ho0, hov0'⟩, FO0⟩ := add_fact 0 0 0 0 s00 s01 s02 s03 hz hs0
  have hov0 := hov0' hzv (by rw [hsv0]; exact Nat.mod_lt _ pP_pos)
  clear hov0'
  have hol0 : V o00 o01 o02 o03 < pP := by rw [hov0]; exact Nat.mod_lt _ pP_pos
  refine ⟨o00, o01, o02, o03, ⟨ho0, ?_⟩, fun b w hL0 => ?_⟩
  · rw [hov0, hsv0]
    simp only [Nat.mod_add_mod, Nat.add_mod_mod, Nat.mod_mod, show V 0 0 0 0 = 0 from by decide, Nat.zero_add]
  have HO0 := Lib.hid FO0
  have HS0 := Lib.hid FS0
  clear FO0 FS0 hsv0 hol0 hov0 ho0 hs0 hz hzv ha
  have HL := Lib.hid hL0
  have zl : b < w.heap.size := lt_of_heap hL0
  clear hL0
  go_enter Try.func23, Try.ntmps23
  have cL0 := cells4 HL.out
  go_wp2
  refine wp_loop_rounds 2 ?_
  rw [rounds_succ]
  go_wp2
  refine Rg.region_ (n := 18) [0, 0, 2, 7, 15] [1, 1, 1, 1, 2] [12, 13, 14, 15, 0] [[(3, none)], [(5, none)], [(13, some 1)], [(12, some 0), (14, some 2)], [(3, none), (15, some 3)]] 4 (by kernel_rfl) (by kernel_rfl) (by rfl) ?_
  intro W hW
  have hO : W.heap[w.heap.size + 1]? = some (.cells #[.int .u64 0, .int .u64 0, .int .u64 0, .int .u64 0] 25 (0, 0)) := by rw [hW]; exact heap_drew (heap_old (heap_new' (by simp) _) _)
  have hE : W.heap[w.heap.size + 1 + 1]? = some (.cells #[.int .u64 a0, .int .u64 a1, .int .u64 a2, .int .u64 a3] 25 (0, 0)) := by rw [hW]; exact heap_drew (heap_new' (by simp) _)
  have hR : W.heap[w.heap.size]? = some (.cells #[.int .u64 0, .int .u64 0, .int .u64 0, .int .u64 0] 25 (0, 0)) := by rw [hW]; exact heap_drew (heap_old (heap_old (heap_new _ _) _) _)
  have hL : W.heap[b]? = some (.cells #[.int .u64 a0, .int .u64 a1, .int .u64 a2, .int .u64 a3] 25 (0, 0)) := by rw [hW]; exact heap_drew (heap_old (heap_old (heap_old HL.out _) _) _)
  have HB0 : Below w.heap.size w W := by rw [hW]; go_grown
  change Rg.Chain' _ _ _ _ _ [(0, 1, 12, [(3, none)]), (1, 1, 13, [(5, none)]), (2, 1, 14, [(13, some 1)]), (3, 1, 15, [(12, some 0), (14, some 2)])] [(0, 1, 12, [(3, none)]), (1, 1, 13, [(5, none)]), (2, 1, 14, [(13, some 1)]), (3, 1, 15, [(12, some 0), (14, some 2)])] _
  apply Rg.ch_def (by rfl) (fun a w1 _ => Rg.wanted_none (by rfl))
  · rintro a w1 hb ⟨e3, -⟩
    conv at e3 => rhs; whnf
    have n3 := e3
    simp only [Act.eval, Array.getD_eq_getD_getElem?] at n3
    apply Rg.gives_value
    · conv => lhs; simp [go_sem, n3, cells4 (heap_keep' hb hO), cells4 (heap_keep' hb hE)]
    · exact ⟨rfl, Below.refl _ _⟩
  apply Rg.ch_def (by rfl) (fun a w1 _ => Rg.wanted_none (by rfl))
  · rintro a w1 hb ⟨e5, -⟩
    conv at e5 => rhs; whnf
    have n5 := e5
    simp only [Act.eval, Array.getD_eq_getD_getElem?] at n5
    apply Rg.gives_value
    · conv => lhs; simp [go_sem, n5, cells4 (heap_keep' hb hO), cells4 (heap_keep' hb hE)]
    · exact ⟨rfl, Below.refl _ _⟩
  apply Rg.ch_def (by rfl) (fun a w1 _ => Rg.wanted_none (by rfl))
  · rintro a w1 hb ⟨e13, -⟩
    replace e13 : a.eval (.tmp 13) = _ := e13
    apply Rg.gives_enter
    · apply run_call Try.func47 (by kernel_rfl) rfl _ (by rfl)
      conv => lhs; simp only [List.map_toArray, List.map_cons, List.map_nil, eval_const_, eval_global_, e13]
    · refine (HS0.out _).mono ?_
      rintro e w2 ⟨rfl, hb2⟩
      exact ⟨_, rfl, rfl, hb2⟩
  apply Rg.ch_def (by rfl) (fun a w1 _ => Rg.wanted_none (by rfl))
  · rintro a w1 hb ⟨e12, e14, -⟩
    replace e12 : a.eval (.tmp 12) = _ := e12
    replace e14 : a.eval (.tmp 14) = _ := e14
    apply Rg.gives_enter
    · apply run_call Try.func46 (by kernel_rfl) rfl _ (by rfl)
      conv => lhs; simp only [List.map_toArray, List.map_cons, List.map_nil, eval_const_, eval_global_, e12, e14]
    · refine (HO0.out _).mono ?_
      rintro e w2 ⟨rfl, hb2⟩
      exact ⟨_, rfl, rfl, hb2⟩
  intro w1 hb1
  rintro _ rfl _ rfl _ rfl _ rfl
  change Go.wpList _ _ _ _ _ _
  simp only [List.drop_succ_cons, List.drop_zero, List.drop_nil, Act.put, List.setIfInBounds_toArray, List.set_cons_succ, List.set_cons_zero]
  obtain ⟨wk1, rfl⟩ : ∃ x : World, x = w1 := ⟨_, rfl⟩
  have hO1 := heap_keep' hb1 hO; have cO := cells4 hO1; have fO := frozen_of hO1
  have HOc := Lib.hid hO1; have HRc := Lib.hid (heap_keep' hb1 hR); have HLc := Lib.hid (heap_keep' hb1 hL)
  have HBc : Hid (Below w.heap.size w wk1) := below_call HB0 HB0.size hb1
  clear cL0
  clear hO hE hR hL HB0 hb1 hW hO1
  go_wp2
  refine NoPanic.normal ?_
  clear cO fO
  have hQ := cells4 (set4 (keep4 (b' := w.heap.size + 1) HRc.out (by omega) (.int .u64 o00) (.int .u64 o01) (.int .u64 o02) (.int .u64 o03)) (.int .u64 o00) (.int .u64 o01) (.int .u64 o02) (.int .u64 o03))
  have cO := cells4 (set4 HOc.out (.int .u64 o00) (.int .u64 o01) (.int .u64 o02) (.int .u64 o03))
  have cR := cells4 HRc.out; have fR := frozen_of HRc.out
  go_wp2
  rw [rounds_succ]
  go_wp2
  refine bodyPost_ret (v := .agg #[.int .u64 o00, .int .u64 o01, .int .u64 o02, .int .u64 o03]) (by simp [results, Try.results23, go_sem, hQ]) rfl ⟨rfl, ?_⟩
  have hb : Below w.heap.size w _ := HBc.out
  go_grown

set_option maxHeartbeats 4000000 in
theorem Add2_fact (a0 a1 a2 a3 b0 b1 b2 b3 : Nat) (ha : W4 a0 a1 a2 a3) (hb : W4 b0 b1 b2 b3) : ∃ r0 r1 r2 r3 : Nat, (W4 r0 r1 r2 r3 ∧ V r0 r1 r2 r3 = (V a0 a1 a2 a3 + V b0 b1 b2 b3) % pP) ∧ ∀ (b : Nat) (w : World), w.heap[b]? = some (.cells #[.int .u64 a0, .int .u64 a1, .int .u64 a2, .int .u64 a3, .int .u64 b0, .int .u64 b1, .int .u64 b2, .int .u64 b3] 25 (0, 0)) →
    Calls Try.prog 23 #[.slice (some ⟨b, 0, none⟩) 2 2] w fun e w' => e = .returned (.agg #[.int .u64 r0, .int .u64 r1, .int .u64 r2, .int .u64 r3]) ∧ Below w.heap.size w w' := by
  have hz : W4 0 0 0 0 := by unfold W4; omega
  have hzv : V 0 0 0 0 < pP := by decide +kernel
  obtain ⟨s00, s01, s02, s03, ⟨hs0, hsv0⟩, FS0⟩ := small_fact a0 a1 a2 a3 ha
  obtain ⟨o00, o01, o02, o03, ⟨ho0, hov0'⟩, FO0⟩ := add_fact 0 0 0 0 s00 s01 s02 s03 hz hs0
  have hov0 := hov0' hzv (by rw [hsv0]; exact Nat.mod_lt _ pP_pos)
  clear hov0'
  have hol0 : V o00 o01 o02 o03 < pP := by rw [hov0]; exact Nat.mod_lt _ pP_pos
  obtain ⟨s10, s11, s12, s13, ⟨hs1, hsv1⟩, FS1⟩ := small_fact b0 b1 b2 b3 hb
  obtain ⟨o10, o11, o12, o13, ⟨ho1, hov1'⟩, FO1⟩ := add_fact o00 o01 o02 o03 s10 s11 s12 s13 ho0 hs1
  have hov1 := hov1' hol0 (by rw [hsv1]; exact Nat.mod_lt _ pP_pos)
  clear hov1'
  have hol1 : V o10 o11 o12 o13 < pP := by rw [hov1]; exact Nat.mod_lt _ pP_pos
  refine ⟨o10, o11, o12, o13, ⟨ho1, ?_⟩, fun b w hL0 => ?_⟩
  · rw [hov1, hsv1, hov0, hsv0]
    simp only [Nat.mod_add_mod, Nat.add_mod_mod, Nat.mod_mod, show V 0 0 0 0 = 0 from by decide, Nat.zero_add]
  have HO0 := Lib.hid FO0
  have HS0 := Lib.hid FS0
  have HO1 := Lib.hid FO1
  have HS1 := Lib.hid FS1
  clear FO0 FS0 hsv0 hol0 FO1 FS1 hsv1 hol1 hov1 ho1 hov0 ho0 hs1 hs0 hz hzv ha hb
  have HL := Lib.hid hL0
  have zl : b < w.heap.size := lt_of_heap hL0
  clear hL0
  go_enter Try.func23, Try.ntmps23
  have cL0 := cells8 HL.out
  go_wp2
  refine wp_loop_rounds 3 ?_
  rw [rounds_succ]
  go_wp2
  refine Rg.region_ (n := 18) [0, 0, 2, 7, 15] [1, 1, 1, 1, 2] [12, 13, 14, 15, 0] [[(3, none)], [(5, none)], [(13, some 1)], [(12, some 0), (14, some 2)], [(3, none), (15, some 3)]] 4 (by kernel_rfl) (by kernel_rfl) (by rfl) ?_
  intro W hW
  have hO : W.heap[w.heap.size + 1]? = some (.cells #[.int .u64 0, .int .u64 0, .int .u64 0, .int .u64 0] 25 (0, 0)) := by rw [hW]; exact heap_drew (heap_old (heap_new' (by simp) _) _)
  have hE : W.heap[w.heap.size + 1 + 1]? = some (.cells #[.int .u64 a0, .int .u64 a1, .int .u64 a2, .int .u64 a3] 25 (0, 0)) := by rw [hW]; exact heap_drew (heap_new' (by simp) _)
  have hR : W.heap[w.heap.size]? = some (.cells #[.int .u64 0, .int .u64 0, .int .u64 0, .int .u64 0] 25 (0, 0)) := by rw [hW]; exact heap_drew (heap_old (heap_old (heap_new _ _) _) _)
  have hL : W.heap[b]? = some (.cells #[.int .u64 a0, .int .u64 a1, .int .u64 a2, .int .u64 a3, .int .u64 b0, .int .u64 b1, .int .u64 b2, .int .u64 b3] 25 (0, 0)) := by rw [hW]; exact heap_drew (heap_old (heap_old (heap_old HL.out _) _) _)
  have HB0 : Below w.heap.size w W := by rw [hW]; go_grown
  change Rg.Chain' _ _ _ _ _ [(0, 1, 12, [(3, none)]), (1, 1, 13, [(5, none)]), (2, 1, 14, [(13, some 1)]), (3, 1, 15, [(12, some 0), (14, some 2)])] [(0, 1, 12, [(3, none)]), (1, 1, 13, [(5, none)]), (2, 1, 14, [(13, some 1)]), (3, 1, 15, [(12, some 0), (14, some 2)])] _
  apply Rg.ch_def (by rfl) (fun a w1 _ => Rg.wanted_none (by rfl))
  · rintro a w1 hb ⟨e3, -⟩
    conv at e3 => rhs; whnf
    have n3 := e3
    simp only [Act.eval, Array.getD_eq_getD_getElem?] at n3
    apply Rg.gives_value
    · conv => lhs; simp [go_sem, n3, cells4 (heap_keep' hb hO), cells4 (heap_keep' hb hE)]
    · exact ⟨rfl, Below.refl _ _⟩
  apply Rg.ch_def (by rfl) (fun a w1 _ => Rg.wanted_none (by rfl))
  · rintro a w1 hb ⟨e5, -⟩
    conv at e5 => rhs; whnf
    have n5 := e5
    simp only [Act.eval, Array.getD_eq_getD_getElem?] at n5
    apply Rg.gives_value
    · conv => lhs; simp [go_sem, n5, cells4 (heap_keep' hb hO), cells4 (heap_keep' hb hE)]
    · exact ⟨rfl, Below.refl _ _⟩
  apply Rg.ch_def (by rfl) (fun a w1 _ => Rg.wanted_none (by rfl))
  · rintro a w1 hb ⟨e13, -⟩
    replace e13 : a.eval (.tmp 13) = _ := e13
    apply Rg.gives_enter
    · apply run_call Try.func47 (by kernel_rfl) rfl _ (by rfl)
      conv => lhs; simp only [List.map_toArray, List.map_cons, List.map_nil, eval_const_, eval_global_, e13]
    · refine (HS0.out _).mono ?_
      rintro e w2 ⟨rfl, hb2⟩
      exact ⟨_, rfl, rfl, hb2⟩
  apply Rg.ch_def (by rfl) (fun a w1 _ => Rg.wanted_none (by rfl))
  · rintro a w1 hb ⟨e12, e14, -⟩
    replace e12 : a.eval (.tmp 12) = _ := e12
    replace e14 : a.eval (.tmp 14) = _ := e14
    apply Rg.gives_enter
    · apply run_call Try.func46 (by kernel_rfl) rfl _ (by rfl)
      conv => lhs; simp only [List.map_toArray, List.map_cons, List.map_nil, eval_const_, eval_global_, e12, e14]
    · refine (HO0.out _).mono ?_
      rintro e w2 ⟨rfl, hb2⟩
      exact ⟨_, rfl, rfl, hb2⟩
  intro w1 hb1
  rintro _ rfl _ rfl _ rfl _ rfl
  change Go.wpList _ _ _ _ _ _
  simp only [List.drop_succ_cons, List.drop_zero, List.drop_nil, Act.put, List.setIfInBounds_toArray, List.set_cons_succ, List.set_cons_zero]
  obtain ⟨wk1, rfl⟩ : ∃ x : World, x = w1 := ⟨_, rfl⟩
  have hO1 := heap_keep' hb1 hO; have cO := cells4 hO1; have fO := frozen_of hO1
  have HOc := Lib.hid hO1; have HRc := Lib.hid (heap_keep' hb1 hR); have HLc := Lib.hid (heap_keep' hb1 hL)
  have HBc : Hid (Below w.heap.size w wk1) := below_call HB0 HB0.size hb1
  clear cL0
  clear hO hE hR hL HB0 hb1 hW hO1
  go_wp2
  refine NoPanic.normal ?_
  clear cO fO
  have cL := cells8 HLc.out; have zL := lt_of_heap HLc.out
  go_wp2
  skip
  rw [rounds_succ]
  go_wp2
  refine Rg.region_ (n := 18) [0, 0, 2, 7, 15] [1, 1, 1, 1, 2] [12, 13, 14, 15, 0] [[(3, none)], [(5, none)], [(13, some 1)], [(12, some 0), (14, some 2)], [(3, none), (15, some 3)]] 4 (by kernel_rfl) (by kernel_rfl) (by rfl) ?_
  intro W hW
  have hO : W.heap[w.heap.size + 1]? = some (.cells #[.int .u64 o00, .int .u64 o01, .int .u64 o02, .int .u64 o03] 25 (0, 0)) := by rw [hW]; exact heap_drew (heap_old (set4 HOc.out _ _ _ _) _)
  have hE : W.heap[wk1.heap.size]? = some (.cells #[.int .u64 b0, .int .u64 b1, .int .u64 b2, .int .u64 b3] 25 (0, 0)) := by rw [hW]; exact heap_drew (heap_new' (by rw [size4]) _)
  have hR : W.heap[w.heap.size]? = some (.cells #[.int .u64 0, .int .u64 0, .int .u64 0, .int .u64 0] 25 (0, 0)) := by rw [hW]; exact heap_drew (heap_old (keep4 HRc.out (by omega) _ _ _ _) _)
  have hL : W.heap[b]? = some (.cells #[.int .u64 a0, .int .u64 a1, .int .u64 a2, .int .u64 a3, .int .u64 b0, .int .u64 b1, .int .u64 b2, .int .u64 b3] 25 (0, 0)) := by rw [hW]; exact heap_drew (heap_old (keep4 HLc.out (by omega) _ _ _ _) _)
  have HB0 : Below w.heap.size w W := by rw [hW]; exact (((set4_below HBc.out (by omega) _ _ _ _).alloc (by rw [size4]; exact HBc.out.size) _)).drew
  change Rg.Chain' _ _ _ _ _ [(0, 1, 12, [(3, none)]), (1, 1, 13, [(5, none)]), (2, 1, 14, [(13, some 1)]), (3, 1, 15, [(12, some 0), (14, some 2)])] [(0, 1, 12, [(3, none)]), (1, 1, 13, [(5, none)]), (2, 1, 14, [(13, some 1)]), (3, 1, 15, [(12, some 0), (14, some 2)])] _
  apply Rg.ch_def (by rfl) (fun a w1 _ => Rg.wanted_none (by rfl))
  · rintro a w1 hb ⟨e3, -⟩
    conv at e3 => rhs; whnf
    have n3 := e3
    simp only [Act.eval, Array.getD_eq_getD_getElem?] at n3
    apply Rg.gives_value
    · conv => lhs; simp [go_sem, n3, cells4 (heap_keep' hb hO), cells4 (heap_keep' hb hE)]
    · exact ⟨rfl, Below.refl _ _⟩
  apply Rg.ch_def (by rfl) (fun a w1 _ => Rg.wanted_none (by rfl))
  · rintro a w1 hb ⟨e5, -⟩
    conv at e5 => rhs; whnf
    have n5 := e5
    simp only [Act.eval, Array.getD_eq_getD_getElem?] at n5
    apply Rg.gives_value
    · conv => lhs; simp [go_sem, n5, cells4 (heap_keep' hb hO), cells4 (heap_keep' hb hE)]
    · exact ⟨rfl, Below.refl _ _⟩
  apply Rg.ch_def (by rfl) (fun a w1 _ => Rg.wanted_none (by rfl))
  · rintro a w1 hb ⟨e13, -⟩
    replace e13 : a.eval (.tmp 13) = _ := e13
    apply Rg.gives_enter
    · apply run_call Try.func47 (by kernel_rfl) rfl _ (by rfl)
      conv => lhs; simp only [List.map_toArray, List.map_cons, List.map_nil, eval_const_, eval_global_, e13]
    · refine (HS1.out _).mono ?_
      rintro e w2 ⟨rfl, hb2⟩
      exact ⟨_, rfl, rfl, hb2⟩
  apply Rg.ch_def (by rfl) (fun a w1 _ => Rg.wanted_none (by rfl))
  · rintro a w1 hb ⟨e12, e14, -⟩
    replace e12 : a.eval (.tmp 12) = _ := e12
    replace e14 : a.eval (.tmp 14) = _ := e14
    apply Rg.gives_enter
    · apply run_call Try.func46 (by kernel_rfl) rfl _ (by rfl)
      conv => lhs; simp only [List.map_toArray, List.map_cons, List.map_nil, eval_const_, eval_global_, e12, e14]
    · refine (HO1.out _).mono ?_
      rintro e w2 ⟨rfl, hb2⟩
      exact ⟨_, rfl, rfl, hb2⟩
  intro w1 hb1
  rintro _ rfl _ rfl _ rfl _ rfl
  change Go.wpList _ _ _ _ _ _
  simp only [List.drop_succ_cons, List.drop_zero, List.drop_nil, Act.put, List.setIfInBounds_toArray, List.set_cons_succ, List.set_cons_zero]
  obtain ⟨wk2, rfl⟩ : ∃ x : World, x = w1 := ⟨_, rfl⟩
  have hO1 := heap_keep' hb1 hO; have cO := cells4 hO1; have fO := frozen_of hO1
  clear HOc HRc HLc HBc
  have HOc := Lib.hid hO1; have HRc := Lib.hid (heap_keep' hb1 hR); have HLc := Lib.hid (heap_keep' hb1 hL)
  have HBc : Hid (Below w.heap.size w wk2) := below_call HB0 HB0.size hb1
  clear hO hE hR hL HB0 hb1 hW hO1
  go_wp2
  refine NoPanic.normal ?_
  clear cO fO
  have hQ := cells4 (set4 (keep4 (b' := w.heap.size + 1) HRc.out (by omega) (.int .u64 o10) (.int .u64 o11) (.int .u64 o12) (.int .u64 o13)) (.int .u64 o10) (.int .u64 o11) (.int .u64 o12) (.int .u64 o13))
  have cO := cells4 (set4 HOc.out (.int .u64 o10) (.int .u64 o11) (.int .u64 o12) (.int .u64 o13))
  have cR := cells4 HRc.out; have fR := frozen_of HRc.out
  go_wp2
  rw [rounds_succ]
  go_wp2
  refine bodyPost_ret (v := .agg #[.int .u64 o10, .int .u64 o11, .int .u64 o12, .int .u64 o13]) (by simp [results, Try.results23, go_sem, hQ]) rfl ⟨rfl, ?_⟩
  have hb : Below w.heap.size w _ := HBc.out
  go_grown

set_option maxHeartbeats 4000000 in
theorem Add3_fact (a0 a1 a2 a3 b0 b1 b2 b3 c0 c1 c2 c3 : Nat) (ha : W4 a0 a1 a2 a3) (hb : W4 b0 b1 b2 b3) (hc : W4 c0 c1 c2 c3) : ∃ r0 r1 r2 r3 : Nat, (W4 r0 r1 r2 r3 ∧ V r0 r1 r2 r3 = (V a0 a1 a2 a3 + V b0 b1 b2 b3 + V c0 c1 c2 c3) % pP) ∧ ∀ (b : Nat) (w : World), w.heap[b]? = some (.cells #[.int .u64 a0, .int .u64 a1, .int .u64 a2, .int .u64 a3, .int .u64 b0, .int .u64 b1, .int .u64 b2, .int .u64 b3, .int .u64 c0, .int .u64 c1, .int .u64 c2, .int .u64 c3] 25 (0, 0)) →
    Calls Try.prog 23 #[.slice (some ⟨b, 0, none⟩) 3 3] w fun e w' => e = .returned (.agg #[.int .u64 r0, .int .u64 r1, .int .u64 r2, .int .u64 r3]) ∧ Below w.heap.size w w' := by
  have hz : W4 0 0 0 0 := by unfold W4; omega
  have hzv : V 0 0 0 0 < pP := by decide +kernel
  obtain ⟨s00, s01, s02, s03, ⟨hs0, hsv0⟩, FS0⟩ := small_fact a0 a1 a2 a3 ha
  obtain ⟨o00, o01, o02, o03, ⟨ho0, hov0'⟩, FO0⟩ := add_fact 0 0 0 0 s00 s01 s02 s03 hz hs0
  have hov0 := hov0' hzv (by rw [hsv0]; exact Nat.mod_lt _ pP_pos)
  clear hov0'
  have hol0 : V o00 o01 o02 o03 < pP := by rw [hov0]; exact Nat.mod_lt _ pP_pos
  obtain ⟨s10, s11, s12, s13, ⟨hs1, hsv1⟩, FS1⟩ := small_fact b0 b1 b2 b3 hb
  obtain ⟨o10, o11, o12, o13, ⟨ho1, hov1'⟩, FO1⟩ := add_fact o00 o01 o02 o03 s10 s11 s12 s13 ho0 hs1
  have hov1 := hov1' hol0 (by rw [hsv1]; exact Nat.mod_lt _ pP_pos)
  clear hov1'
  have hol1 : V o10 o11 o12 o13 < pP := by rw [hov1]; exact Nat.mod_lt _ pP_pos
  obtain ⟨s20, s21, s22, s23, ⟨hs2, hsv2⟩, FS2⟩ := small_fact c0 c1 c2 c3 hc
  obtain ⟨o20, o21, o22, o23, ⟨ho2, hov2'⟩, FO2⟩ := add_fact o10 o11 o12 o13 s20 s21 s22 s23 ho1 hs2
  have hov2 := hov2' hol1 (by rw [hsv2]; exact Nat.mod_lt _ pP_pos)
  clear hov2'
  have hol2 : V o20 o21 o22 o23 < pP := by rw [hov2]; exact Nat.mod_lt _ pP_pos
  refine ⟨o20, o21, o22, o23, ⟨ho2, ?_⟩, fun b w hL0 => ?_⟩
  · rw [hov2, hsv2, hov1, hsv1, hov0, hsv0]
    simp only [Nat.mod_add_mod, Nat.add_mod_mod, Nat.mod_mod, show V 0 0 0 0 = 0 from by decide, Nat.zero_add]
  have HO0 := Lib.hid FO0
  have HS0 := Lib.hid FS0
  have HO1 := Lib.hid FO1
  have HS1 := Lib.hid FS1
  have HO2 := Lib.hid FO2
  have HS2 := Lib.hid FS2
  clear FO0 FS0 hsv0 hol0 FO1 FS1 hsv1 hol1 FO2 FS2 hsv2 hol2 hov2 ho2 hov1 ho1 hov0 ho0 hs2 hs1 hs0 hz hzv ha hb hc
  have HL := Lib.hid hL0
  have zl : b < w.heap.size := lt_of_heap hL0
  clear hL0
  go_enter Try.func23, Try.ntmps23
  have cL0 := cells12 HL.out
  go_wp2
  refine wp_loop_rounds 4 ?_
  rw [rounds_succ]
  go_wp2
  refine Rg.region_ (n := 18) [0, 0, 2, 7, 15] [1, 1, 1, 1, 2] [12, 13, 14, 15, 0] [[(3, none)], [(5, none)], [(13, some 1)], [(12, some 0), (14, some 2)], [(3, none), (15, some 3)]] 4 (by kernel_rfl) (by kernel_rfl) (by rfl) ?_
  intro W hW
  have hO : W.heap[w.heap.size + 1]? = some (.cells #[.int .u64 0, .int .u64 0, .int .u64 0, .int .u64 0] 25 (0, 0)) := by rw [hW]; exact heap_drew (heap_old (heap_new' (by simp) _) _)
  have hE : W.heap[w.heap.size + 1 + 1]? = some (.cells #[.int .u64 a0, .int .u64 a1, .int .u64 a2, .int .u64 a3] 25 (0, 0)) := by rw [hW]; exact heap_drew (heap_new' (by simp) _)
  have hR : W.heap[w.heap.size]? = some (.cells #[.int .u64 0, .int .u64 0, .int .u64 0, .int .u64 0] 25 (0, 0)) := by rw [hW]; exact heap_drew (heap_old (heap_old (heap_new _ _) _) _)
  have hL : W.heap[b]? = some (.cells #[.int .u64 a0, .int .u64 a1, .int .u64 a2, .int .u64 a3, .int .u64 b0, .int .u64 b1, .int .u64 b2, .int .u64 b3, .int .u64 c0, .int .u64 c1, .int .u64 c2, .int .u64 c3] 25 (0, 0)) := by rw [hW]; exact heap_drew (heap_old (heap_old (heap_old HL.out _) _) _)
  have HB0 : Below w.heap.size w W := by rw [hW]; go_grown
  change Rg.Chain' _ _ _ _ _ [(0, 1, 12, [(3, none)]), (1, 1, 13, [(5, none)]), (2, 1, 14, [(13, some 1)]), (3, 1, 15, [(12, some 0), (14, some 2)])] [(0, 1, 12, [(3, none)]), (1, 1, 13, [(5, none)]), (2, 1, 14, [(13, some 1)]), (3, 1, 15, [(12, some 0), (14, some 2)])] _
  apply Rg.ch_def (by rfl) (fun a w1 _ => Rg.wanted_none (by rfl))
  · rintro a w1 hb ⟨e3, -⟩
    conv at e3 => rhs; whnf
    have n3 := e3
    simp only [Act.eval, Array.getD_eq_getD_getElem?] at n3
    apply Rg.gives_value
    · conv => lhs; simp [go_sem, n3, cells4 (heap_keep' hb hO), cells4 (heap_keep' hb hE)]
    · exact ⟨rfl, Below.refl _ _⟩
  apply Rg.ch_def (by rfl) (fun a w1 _ => Rg.wanted_none (by rfl))
  · rintro a w1 hb ⟨e5, -⟩
    conv at e5 => rhs; whnf
    have n5 := e5
    simp only [Act.eval, Array.getD_eq_getD_getElem?] at n5
    apply Rg.gives_value
    · conv => lhs; simp [go_sem, n5, cells4 (heap_keep' hb hO), cells4 (heap_keep' hb hE)]
    · exact ⟨rfl, Below.refl _ _⟩
  apply Rg.ch_def (by rfl) (fun a w1 _ => Rg.wanted_none (by rfl))
  · rintro a w1 hb ⟨e13, -⟩
    replace e13 : a.eval (.tmp 13) = _ := e13
    apply Rg.gives_enter
    · apply run_call Try.func47 (by kernel_rfl) rfl _ (by rfl)
      conv => lhs; simp only [List.map_toArray, List.map_cons, List.map_nil, eval_const_, eval_global_, e13]
    · refine (HS0.out _).mono ?_
      rintro e w2 ⟨rfl, hb2⟩
      exact ⟨_, rfl, rfl, hb2⟩
  apply Rg.ch_def (by rfl) (fun a w1 _ => Rg.wanted_none (by rfl))
  · rintro a w1 hb ⟨e12, e14, -⟩
    replace e12 : a.eval (.tmp 12) = _ := e12
    replace e14 : a.eval (.tmp 14) = _ := e14
    apply Rg.gives_enter
    · apply run_call Try.func46 (by kernel_rfl) rfl _ (by rfl)
      conv => lhs; simp only [List.map_toArray, List.map_cons, List.map_nil, eval_const_, eval_global_, e12, e14]
    · refine (HO0.out _).mono ?_
      rintro e w2 ⟨rfl, hb2⟩
      exact ⟨_, rfl, rfl, hb2⟩
  intro w1 hb1
  rintro _ rfl _ rfl _ rfl _ rfl
  change Go.wpList _ _ _ _ _ _
  simp only [List.drop_succ_cons, List.drop_zero, List.drop_nil, Act.put, List.setIfInBounds_toArray, List.set_cons_succ, List.set_cons_zero]
  obtain ⟨wk1, rfl⟩ : ∃ x : World, x = w1 := ⟨_, rfl⟩
  have hO1 := heap_keep' hb1 hO; have cO := cells4 hO1; have fO := frozen_of hO1
  have HOc := Lib.hid hO1; have HRc := Lib.hid (heap_keep' hb1 hR); have HLc := Lib.hid (heap_keep' hb1 hL)
  have HBc : Hid (Below w.heap.size w wk1) := below_call HB0 HB0.size hb1
  clear cL0
  clear hO hE hR hL HB0 hb1 hW hO1
  go_wp2
  refine NoPanic.normal ?_
  clear cO fO
  have cL := cells12 HLc.out; have zL := lt_of_heap HLc.out
  go_wp2
  skip
  rw [rounds_succ]
  go_wp2
  refine Rg.region_ (n := 18) [0, 0, 2, 7, 15] [1, 1, 1, 1, 2] [12, 13, 14, 15, 0] [[(3, none)], [(5, none)], [(13, some 1)], [(12, some 0), (14, some 2)], [(3, none), (15, some 3)]] 4 (by kernel_rfl) (by kernel_rfl) (by rfl) ?_
  intro W hW
  have hO : W.heap[w.heap.size + 1]? = some (.cells #[.int .u64 o00, .int .u64 o01, .int .u64 o02, .int .u64 o03] 25 (0, 0)) := by rw [hW]; exact heap_drew (heap_old (set4 HOc.out _ _ _ _) _)
  have hE : W.heap[wk1.heap.size]? = some (.cells #[.int .u64 b0, .int .u64 b1, .int .u64 b2, .int .u64 b3] 25 (0, 0)) := by rw [hW]; exact heap_drew (heap_new' (by rw [size4]) _)
  have hR : W.heap[w.heap.size]? = some (.cells #[.int .u64 0, .int .u64 0, .int .u64 0, .int .u64 0] 25 (0, 0)) := by rw [hW]; exact heap_drew (heap_old (keep4 HRc.out (by omega) _ _ _ _) _)
  have hL : W.heap[b]? = some (.cells #[.int .u64 a0, .int .u64 a1, .int .u64 a2, .int .u64 a3, .int .u64 b0, .int .u64 b1, .int .u64 b2, .int .u64 b3, .int .u64 c0, .int .u64 c1, .int .u64 c2, .int .u64 c3] 25 (0, 0)) := by rw [hW]; exact heap_drew (heap_old (keep4 HLc.out (by omega) _ _ _ _) _)
  have HB0 : Below w.heap.size w W := by rw [hW]; exact (((set4_below HBc.out (by omega) _ _ _ _).alloc (by rw [size4]; exact HBc.out.size) _)).drew
  change Rg.Chain' _ _ _ _ _ [(0, 1, 12, [(3, none)]), (1, 1, 13, [(5, none)]), (2, 1, 14, [(13, some 1)]), (3, 1, 15, [(12, some 0), (14, some 2)])] [(0, 1, 12, [(3, none)]), (1, 1, 13, [(5, none)]), (2, 1, 14, [(13, some 1)]), (3, 1, 15, [(12, some 0), (14, some 2)])] _
  apply Rg.ch_def (by rfl) (fun a w1 _ => Rg.wanted_none (by rfl))
  · rintro a w1 hb ⟨e3, -⟩
    conv at e3 => rhs; whnf
    have n3 := e3
    simp only [Act.eval, Array.getD_eq_getD_getElem?] at n3
    apply Rg.gives_value
    · conv => lhs; simp [go_sem, n3, cells4 (heap_keep' hb hO), cells4 (heap_keep' hb hE)]
    · exact ⟨rfl, Below.refl _ _⟩
  apply Rg.ch_def (by rfl) (fun a w1 _ => Rg.wanted_none (by rfl))
  · rintro a w1 hb ⟨e5, -⟩
    conv at e5 => rhs; whnf
    have n5 := e5
    simp only [Act.eval, Array.getD_eq_getD_getElem?] at n5
    apply Rg.gives_value
    · conv => lhs; simp [go_sem, n5, cells4 (heap_keep' hb hO), cells4 (heap_keep' hb hE)]
    · exact ⟨rfl, Below.refl _ _⟩
  apply Rg.ch_def (by rfl) (fun a w1 _ => Rg.wanted_none (by rfl))
  · rintro a w1 hb ⟨e13, -⟩
    replace e13 : a.eval (.tmp 13) = _ := e13
    apply Rg.gives_enter
    · apply run_call Try.func47 (by kernel_rfl) rfl _ (by rfl)
      conv => lhs; simp only [List.map_toArray, List.map_cons, List.map_nil, eval_const_, eval_global_, e13]
    · refine (HS1.out _).mono ?_
      rintro e w2 ⟨rfl, hb2⟩
      exact ⟨_, rfl, rfl, hb2⟩
  apply Rg.ch_def (by rfl) (fun a w1 _ => Rg.wanted_none (by rfl))
  · rintro a w1 hb ⟨e12, e14, -⟩
    replace e12 : a.eval (.tmp 12) = _ := e12
    replace e14 : a.eval (.tmp 14) = _ := e14
    apply Rg.gives_enter
    · apply run_call Try.func46 (by kernel_rfl) rfl _ (by rfl)
      conv => lhs; simp only [List.map_toArray, List.map_cons, List.map_nil, eval_const_, eval_global_, e12, e14]
    · refine (HO1.out _).mono ?_
      rintro e w2 ⟨rfl, hb2⟩
      exact ⟨_, rfl, rfl, hb2⟩
  intro w1 hb1
  rintro _ rfl _ rfl _ rfl _ rfl
  change Go.wpList _ _ _ _ _ _
  simp only [List.drop_succ_cons, List.drop_zero, List.drop_nil, Act.put, List.setIfInBounds_toArray, List.set_cons_succ, List.set_cons_zero]
  obtain ⟨wk2, rfl⟩ : ∃ x : World, x = w1 := ⟨_, rfl⟩
  have hO1 := heap_keep' hb1 hO; have cO := cells4 hO1; have fO := frozen_of hO1
  clear HOc HRc HLc HBc
  have HOc := Lib.hid hO1; have HRc := Lib.hid (heap_keep' hb1 hR); have HLc := Lib.hid (heap_keep' hb1 hL)
  have HBc : Hid (Below w.heap.size w wk2) := below_call HB0 HB0.size hb1
  clear hO hE hR hL HB0 hb1 hW hO1
  go_wp2
  refine NoPanic.normal ?_
  clear cO fO
  have cL := cells12 HLc.out; have zL := lt_of_heap HLc.out
  go_wp2
  skip
  rw [rounds_succ]
  go_wp2
  refine Rg.region_ (n := 18) [0, 0, 2, 7, 15] [1, 1, 1, 1, 2] [12, 13, 14, 15, 0] [[(3, none)], [(5, none)], [(13, some 1)], [(12, some 0), (14, some 2)], [(3, none), (15, some 3)]] 4 (by kernel_rfl) (by kernel_rfl) (by rfl) ?_
  intro W hW
  have hO : W.heap[w.heap.size + 1]? = some (.cells #[.int .u64 o10, .int .u64 o11, .int .u64 o12, .int .u64 o13] 25 (0, 0)) := by rw [hW]; exact heap_drew (heap_old (set4 HOc.out _ _ _ _) _)
  have hE : W.heap[wk2.heap.size]? = some (.cells #[.int .u64 c0, .int .u64 c1, .int .u64 c2, .int .u64 c3] 25 (0, 0)) := by rw [hW]; exact heap_drew (heap_new' (by rw [size4]) _)
  have hR : W.heap[w.heap.size]? = some (.cells #[.int .u64 0, .int .u64 0, .int .u64 0, .int .u64 0] 25 (0, 0)) := by rw [hW]; exact heap_drew (heap_old (keep4 HRc.out (by omega) _ _ _ _) _)
  have hL : W.heap[b]? = some (.cells #[.int .u64 a0, .int .u64 a1, .int .u64 a2, .int .u64 a3, .int .u64 b0, .int .u64 b1, .int .u64 b2, .int .u64 b3, .int .u64 c0, .int .u64 c1, .int .u64 c2, .int .u64 c3] 25 (0, 0)) := by rw [hW]; exact heap_drew (heap_old (keep4 HLc.out (by omega) _ _ _ _) _)
  have HB0 : Below w.heap.size w W := by rw [hW]; exact (((set4_below HBc.out (by omega) _ _ _ _).alloc (by rw [size4]; exact HBc.out.size) _)).drew
  change Rg.Chain' _ _ _ _ _ [(0, 1, 12, [(3, none)]), (1, 1, 13, [(5, none)]), (2, 1, 14, [(13, some 1)]), (3, 1, 15, [(12, some 0), (14, some 2)])] [(0, 1, 12, [(3, none)]), (1, 1, 13, [(5, none)]), (2, 1, 14, [(13, some 1)]), (3, 1, 15, [(12, some 0), (14, some 2)])] _
  apply Rg.ch_def (by rfl) (fun a w1 _ => Rg.wanted_none (by rfl))
  · rintro a w1 hb ⟨e3, -⟩
    conv at e3 => rhs; whnf
    have n3 := e3
    simp only [Act.eval, Array.getD_eq_getD_getElem?] at n3
    apply Rg.gives_value
    · conv => lhs; simp [go_sem, n3, cells4 (heap_keep' hb hO), cells4 (heap_keep' hb hE)]
    · exact ⟨rfl, Below.refl _ _⟩
  apply Rg.ch_def (by rfl) (fun a w1 _ => Rg.wanted_none (by rfl))
  · rintro a w1 hb ⟨e5, -⟩
    conv at e5 => rhs; whnf
    have n5 := e5
    simp only [Act.eval, Array.getD_eq_getD_getElem?] at n5
    apply Rg.gives_value
    · conv => lhs; simp [go_sem, n5, cells4 (heap_keep' hb hO), cells4 (heap_keep' hb hE)]
    · exact ⟨rfl, Below.refl _ _⟩
  apply Rg.ch_def (by rfl) (fun a w1 _ => Rg.wanted_none (by rfl))
  · rintro a w1 hb ⟨e13, -⟩
    replace e13 : a.eval (.tmp 13) = _ := e13
    apply Rg.gives_enter
    · apply run_call Try.func47 (by kernel_rfl) rfl _ (by rfl)
      conv => lhs; simp only [List.map_toArray, List.map_cons, List.map_nil, eval_const_, eval_global_, e13]
    · refine (HS2.out _).mono ?_
      rintro e w2 ⟨rfl, hb2⟩
      exact ⟨_, rfl, rfl, hb2⟩
  apply Rg.ch_def (by rfl) (fun a w1 _ => Rg.wanted_none (by rfl))
  · rintro a w1 hb ⟨e12, e14, -⟩
    replace e12 : a.eval (.tmp 12) = _ := e12
    replace e14 : a.eval (.tmp 14) = _ := e14
    apply Rg.gives_enter
    · apply run_call Try.func46 (by kernel_rfl) rfl _ (by rfl)
      conv => lhs; simp only [List.map_toArray, List.map_cons, List.map_nil, eval_const_, eval_global_, e12, e14]
    · refine (HO2.out _).mono ?_
      rintro e w2 ⟨rfl, hb2⟩
      exact ⟨_, rfl, rfl, hb2⟩
  intro w1 hb1
  rintro _ rfl _ rfl _ rfl _ rfl
  change Go.wpList _ _ _ _ _ _
  simp only [List.drop_succ_cons, List.drop_zero, List.drop_nil, Act.put, List.setIfInBounds_toArray, List.set_cons_succ, List.set_cons_zero]
  obtain ⟨wk3, rfl⟩ : ∃ x : World, x = w1 := ⟨_, rfl⟩
  have hO1 := heap_keep' hb1 hO; have cO := cells4 hO1; have fO := frozen_of hO1
  clear HOc HRc HLc HBc
  have HOc := Lib.hid hO1; have HRc := Lib.hid (heap_keep' hb1 hR); have HLc := Lib.hid (heap_keep' hb1 hL)
  have HBc : Hid (Below w.heap.size w wk3) := below_call HB0 HB0.size hb1
  clear hO hE hR hL HB0 hb1 hW hO1
  go_wp2
  refine NoPanic.normal ?_
  clear cO fO
  have hQ := cells4 (set4 (keep4 (b' := w.heap.size + 1) HRc.out (by omega) (.int .u64 o20) (.int .u64 o21) (.int .u64 o22) (.int .u64 o23)) (.int .u64 o20) (.int .u64 o21) (.int .u64 o22) (.int .u64 o23))
  have cO := cells4 (set4 HOc.out (.int .u64 o20) (.int .u64 o21) (.int .u64 o22) (.int .u64 o23))
  have cR := cells4 HRc.out; have fR := frozen_of HRc.out
  go_wp2
  rw [rounds_succ]
  go_wp2
  refine bodyPost_ret (v := .agg #[.int .u64 o20, .int .u64 o21, .int .u64 o22, .int .u64 o23]) (by simp [results, Try.results23, go_sem, hQ]) rfl ⟨rfl, ?_⟩
  have hb : Below w.heap.size w _ := HBc.out
  go_grown
end Go.Proofs.Ytldnjbpcdojffaa
