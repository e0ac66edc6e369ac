/- @@NUM 25 The walk of residue's small: a number modulo the prime. Conditions: words are below 2^64. -/
import Derived.Test.YtldnjbpcdojffaaR1
import Derived.Deep.LoopGhost
namespace Go.Proofs.Ytldnjbpcdojffaa
set_option linter.unusedVariables false
set_option linter.unusedSimpArgs false
open Go Go.RowKit
open Pl (V W4 T256 pP)

theorem small_step {m0 m1 m2 m3 r0 r1 r2 r3 p0 p1 p2 p3 c : Nat} (hp : W4 p0 p1 p2 p3 ∧ V p0 p1 p2 p3 = pP) (hm : W4 m0 m1 m2 m3) (hge : ¬ V m0 m1 m2 m3 < pP) (h : W4 r0 r1 r2 r3 ∧ c ≤ 1 ∧ V r0 r1 r2 r3 + V p0 p1 p2 p3 = V m0 m1 m2 m3 + T256 * c) : V r0 r1 r2 r3 + pP = V m0 m1 m2 m3 := by
  have h1 := Pl.V_lt h.1
  have h2 := Pl.V_lt hm
  rw [hp.2] at h
  rcases (show c = 0 ∨ c = 1 by omega) with rfl | rfl
  · omega
  · have : pP < T256 := by decide +kernel
    omega

set_option maxHeartbeats 2000000 in
theorem small_fact (a0 a1 a2 a3 : Nat) (ha : W4 a0 a1 a2 a3) : ∃ r0 r1 r2 r3 : Nat, (W4 r0 r1 r2 r3 ∧ V r0 r1 r2 r3 = V a0 a1 a2 a3 % pP) ∧ ∀ w : World,
    Calls Try.prog 47 #[.agg #[.int .u64 a0, .int .u64 a1, .int .u64 a2, .int .u64 a3]] w fun e w' => e = .returned (.agg #[.int .u64 r0, .int .u64 r1, .int .u64 r2, .int .u64 r3]) ∧ Below w.heap.size w w' := by
  obtain ⟨p0, p1, p2, p3, hp, FP⟩ := prime_fact
  obtain ⟨r0, r1, r2, r3, hr, hv⟩ := Pl.words (V a0 a1 a2 a3 % pP) (Nat.lt_of_le_of_lt (Nat.mod_le _ _) (Pl.V_lt ha))
  refine ⟨r0, r1, r2, r3, ⟨hr, hv⟩, fun w => ?_⟩
  have HP := Lib.hid FP
  clear FP
  have Hp := Lib.hid hp
  have Hr := Lib.hid hr
  have Hv := Lib.hid hv
  have Ha := Lib.hid ha
  clear hp hr hv ha
  go_enter Try.func47, Try.ntmps47
  go_wp2
  go_loopg [] 3 (fun kq wr => ∃ m0 m1 m2 m3 : Nat, Hid (W4 m0 m1 m2 m3 ∧ V m0 m1 m2 m3 % pP = V a0 a1 a2 a3 % pP ∧ V m0 m1 m2 m3 < pP * (kq + 1)) ∧ Hid (wr.heap[w.heap.size]? = some (.cells #[.int .u64 m0, .int .u64 m1, .int .u64 m2, .int .u64 m3] 25 (0, 0)) ∧ wr.heap[w.heap.size + 1]? = some (.cells #[.int .u64 0, .int .u64 0, .int .u64 0, .int .u64 0] 25 (0, 0))) ∧ Hid (Below w.heap.size w wr))
  case atStart =>
    refine ⟨a0, a1, a2, a3, ⟨Ha.out, rfl, ?_⟩, ⟨heap_old (heap_new _ _) _, heap_new' (by simp) _⟩, ?_⟩
    · have := Pl.V_lt Ha.out
      have h2 : T256 < pP * (3 + 1) := by decide +kernel
      omega
    · show Below _ _ _
      go_grown
  case round =>
    obtain ⟨m0, m1, m2, m3, HM, HH, HB⟩ := hrel
    by_cases hlt : V m0 m1 m2 m3 < pP
    · obtain ⟨z, hz, FL⟩ := less_fact m0 m1 m2 m3 p0 p1 p2 p3 HM.out.1 Hp.out.1
      have hzt : z = true := hz.2 (by rw [Hp.out.2]; exact hlt)
      subst hzt
      have HL := Lib.hid FL
      clear FL hz
      have HE : Hid (m0 = r0 ∧ m1 = r1 ∧ m2 = r2 ∧ m3 = r3) := Pl.V_inj HM.out.1 Hr.out (by rw [Hv.out, ← HM.out.2.1, Nat.mod_eq_of_lt hlt])
      clear hlt
      go_wp2
      refine Rg.region_ (n := 14) [0, 0, 3, 7] [1, 1, 1, 0] [3, 4, 5, 6] [[(1, none)], [], [(3, some 0), (4, some 1)], [(5, some 2)]] 4 (by kernel_rfl) (by kernel_rfl) (by rfl) ?_
      intro W hW
      have hA := heap_drew HH.out.1
      rw [← hW] at hA
      change Rg.Chain' _ _ _ _ _ [(0, 1, 3, [(1, none)]), (1, 1, 4, []), (2, 1, 5, [(3, some 0), (4, some 1)]), (3, 0, 6, [(5, some 2)])] [(0, 1, 3, [(1, none)]), (1, 1, 4, []), (2, 1, 5, [(3, some 0), (4, some 1)]), (3, 0, 6, [(5, some 2)])] _
      apply Rg.ch_def (by rfl) (fun a w1 _ => Rg.wanted_none (by rfl))
      · rintro a w1 hb ⟨e1, -⟩
        conv at e1 => rhs; whnf
        have n1 := e1
        simp only [Act.eval, Array.getD_eq_getD_getElem?] at n1
        apply Rg.gives_value
        · conv => lhs; simp [go_sem, n1, cells4 (heap_keep' hb hA)]
        · exact ⟨rfl, Below.refl _ _⟩
      apply Rg.ch_def (by rfl) (fun a w1 _ => Rg.wanted_none (by rfl))
      · rintro a w1 hb -
        apply Rg.gives_enter
        · exact run_call Try.func24 (by kernel_rfl) rfl #[] (by rfl) (by simp)
        · refine (HP.out _).mono ?_
          rintro e w2 ⟨rfl, hb2⟩
          exact ⟨_, rfl, rfl, hb2⟩
      apply Rg.ch_def (by rfl) (fun a w1 _ => Rg.wanted_none (by rfl))
      · rintro a w1 hb ⟨e3, e4, -⟩
        replace e3 : a.eval (.tmp 3) = _ := e3
        replace e4 : a.eval (.tmp 4) = _ := e4
        apply Rg.gives_enter
        · apply run_call Try.func21 (by kernel_rfl) rfl _ (by rfl)
          conv => lhs; simp only [List.map_toArray, List.map_cons, List.map_nil, eval_const_, eval_global_, e3, e4]
        · refine (HL.out _).mono ?_
          rintro e w2 ⟨rfl, hb2⟩
          exact ⟨_, rfl, rfl, hb2⟩
      apply Rg.ch_pure (by rfl)
      · rintro a w1 ⟨e5, -⟩
        replace e5 : a.eval (.tmp 5) = _ := e5
        have n5 := e5
        simp only [Act.eval, Array.getD_eq_getD_getElem?] at n5
        apply Rg.yields_run (Rg.wanted_none (by rfl))
        intro w2
        conv => lhs; simp [go_sem, n5]
      intro w1 hb1
      rintro _ rfl _ rfl _ rfl _ rfl
      change Go.wpList _ _ _ _ _ _
      simp only [List.drop_succ_cons, List.drop_zero, List.drop_nil, Act.put, List.setIfInBounds_toArray, List.set_cons_succ, List.set_cons_zero]
      change Go.NoPanic _ _ _ _
      refine NoPanic.normal ?_
      have hA1 := cells4 (heap_keep' hb1 hA)
      have hR := heap_drew HH.out.2
      rw [← hW] at hR
      have hR1 := cells4 (heap_keep' hb1 hR)
      have hQ := cells4 (set4 (heap_keep' hb1 hR) (.int .u64 m0) (.int .u64 m1) (.int .u64 m2) (.int .u64 m3))
      have hF1 := frozen_of (heap_keep' hb1 hR)
      have HB1 : Below w.heap.size w w1 := below_call (below_wdrew HB.out hW) (below_wdrew HB.out hW).size hb1
      have HW := Lib.hid hW
      clear hb1 hW hA hR
      go_wp2
      obtain ⟨rfl, rfl, rfl, rfl⟩ := HE.out
      refine bodyPost_ret (v := .agg #[.int .u64 m0, .int .u64 m1, .int .u64 m2, .int .u64 m3]) (by simp [results, Try.results47, go_sem, hQ]) rfl ⟨rfl, ?_⟩
      go_grown
    · obtain ⟨z, hz, FL⟩ := less_fact m0 m1 m2 m3 p0 p1 p2 p3 HM.out.1 Hp.out.1
      have hzt : z = false := by
        cases z with
        | false => rfl
        | true => exact absurd (hz.1 rfl) (by rw [Hp.out.2]; exact hlt)
      subst hzt
      have HL := Lib.hid FL
      clear FL hz
      obtain ⟨q0, q1, q2, q3, c, hq, FM⟩ := minus_fact m0 m1 m2 m3 p0 p1 p2 p3 HM.out.1 Hp.out.1
      have HFM := Lib.hid FM
      have HQ : Hid (W4 q0 q1 q2 q3 ∧ V q0 q1 q2 q3 + pP = V m0 m1 m2 m3) := ⟨hq.1, small_step Hp.out HM.out.1 hlt hq⟩
      have HG : Hid (0 < gk) := by
        have h1 := HM.out.2.2
        rcases Nat.eq_zero_or_pos gk with h | h
        · subst h; exact absurd (by simpa using h1) hlt
        · exact h
      clear FM hq hlt
      go_wp2
      refine Rg.region_ (n := 14) [0, 0, 3, 7] [1, 1, 1, 0] [3, 4, 5, 6] [[(1, none)], [], [(3, some 0), (4, some 1)], [(5, some 2)]] 4 (by kernel_rfl) (by kernel_rfl) (by rfl) ?_
      intro W hW
      have hA := heap_drew HH.out.1
      rw [← hW] at hA
      change Rg.Chain' _ _ _ _ _ [(0, 1, 3, [(1, none)]), (1, 1, 4, []), (2, 1, 5, [(3, some 0), (4, some 1)]), (3, 0, 6, [(5, some 2)])] [(0, 1, 3, [(1, none)]), (1, 1, 4, []), (2, 1, 5, [(3, some 0), (4, some 1)]), (3, 0, 6, [(5, some 2)])] _
      apply Rg.ch_def (by rfl) (fun a w1 _ => Rg.wanted_none (by rfl))
      · rintro a w1 hb ⟨e1, -⟩
        conv at e1 => rhs; whnf
        have n1 := e1
        simp only [Act.eval, Array.getD_eq_getD_getElem?] at n1
        apply Rg.gives_value
        · conv => lhs; simp [go_sem, n1, cells4 (heap_keep' hb hA)]
        · exact ⟨rfl, Below.refl _ _⟩
      apply Rg.ch_def (by rfl) (fun a w1 _ => Rg.wanted_none (by rfl))
      · rintro a w1 hb -
        apply Rg.gives_enter
        · exact run_call Try.func24 (by kernel_rfl) rfl #[] (by rfl) (by simp)
        · refine (HP.out _).mono ?_
          rintro e w2 ⟨rfl, hb2⟩
          exact ⟨_, rfl, rfl, hb2⟩
      apply Rg.ch_def (by rfl) (fun a w1 _ => Rg.wanted_none (by rfl))
      · rintro a w1 hb ⟨e3, e4, -⟩
        replace e3 : a.eval (.tmp 3) = _ := e3
        replace e4 : a.eval (.tmp 4) = _ := e4
        apply Rg.gives_enter
        · apply run_call Try.func21 (by kernel_rfl) rfl _ (by rfl)
          conv => lhs; simp only [List.map_toArray, List.map_cons, List.map_nil, eval_const_, eval_global_, e3, e4]
        · refine (HL.out _).mono ?_
          rintro e w2 ⟨rfl, hb2⟩
          exact ⟨_, rfl, rfl, hb2⟩
      apply Rg.ch_pure (by rfl)
      · rintro a w1 ⟨e5, -⟩
        replace e5 : a.eval (.tmp 5) = _ := e5
        have n5 := e5
        simp only [Act.eval, Array.getD_eq_getD_getElem?] at n5
        apply Rg.yields_run (Rg.wanted_none (by rfl))
        intro w2
        conv => lhs; simp [go_sem, n5]
      intro w1 hb1
      rintro _ rfl _ rfl _ rfl _ rfl
      change Go.wpList _ _ _ _ _ _
      simp only [List.drop_succ_cons, List.drop_zero, List.drop_nil, Act.put, List.setIfInBounds_toArray, List.set_cons_succ, List.set_cons_zero]
      change Go.NoPanic _ _ _ _
      refine NoPanic.normal ?_
      have hR := heap_drew HH.out.2
      rw [← hW] at hR
      have HA1 := Lib.hid (heap_keep' hb1 hA)
      have HR1 := Lib.hid (heap_keep' hb1 hR)
      have HB1 : Hid (Below w.heap.size w w1) := below_call (below_wdrew HB.out hW) (below_wdrew HB.out hW).size hb1
      clear hb1 hA hR hW HH HB W
      go_wp2
      refine Rg.region_ (n := 14) [0, 0, 3, 7, 15, 15, 31] [1, 1, 1, 0, 0, 0, 2] [8, 9, 10, 7, 11, 12, 0] [[(1, none)], [], [(8, some 0), (9, some 1)], [(10, some 2)], [(7, some 3)], [(7, some 3)], [(1, none), (11, some 4)]] 6 (by kernel_rfl) (by kernel_rfl) (by rfl) ?_
      intro W hW
      have hA := heap_drew HA1.out
      rw [← hW] at hA
      change Rg.Chain' _ _ _ _ _ [(0, 1, 8, [(1, none)]), (1, 1, 9, []), (2, 1, 10, [(8, some 0), (9, some 1)]), (3, 0, 7, [(10, some 2)]), (4, 0, 11, [(7, some 3)]), (5, 0, 12, [(7, some 3)])] [(0, 1, 8, [(1, none)]), (1, 1, 9, []), (2, 1, 10, [(8, some 0), (9, some 1)]), (3, 0, 7, [(10, some 2)]), (4, 0, 11, [(7, some 3)]), (5, 0, 12, [(7, some 3)])] _
      apply Rg.ch_def (by rfl) (fun a w1 _ => Rg.wanted_none (by rfl))
      · rintro a w1 hb ⟨e1, -⟩
        conv at e1 => rhs; whnf
        have n1 := e1
        simp only [Act.eval, Array.getD_eq_getD_getElem?] at n1
        apply Rg.gives_value
        · conv => lhs; simp [go_sem, n1, cells4 (heap_keep' hb hA)]
        · exact ⟨rfl, Below.refl _ _⟩
      apply Rg.ch_def (by rfl) (fun a w1 _ => Rg.wanted_none (by rfl))
      · rintro a w1 hb -
        apply Rg.gives_enter
        · exact run_call Try.func24 (by kernel_rfl) rfl #[] (by rfl) (by simp)
        · refine (HP.out _).mono ?_
          rintro e w2 ⟨rfl, hb2⟩
          exact ⟨_, rfl, rfl, hb2⟩
      apply Rg.ch_def (by rfl) (fun a w1 _ => Rg.wanted_none (by rfl))
      · rintro a w1 hb ⟨e8, e9, -⟩
        replace e8 : a.eval (.tmp 8) = _ := e8
        replace e9 : a.eval (.tmp 9) = _ := e9
        apply Rg.gives_enter
        · apply run_call Try.func45 (by kernel_rfl) rfl _ (by rfl)
          conv => lhs; simp only [List.map_toArray, List.map_cons, List.map_nil, eval_const_, eval_global_, e8, e9]
        · refine (HFM.out _).mono ?_
          rintro e w2 ⟨rfl, hb2⟩
          exact ⟨_, rfl, rfl, hb2⟩
      apply Rg.ch_pure (by rfl)
      · rintro a w1 ⟨e10, -⟩
        replace e10 : a.eval (.tmp 10) = _ := e10
        have n10 := e10
        simp only [Act.eval, Array.getD_eq_getD_getElem?] at n10
        apply Rg.yields_run (Rg.wanted_none (by rfl))
        intro w2
        conv => lhs; simp [go_sem, n10]
      apply Rg.ch_pure (by rfl)
      · rintro a w1 ⟨e7, -⟩
        replace e7 : a.eval (.tmp 7) = _ := e7
        have n7 := e7
        simp only [Act.eval, Array.getD_eq_getD_getElem?] at n7
        apply Rg.yields_run (Rg.wanted_none (by rfl))
        intro w2
        conv => lhs; simp [go_sem, n7]
      apply Rg.ch_pure (by rfl)
      · rintro a w1 ⟨e7, -⟩
        replace e7 : a.eval (.tmp 7) = _ := e7
        have n7 := e7
        simp only [Act.eval, Array.getD_eq_getD_getElem?] at n7
        apply Rg.yields_run (Rg.wanted_none (by rfl))
        intro w2
        conv => lhs; simp [go_sem, n7]
      intro w1 hb1
      rintro _ rfl _ rfl _ rfl _ rfl _ rfl _ rfl
      change Go.wpList _ _ _ _ _ _
      simp only [List.drop_succ_cons, List.drop_zero, List.drop_nil, Act.put, List.setIfInBounds_toArray, List.set_cons_succ, List.set_cons_zero]
      have hA3 := heap_keep' hb1 hA
      have hA4 := cells4 hA3
      have hA5 := frozen_of hA3
      have hR := heap_drew HR1.out
      rw [← hW] at hR
      have HR2 := Lib.hid (heap_keep' hb1 hR)
      have HA2 := Lib.hid hA3
      have HB2 : Hid (Below w.heap.size w w1) := below_call (below_wdrew HB1.out hW) (below_wdrew HB1.out hW).size hb1
      clear hb1 hA hR hW hA3
      go_wp2
      refine NoPanic.normal ?_
      go_wp2
      go_roundg (gk - 1)
      case measure => have := HG.out; omega
      case rel =>
        refine ⟨q0, q1, q2, q3, ⟨HQ.out.1, ?_, ?_⟩, ⟨set4 HA2.out _ _ _ _, ?_⟩, ?_⟩
        · rw [← HM.out.2.1, ← HQ.out.2, Nat.add_mod_right]
        · have h1 := HM.out.2.2
          have h2 := HQ.out.2
          have h3 := HG.out
          obtain ⟨k, rfl⟩ : ∃ k, gk = k + 1 := ⟨gk - 1, by omega⟩
          rw [Nat.mul_succ] at h1
          simp only [Nat.add_sub_cancel]
          omega
        · exact heap_set_ne (heap_set_ne (heap_set_ne (heap_set_ne HR2.out (by simp) _) (by simp) _) (by simp) _) (by simp) _
        · exact (((HB2.out.setCell (Nat.le_refl _) _).setCell (Nat.le_refl _) _).setCell (Nat.le_refl _) _).setCell (Nat.le_refl _) _
end Go.Proofs.Ytldnjbpcdojffaa
