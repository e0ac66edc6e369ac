/- @@NUM 25 The walk of residue's small: a number modulo the prime. Conditions: words are below 2^64. -/
import Derived.Test.YtldnjbpcdojffaaZ1
import Derived.Deep.LoopGhost
import Derived.Lib.Mul64
import Derived.Shelf.Bits.Mul64
import Derived.Laws.Bits64b
import Derived.Deep.DeepCutAuto
import Derived.Deep.CutBlock
import Derived.WalkSmall
import Derived.RangeFuncBox
import Derived.RangeFuncLeaves
import Derived.RangeFuncNested
import Derived.RangeFuncBound
import Derived.RangeFuncCalls
import Derived.Shelf.Abstract
import Derived.Shelf.RegionOpen
import Derived.WalkKit
import Derived.OwnWalkIn
import Derived.TacticsInMore
import Derived.LoopNIn
import Derived.LoopIn
import Derived.Test.YtldnjbpcdojffaaProg
import Derived.Maps.AppendAt
import Derived.OwnWalk
import Derived.RowKit
set_option linter.unusedSectionVars false
namespace Go.Proofs.Ytldnjbpcdojffaa
set_option linter.unusedVariables false
set_option linter.unusedSimpArgs false
open Go Go.RowKit
open Pl (V W4 T256 pP)

theorem small_step {m0 m1 m2 m3 r0 r1 r2 r3 p0 p1 p2 p3 c : Nat} (hp : W4 p0 p1 p2 p3 ∧ V p0 p1 p2 p3 = pP) (hm : W4 m0 m1 m2 m3) (hge : ¬ V m0 m1 m2 m3 < pP) (h : W4 r0 r1 r2 r3 ∧ c ≤ 1 ∧ V r0 r1 r2 r3 + V p0 p1 p2 p3 = V m0 m1 m2 m3 + T256 * c) : V r0 r1 r2 r3 + pP = V m0 m1 m2 m3 := by
  have h1 := Pl.V_lt h.1
  have h2 := Pl.V_lt hm
  rw [hp.2] at h
  rcases (show c = 0 ∨ c = 1 by omega) with rfl | rfl
  · omega
  · have : pP < T256 := by decide +kernel
    omega

set_option maxHeartbeats 2000000 in
theorem small_fact (a0 a1 a2 a3 : Nat) (ha : W4 a0 a1 a2 a3) : ∃ r0 r1 r2 r3 : Nat, (W4 r0 r1 r2 r3 ∧ V r0 r1 r2 r3 = V a0 a1 a2 a3 % pP) ∧ ∀ w : World,
    Calls Try.prog 47 #[.agg #[.int .u64 a0, .int .u64 a1, .int .u64 a2, .int .u64 a3]] w fun e w' => e = .returned (.agg #[.int .u64 r0, .int .u64 r1, .int .u64 r2, .int .u64 r3]) ∧ Below w.heap.size w w' := by
  obtain ⟨p0, p1, p2, p3, hp, FP⟩ := prime_fact
  obtain ⟨r0, r1, r2, r3, hr, hv⟩ := Pl.words (V a0 a1 a2 a3 % pP) (Nat.lt_of_le_of_lt (Nat.mod_le _ _) (Pl.V_lt ha))
  refine ⟨r0, r1, r2, r3, ⟨hr, hv⟩, fun w => ?_⟩
  have HP := Lib.hid FP
  clear FP
  have Hp := Lib.hid hp
  have Hr := Lib.hid hr
  have Hv := Lib.hid hv
  have Ha := Lib.hid ha
  clear hp hr hv ha
  go_enter Try.func47, Try.ntmps47
  go_wp2
  go_loopg [] 3 (fun kq wr => ∃ m0 m1 m2 m3 : Nat, Hid (W4 m0 m1 m2 m3 ∧ V m0 m1 m2 m3 % pP = V a0 a1 a2 a3 % pP ∧ V m0 m1 m2 m3 < pP * (kq + 1)) ∧ Hid (wr.heap[w.heap.size]? = some (.cells #[.int .u64 m0, .int .u64 m1, .int .u64 m2, .int .u64 m3] 25 (0, 0)) ∧ wr.heap[w.heap.size + 1]? = some (.cells #[.int .u64 0, .int .u64 0, .int .u64 0, .int .u64 0] 25 (0, 0))) ∧ Hid (Below w.heap.size w wr))
  case atStart =>
    refine ⟨a0, a1, a2, a3, ⟨Ha.out, rfl, ?_⟩, ⟨heap_old (heap_new _ _) _, heap_new' (by simp) _⟩, ?_⟩
    · have := Pl.V_lt Ha.out
      have h2 : T256 < pP * (3 + 1) := by decide +kernel
      omega
    · show Below _ _ _
      go_grown
  case round =>
    obtain ⟨m0, m1, m2, m3, HM, HH, HB⟩ := hrel
    by_cases hlt : V m0 m1 m2 m3 < pP
    · obtain ⟨z, hz, FL⟩ := less_fact m0 m1 m2 m3 p0 p1 p2 p3 HM.out.1 Hp.out.1
      have hzt : z = true := hz.2 (by rw [Hp.out.2]; exact hlt)
      subst hzt
      have HL := Lib.hid FL
      clear FL hz
      have HE : Hid (m0 = r0 ∧ m1 = r1 ∧ m2 = r2 ∧ m3 = r3) := Pl.V_inj HM.out.1 Hr.out (by rw [Hv.out, ← HM.out.2.1, Nat.mod_eq_of_lt hlt])
      clear hlt
      go_wp2
      refine Rg.region_ (n := 14) [0, 0, 3, 7] [1, 1, 1, 0] [3, 4, 5, 6] [[(1, none)], [], [(3, some 0), (4, some 1)], [(5, some 2)]] 4 (by kernel_rfl) (by kernel_rfl) (by rfl) ?_
      intro W hW
      have hA := heap_drew HH.out.1
      rw [← hW] at hA
      change Rg.Chain' _ _ _ _ _ [(0, 1, 3, [(1, none)]), (1, 1, 4, []), (2, 1, 5, [(3, some 0), (4, some 1)]), (3, 0, 6, [(5, some 2)])] [(0, 1, 3, [(1, none)]), (1, 1, 4, []), (2, 1, 5, [(3, some 0), (4, some 1)]), (3, 0, 6, [(5, some 2)])] _
      apply Rg.ch_def (by rfl) (fun a w1 _ => Rg.wanted_none (by rfl))
      · rintro a w1 hb ⟨e1, -⟩
        conv at e1 => rhs; whnf
        have n1 := e1
        simp only [Act.eval, Array.getD_eq_getD_getElem?] at n1
        apply Rg.gives_value
        · conv => lhs; simp [go_sem, n1, cells4 (heap_keep' hb hA)]
        · exact ⟨rfl, Below.refl _ _⟩
      apply Rg.ch_def (by rfl) (fun a w1 _ => Rg.wanted_none (by rfl))
      · rintro a w1 hb -
        apply Rg.gives_enter
        · exact run_call Try.func24 (by kernel_rfl) rfl #[] (by rfl) (by simp)
        · refine (HP.out _).mono ?_
          rintro e w2 ⟨rfl, hb2⟩
          exact ⟨_, rfl, rfl, hb2⟩
      apply Rg.ch_def (by rfl) (fun a w1 _ => Rg.wanted_none (by rfl))
      · rintro a w1 hb ⟨e3, e4, -⟩
        replace e3 : a.eval (.tmp 3) = _ := e3
        replace e4 : a.eval (.tmp 4) = _ := e4
        apply Rg.gives_enter
        · apply run_call Try.func21 (by kernel_rfl) rfl _ (by rfl)
          conv => lhs; simp only [List.map_toArray, List.map_cons, List.map_nil, eval_const_, eval_global_, e3, e4]
        · refine (HL.out _).mono ?_
          rintro e w2 ⟨rfl, hb2⟩
          exact ⟨_, rfl, rfl, hb2⟩
      apply Rg.ch_pure (by rfl)
      · rintro a w1 ⟨e5, -⟩
        replace e5 : a.eval (.tmp 5) = _ := e5
        have n5 := e5
        simp only [Act.eval, Array.getD_eq_getD_getElem?] at n5
        apply Rg.yields_run (Rg.wanted_none (by rfl))
        intro w2
        conv => lhs; simp [go_sem, n5]
      intro w1 hb1
      rintro _ rfl _ rfl _ rfl _ rfl
      change Go.wpList _ _ _ _ _ _
      simp only [List.drop_succ_cons, List.drop_zero, List.drop_nil, Act.put, List.setIfInBounds_toArray, List.set_cons_succ, List.set_cons_zero]
      change Go.NoPanic _ _ _ _
      refine NoPanic.normal ?_
      have hA1 := cells4 (heap_keep' hb1 hA)
      have hR := heap_drew HH.out.2
      rw [← hW] at hR
      have hR1 := cells4 (heap_keep' hb1 hR)
      have hQ := cells4 (set4 (heap_keep' hb1 hR) (.int .u64 m0) (.int .u64 m1) (.int .u64 m2) (.int .u64 m3))
      have hF1 := frozen_of (heap_keep' hb1 hR)
      have HB1 : Below w.heap.size w w1 := below_call (below_wdrew HB.out hW) (below_wdrew HB.out hW).size hb1
      have HW := Lib.hid hW
      clear hb1 hW hA hR
      go_wp2
      obtain ⟨rfl, rfl, rfl, rfl⟩ := HE.out
      refine bodyPost_ret (v := .agg #[.int .u64 m0, .int .u64 m1, .int .u64 m2, .int .u64 m3]) (by simp [results, Try.results47, go_sem, hQ]) rfl ⟨rfl, ?_⟩
      go_grown
    · obtain ⟨z, hz, FL⟩ := less_fact m0 m1 m2 m3 p0 p1 p2 p3 HM.out.1 Hp.out.1
      have hzt : z = false := by
        cases z with
        | false => rfl
        | true => exact absurd (hz.1 rfl) (by rw [Hp.out.2]; exact hlt)
      subst hzt
      have HL := Lib.hid FL
      clear FL hz
      obtain ⟨q0, q1, q2, q3, c, hq, FM⟩ := minus_fact m0 m1 m2 m3 p0 p1 p2 p3 HM.out.1 Hp.out.1
      have HFM := Lib.hid FM
      have HQ : Hid (W4 q0 q1 q2 q3 ∧ V q0 q1 q2 q3 + pP = V m0 m1 m2 m3) := ⟨hq.1, small_step Hp.out HM.out.1 hlt hq⟩
      have HG : Hid (0 < gk) := by
        have h1 := HM.out.2.2
        rcases Nat.eq_zero_or_pos gk with h | h
        · subst h; exact absurd (by simpa using h1) hlt
        · exact h
      clear FM hq hlt
      go_wp2
      refine Rg.region_ (n := 14) [0, 0, 3, 7] [1, 1, 1, 0] [3, 4, 5, 6] [[(1, none)], [], [(3, some 0), (4, some 1)], [(5, some 2)]] 4 (by kernel_rfl) (by kernel_rfl) (by rfl) ?_
      intro W hW
      have hA := heap_drew HH.out.1
      rw [← hW] at hA
      change Rg.Chain' _ _ _ _ _ [(0, 1, 3, [(1, none)]), (1, 1, 4, []), (2, 1, 5, [(3, some 0), (4, some 1)]), (3, 0, 6, [(5, some 2)])] [(0, 1, 3, [(1, none)]), (1, 1, 4, []), (2, 1, 5, [(3, some 0), (4, some 1)]), (3, 0, 6, [(5, some 2)])] _
      apply Rg.ch_def (by rfl) (fun a w1 _ => Rg.wanted_none (by rfl))
      · rintro a w1 hb ⟨e1, -⟩
        conv at e1 => rhs; whnf
        have n1 := e1
        simp only [Act.eval, Array.getD_eq_getD_getElem?] at n1
        apply Rg.gives_value
        · conv => lhs; simp [go_sem, n1, cells4 (heap_keep' hb hA)]
        · exact ⟨rfl, Below.refl _ _⟩
      apply Rg.ch_def (by rfl) (fun a w1 _ => Rg.wanted_none (by rfl))
      · rintro a w1 hb -
        apply Rg.gives_enter
        · exact run_call Try.func24 (by kernel_rfl) rfl #[] (by rfl) (by simp)
        · refine (HP.out _).mono ?_
          rintro e w2 ⟨rfl, hb2⟩
          exact ⟨_, rfl, rfl, hb2⟩
      apply Rg.ch_def (by rfl) (fun a w1 _ => Rg.wanted_none (by rfl))
      · rintro a w1 hb ⟨e3, e4, -⟩
        replace e3 : a.eval (.tmp 3) = _ := e3
        replace e4 : a.eval (.tmp 4) = _ := e4
        apply Rg.gives_enter
        · apply run_call Try.func21 (by kernel_rfl) rfl _ (by rfl)
          conv => lhs; simp only [List.map_toArray, List.map_cons, List.map_nil, eval_const_, eval_global_, e3, e4]
        · refine (HL.out _).mono ?_
          rintro e w2 ⟨rfl, hb2⟩
          exact ⟨_, rfl, rfl, hb2⟩
      apply Rg.ch_pure (by rfl)
      · rintro a w1 ⟨e5, -⟩
        replace e5 : a.eval (.tmp 5) = _ := e5
        have n5 := e5
        simp only [Act.eval, Array.getD_eq_getD_getElem?] at n5
        apply Rg.yields_run (Rg.wanted_none (by rfl))
        intro w2
        conv => lhs; simp [go_sem, n5]
      intro w1 hb1
      rintro _ rfl _ rfl _ rfl _ rfl
      change Go.wpList _ _ _ _ _ _
      simp only [List.drop_succ_cons, List.drop_zero, List.drop_nil, Act.put, List.setIfInBounds_toArray, List.set_cons_succ, List.set_cons_zero]
      change Go.NoPanic _ _ _ _
      refine NoPanic.normal ?_
      have hR := heap_drew HH.out.2
      rw [← hW] at hR
      have HA1 := Lib.hid (heap_keep' hb1 hA)
      have HR1 := Lib.hid (heap_keep' hb1 hR)
      have HB1 : Hid (Below w.heap.size w w1) := below_call (below_wdrew HB.out hW) (below_wdrew HB.out hW).size hb1
      clear hb1 hA hR hW HH HB W
      go_wp2
      refine Rg.region_ (n := 14) [0, 0, 3, 7, 15, 15, 31] [1, 1, 1, 0, 0, 0, 2] [8, 9, 10, 7, 11, 12, 0] [[(1, none)], [], [(8, some 0), (9, some 1)], [(10, some 2)], [(7, some 3)], [(7, some 3)], [(1, none), (11, some 4)]] 6 (by kernel_rfl) (by kernel_rfl) (by rfl) ?_
      intro W hW
      have hA := heap_drew HA1.out
      rw [← hW] at hA
      change Rg.Chain' _ _ _ _ _ [(0, 1, 8, [(1, none)]), (1, 1, 9, []), (2, 1, 10, [(8, some 0), (9, some 1)]), (3, 0, 7, [(10, some 2)]), (4, 0, 11, [(7, some 3)]), (5, 0, 12, [(7, some 3)])] [(0, 1, 8, [(1, none)]), (1, 1, 9, []), (2, 1, 10, [(8, some 0), (9, some 1)]), (3, 0, 7, [(10, some 2)]), (4, 0, 11, [(7, some 3)]), (5, 0, 12, [(7, some 3)])] _
      apply Rg.ch_def (by rfl) (fun a w1 _ => Rg.wanted_none (by rfl))
      · rintro a w1 hb ⟨e1, -⟩
        conv at e1 => rhs; whnf
        have n1 := e1
        simp only [Act.eval, Array.getD_eq_getD_getElem?] at n1
        apply Rg.gives_value
        · conv => lhs; simp [go_sem, n1, cells4 (heap_keep' hb hA)]
        · exact ⟨rfl, Below.refl _ _⟩
      apply Rg.ch_def (by rfl) (fun a w1 _ => Rg.wanted_none (by rfl))
      · rintro a w1 hb -
        apply Rg.gives_enter
        · exact run_call Try.func24 (by kernel_rfl) rfl #[] (by rfl) (by simp)
        · refine (HP.out _).mono ?_
          rintro e w2 ⟨rfl, hb2⟩
          exact ⟨_, rfl, rfl, hb2⟩
      apply Rg.ch_def (by rfl) (fun a w1 _ => Rg.wanted_none (by rfl))
      · rintro a w1 hb ⟨e8, e9, -⟩
        replace e8 : a.eval (.tmp 8) = _ := e8
        replace e9 : a.eval (.tmp 9) = _ := e9
        apply Rg.gives_enter
        · apply run_call Try.func45 (by kernel_rfl) rfl _ (by rfl)
          conv => lhs; simp only [List.map_toArray, List.map_cons, List.map_nil, eval_const_, eval_global_, e8, e9]
        · refine (HFM.out _).mono ?_
          rintro e w2 ⟨rfl, hb2⟩
          exact ⟨_, rfl, rfl, hb2⟩
      apply Rg.ch_pure (by rfl)
      · rintro a w1 ⟨e10, -⟩
        replace e10 : a.eval (.tmp 10) = _ := e10
        have n10 := e10
        simp only [Act.eval, Array.getD_eq_getD_getElem?] at n10
        apply Rg.yields_run (Rg.wanted_none (by rfl))
        intro w2
        conv => lhs; simp [go_sem, n10]
      apply Rg.ch_pure (by rfl)
      · rintro a w1 ⟨e7, -⟩
        replace e7 : a.eval (.tmp 7) = _ := e7
        have n7 := e7
        simp only [Act.eval, Array.getD_eq_getD_getElem?] at n7
        apply Rg.yields_run (Rg.wanted_none (by rfl))
        intro w2
        conv => lhs; simp [go_sem, n7]
      apply Rg.ch_pure (by rfl)
      · rintro a w1 ⟨e7, -⟩
        replace e7 : a.eval (.tmp 7) = _ := e7
        have n7 := e7
        simp only [Act.eval, Array.getD_eq_getD_getElem?] at n7
        apply Rg.yields_run (Rg.wanted_none (by rfl))
        intro w2
        conv => lhs; simp [go_sem, n7]
      intro w1 hb1
      rintro _ rfl _ rfl _ rfl _ rfl _ rfl _ rfl
      change Go.wpList _ _ _ _ _ _
      simp only [List.drop_succ_cons, List.drop_zero, List.drop_nil, Act.put, List.setIfInBounds_toArray, List.set_cons_succ, List.set_cons_zero]
      have hA3 := heap_keep' hb1 hA
      have hA4 := cells4 hA3
      have hA5 := frozen_of hA3
      have hR := heap_drew HR1.out
      rw [← hW] at hR
      have HR2 := Lib.hid (heap_keep' hb1 hR)
      have HA2 := Lib.hid hA3
      have HB2 : Hid (Below w.heap.size w w1) := below_call (below_wdrew HB1.out hW) (below_wdrew HB1.out hW).size hb1
      clear hb1 hA hR hW hA3
      go_wp2
      refine NoPanic.normal ?_
      go_wp2
      go_roundg (gk - 1)
      case measure => have := HG.out; omega
      case rel =>
        refine ⟨q0, q1, q2, q3, ⟨HQ.out.1, ?_, ?_⟩, ⟨set4 HA2.out _ _ _ _, ?_⟩, ?_⟩
        · rw [← HM.out.2.1, ← HQ.out.2, Nat.add_mod_right]
        · have h1 := HM.out.2.2
          have h2 := HQ.out.2
          have h3 := HG.out
          obtain ⟨k, rfl⟩ : ∃ k, gk = k + 1 := ⟨gk - 1, by omega⟩
          rw [Nat.mul_succ] at h1
          simp only [Nat.add_sub_cancel]
          omega
        · exact heap_set_ne (heap_set_ne (heap_set_ne (heap_set_ne HR2.out (by simp) _) (by simp) _) (by simp) _) (by simp) _
        · exact (((HB2.out.setCell (Nat.le_refl _) _).setCell (Nat.le_refl _) _).setCell (Nat.le_refl _) _).setCell (Nat.le_refl _) _
end Go.Proofs.Ytldnjbpcdojffaa
/- @@NUM 25 The walks of residue's add, of bits.Mul64, of a number's product with a word. Conditions: words are below 2^64. -/
namespace Go.Proofs.Ytldnjbpcdojffaa
set_option linter.unusedVariables false
set_option linter.unusedSimpArgs false
open Go Go.RowKit
open Pl (V W4 T256 pP adl adc)

set_option maxHeartbeats 1000000 in
theorem mul64_fact (x y : Nat) (hx : x < 18446744073709551616) (hy : y < 18446744073709551616) : ∃ h l : Nat, (l < 18446744073709551616 ∧ h < 18446744073709551616 ∧ l + 18446744073709551616 * h = x * y) ∧ ∀ w : World,
    Calls Try.prog 60 #[.int .u64 x, .int .u64 y] w fun e w' => e = .returned (.tuple #[.int .u64 h, .int .u64 l]) ∧ w = w' := by
  refine ⟨x * y / 18446744073709551616, x * y % 18446744073709551616, ⟨Nat.mod_lt _ (by omega), ?_, by omega⟩, fun w => ?_⟩
  · have := Pl.mulw_le hx hy
    omega
  obtain ⟨bd, bt, bw, hhi⟩ := Lib.mul64_hi x y hx hy
  have ba := Lib.half_mul_le (a := x / 4294967296) (b := y / 4294967296) (by omega) (by omega)
  have bb := Lib.half_mul_le (a := x / 4294967296) (b := y % 4294967296) (by omega) (by omega)
  have bc := Lib.half_mul_le (a := x % 4294967296) (b := y / 4294967296) (by omega) (by omega)
  have ba' : x / 4294967296 * (y / 4294967296) < 18446744073709551616 := by omega
  have bb' : x / 4294967296 * (y % 4294967296) < 18446744073709551616 := by omega
  have bc' : x % 4294967296 * (y / 4294967296) < 18446744073709551616 := by omega
  have bh1 : x / 4294967296 * (y / 4294967296) + (x / 4294967296 * (y % 4294967296) + x % 4294967296 * (y % 4294967296) / 4294967296) / 4294967296 < 18446744073709551616 := by omega
  have bh : x / 4294967296 * (y / 4294967296) + (x / 4294967296 * (y % 4294967296) + x % 4294967296 * (y % 4294967296) / 4294967296) / 4294967296 + ((x / 4294967296 * (y % 4294967296) + x % 4294967296 * (y % 4294967296) / 4294967296) % 4294967296 + x % 4294967296 * (y / 4294967296)) / 4294967296 < 18446744073709551616 := by omega
  go_enter Try.func60, Try.ntmps60
  go_wp2
  simp only [Mul64.maskN x hx, Mul64.maskN y hy, Mul64.divN, Mul64.mulN, Mul64.addN, Mul64.wrapN _ bd, Mul64.wrapN _ bb', Mul64.wrapN _ bt, Mul64.maskN _ bt, Mul64.wrapN _ bc', Mul64.wrapN _ bw, Mul64.wrapN _ ba', Mul64.wrapN _ bh1, Mul64.wrapN _ bh, Mul64.wrapM (x * y)]
  rw [hhi]
  go_ret2
  exact ⟨rfl, rfl⟩

set_option maxHeartbeats 1000000 in
theorem add_fact (a0 a1 a2 a3 b0 b1 b2 b3 : Nat) (ha : W4 a0 a1 a2 a3) (hb : W4 b0 b1 b2 b3) : ∃ r0 r1 r2 r3 : Nat, (W4 r0 r1 r2 r3 ∧ (V a0 a1 a2 a3 < pP → V b0 b1 b2 b3 < pP → V r0 r1 r2 r3 = (V a0 a1 a2 a3 + V b0 b1 b2 b3) % pP)) ∧ ∀ w : World,
    Calls Try.prog 46 #[.agg #[.int .u64 a0, .int .u64 a1, .int .u64 a2, .int .u64 a3], .agg #[.int .u64 b0, .int .u64 b1, .int .u64 b2, .int .u64 b3]] w fun e w' => e = .returned (.agg #[.int .u64 r0, .int .u64 r1, .int .u64 r2, .int .u64 r3]) ∧ Below w.heap.size w w' := by
  obtain ⟨s0, s1, s2, s3, c, ⟨hs, hc1, hv⟩, F⟩ := plus_fact a0 a1 a2 a3 b0 b1 b2 b3 ha hb
  obtain ⟨r0, r1, r2, r3, ⟨hr, hrv⟩, FS⟩ := small_fact s0 s1 s2 s3 hs
  refine ⟨r0, r1, r2, r3, ⟨hr, fun h1 h2 => ?_⟩, fun w => ?_⟩
  · have := Pl.pP_lt
    have h3 : 2 ^ 255 + 2 ^ 255 = T256 := by decide +kernel
    have h4 := Pl.V_lt hs
    rw [hrv]
    congr 1
    rcases (show c = 0 ∨ c = 1 by omega) with rfl | rfl <;> omega
  have HF := Lib.hid F
  have HS := Lib.hid FS
  clear F FS hrv hr hv hc1 hs ha hb
  go_enter Try.func46, Try.ntmps46
  go_wp2_with (fail)
  go_at_call 53
  refine (HF.out _).mono ?_
  rintro e w1 ⟨rfl, hb⟩
  have hR : w1.heap[w.heap.size + 2]? = some (.cells #[.int .u64 0, .int .u64 0, .int .u64 0, .int .u64 0] 25 (0, 0)) := heap_keep' hb (by repeat (first | (with_reducible refine heap_new' ?_ _; simp; done) | (with_reducible assumption) | (with_reducible refine heap_old ?_ _) | (with_reducible refine heap_drew ?_) | (with_reducible refine heap_set_ne ?_ (by simp <;> omega) _))); have cR := cells4 hR; have fR := frozen_of hR; have zR := lt_of_heap hR
  have HB : Below w.heap.size w w1 := below_call (by go_grown) (by simp; omega) hb
  clear hb
  go_wp2_with (fail)
  go_at_call 47
  refine (HS.out _).mono ?_
  rintro e w2 ⟨rfl, hb⟩
  have hR : w2.heap[w.heap.size + 2]? = some (.cells #[.int .u64 0, .int .u64 0, .int .u64 0, .int .u64 0] 25 (0, 0)) := heap_keep' hb (by repeat (first | (with_reducible refine heap_new' ?_ _; simp; done) | (with_reducible assumption) | (with_reducible refine heap_old ?_ _) | (with_reducible refine heap_drew ?_) | (with_reducible refine heap_set_ne ?_ (by simp <;> omega) _))); have cR := cells4 hR; have fR := frozen_of hR; have zR := lt_of_heap hR
  have hz := HB.size
  have HB2 : Below w.heap.size w w2 := below_call (by go_grown) (by simp; omega) hb
  clear hb
  have hQ := cells4 (set4 hR (.int .u64 r0) (.int .u64 r1) (.int .u64 r2) (.int .u64 r3))
  go_wp2
  refine bodyPost_ret (v := .agg #[.int .u64 r0, .int .u64 r1, .int .u64 r2, .int .u64 r3]) (by simp [results, Try.results46, go_sem, hQ]) rfl ⟨rfl, ?_⟩
  go_grown

set_option maxHeartbeats 2000000 in
theorem times_fact (a0 a1 a2 a3 x : Nat) (ha : W4 a0 a1 a2 a3) (hx : x < 18446744073709551616) : ∃ r0 r1 r2 r3 c : Nat, (W4 r0 r1 r2 r3 ∧ c < 18446744073709551616 ∧ V r0 r1 r2 r3 + T256 * c = V a0 a1 a2 a3 * x) ∧ ∀ w : World,
    Calls Try.prog 59 #[.agg #[.int .u64 a0, .int .u64 a1, .int .u64 a2, .int .u64 a3], .int .u64 x] w fun e w' => e = .returned (.tuple #[.agg #[.int .u64 r0, .int .u64 r1, .int .u64 r2, .int .u64 r3], .int .u64 c]) ∧ Below w.heap.size w w' := by
  obtain ⟨h0, l0, ⟨hl0, hh0, m0⟩, F0⟩ := mul64_fact a0 x ha.1 hx
  obtain ⟨h1, l1, ⟨hl1, hh1, m1⟩, F1⟩ := mul64_fact a1 x ha.2.1 hx
  obtain ⟨h2, l2, ⟨hl2, hh2, m2⟩, F2⟩ := mul64_fact a2 x ha.2.2.1 hx
  obtain ⟨h3, l3, ⟨hl3, hh3, m3⟩, F3⟩ := mul64_fact a3 x ha.2.2.2 hx
  obtain ⟨s0, c0, e0, hc0, f0⟩ := adw_fact l0 0 0 hl0 (by omega) (by omega)
  have t0 := Pl.times_word ha.1 hx (by omega) m0 hl0 e0
  obtain ⟨k1, hk1⟩ : ∃ k, h0 + c0 = k := ⟨_, rfl⟩
  rw [hk1] at t0
  obtain ⟨s1, c1, e1, hc1, f1⟩ := adw_fact l1 k1 0 hl1 t0.2.2.1 (by omega)
  have t1 := Pl.times_word ha.2.1 hx t0.2.2.1 m1 hl1 e1
  obtain ⟨k2, hk2⟩ : ∃ k, h1 + c1 = k := ⟨_, rfl⟩
  rw [hk2] at t1
  obtain ⟨s2, c2, e2, hc2, f2⟩ := adw_fact l2 k2 0 hl2 t1.2.2.1 (by omega)
  have t2 := Pl.times_word ha.2.2.1 hx t1.2.2.1 m2 hl2 e2
  obtain ⟨k3, hk3⟩ : ∃ k, h2 + c2 = k := ⟨_, rfl⟩
  rw [hk3] at t2
  obtain ⟨s3, c3, e3, hc3, f3⟩ := adw_fact l3 k3 0 hl3 t2.2.2.1 (by omega)
  have t3 := Pl.times_word ha.2.2.2 hx t2.2.2.1 m3 hl3 e3
  obtain ⟨k4, hk4⟩ : ∃ k, h3 + c3 = k := ⟨_, rfl⟩
  rw [hk4] at t3
  have g0 : IntKind.u64.wrap ((h0 : Int) + (c0 : Int)) = (k1 : Int) := by rw [IntKind.wrap_u64]; omega
  have g1 : IntKind.u64.wrap ((h1 : Int) + (c1 : Int)) = (k2 : Int) := by rw [IntKind.wrap_u64]; omega
  have g2 : IntKind.u64.wrap ((h2 : Int) + (c2 : Int)) = (k3 : Int) := by rw [IntKind.wrap_u64]; omega
  have g3 : IntKind.u64.wrap ((h3 : Int) + (c3 : Int)) = (k4 : Int) := by rw [IntKind.wrap_u64]; omega
  refine ⟨s0, s1, s2, s3, k4, ⟨⟨t0.1, t1.1, t2.1, t3.1⟩, t3.2.2.1, Pl.times_spec t0.2.2.2 t1.2.2.2 t2.2.2.2 t3.2.2.2⟩, fun w => ?_⟩
  have M0 := Lib.hid F0
  have M1 := Lib.hid F1
  have M2 := Lib.hid F2
  have M3 := Lib.hid F3
  clear F0 F1 F2 F3 t0 t1 t2 t3 e0 e1 e2 e3 m0 m1 m2 m3 hk1 hk2 hk3 hk4 ha hx hl0 hl1 hl2 hl3 hh0 hh1 hh2 hh3 hc0 hc1 hc2 hc3
  simp only [Int.natCast_zero] at f0 f1 f2 f3
  go_enter Try.func59, Try.ntmps59
  go_wp2
  refine wp_loop_rounds 5 ?_
  rw [rounds_succ]
  go_wp2_with (fail)
  go_at_call 60
  refine (M0.out _).mono ?_
  rintro e w1 ⟨rfl, rfl⟩
  go_wp2
  rw [rounds_succ]
  go_wp2_with (fail)
  go_at_call 60
  refine (M1.out _).mono ?_
  rintro e w2 ⟨rfl, rfl⟩
  go_wp2
  rw [rounds_succ]
  go_wp2_with (fail)
  go_at_call 60
  refine (M2.out _).mono ?_
  rintro e w3 ⟨rfl, rfl⟩
  go_wp2
  rw [rounds_succ]
  go_wp2_with (fail)
  go_at_call 60
  refine (M3.out _).mono ?_
  rintro e w4 ⟨rfl, rfl⟩
  go_wp2
  rw [rounds_succ]
  go_wp2
  go_outline
  refine bodyPost_ret (v := .tuple #[.agg #[.int .u64 s0, .int .u64 s1, .int .u64 s2, .int .u64 s3], .int .u64 k4]) (by simp [results, Try.results59, go_sem]) rfl ⟨rfl, ?_⟩
  go_grown
end Go.Proofs.Ytldnjbpcdojffaa
/- @@NUM 25 The walk of residue's product of two numbers: eight words. Conditions: words are below 2^64. -/
namespace Go.Proofs.Ytldnjbpcdojffaa
set_option linter.unusedVariables false
set_option linter.unusedSimpArgs false
open Go Go.RowKit
open Pl (V V8 W4 T256 pP adl adc lowW)

theorem index_num (x0 x1 x2 x3 : Value) : (∀ w, (Instr.index 25 (.agg #[x0, x1, x2, x3]) (.int .i64 0)).run Try.prog w = .ok x0 w) ∧ (∀ w, (Instr.index 25 (.agg #[x0, x1, x2, x3]) (.int .i64 1)).run Try.prog w = .ok x1 w) ∧ (∀ w, (Instr.index 25 (.agg #[x0, x1, x2, x3]) (.int .i64 2)).run Try.prog w = .ok x2 w) ∧ (∀ w, (Instr.index 25 (.agg #[x0, x1, x2, x3]) (.int .i64 3)).run Try.prog w = .ok x3 w) :=
  ⟨fun _ => by kernel_rfl, fun _ => by kernel_rfl, fun _ => by kernel_rfl, fun _ => by kernel_rfl⟩

/-- What stands in out behind i rounds. -/
structure PR (a0 a1 a2 a3 b0 b1 b2 b3 : Nat) (i : Nat) (o0 o1 o2 o3 o4 o5 o6 o7 : Nat) : Prop where
  lo : W4 o0 o1 o2 o3
  hi : W4 o4 o5 o6 o7
  val : V8 o0 o1 o2 o3 o4 o5 o6 o7 = V a0 a1 a2 a3 * lowW b0 b1 b2 b3 i
  z4 : i = 0 → o4 = 0
  z5 : i ≤ 1 → o5 = 0
  z6 : i ≤ 2 → o6 = 0
  z7 : i ≤ 3 → o7 = 0

set_option maxHeartbeats 8000000 in
theorem product_fact (a0 a1 a2 a3 b0 b1 b2 b3 : Nat) (ha : W4 a0 a1 a2 a3) (hb : W4 b0 b1 b2 b3) : ∃ r0 r1 r2 r3 r4 r5 r6 r7 : Nat, (W4 r0 r1 r2 r3 ∧ W4 r4 r5 r6 r7 ∧ V8 r0 r1 r2 r3 r4 r5 r6 r7 = V a0 a1 a2 a3 * V b0 b1 b2 b3) ∧ ∀ w : World,
    Calls Try.prog 54 #[.agg #[.int .u64 a0, .int .u64 a1, .int .u64 a2, .int .u64 a3], .agg #[.int .u64 b0, .int .u64 b1, .int .u64 b2, .int .u64 b3]] w fun e w' => e = .returned (.agg #[.int .u64 r0, .int .u64 r1, .int .u64 r2, .int .u64 r3, .int .u64 r4, .int .u64 r5, .int .u64 r6, .int .u64 r7]) ∧ Below w.heap.size w w' := by
  have hlt : V a0 a1 a2 a3 * V b0 b1 b2 b3 < T256 * T256 := Nat.mul_lt_mul'' (Pl.V_lt ha) (Pl.V_lt hb)
  obtain ⟨r0, r1, r2, r3, hrl, vl⟩ := Pl.words (V a0 a1 a2 a3 * V b0 b1 b2 b3 % T256) (Nat.mod_lt _ (by decide +kernel))
  obtain ⟨r4, r5, r6, r7, hrh, vh⟩ := Pl.words (V a0 a1 a2 a3 * V b0 b1 b2 b3 / T256) (Nat.div_lt_of_lt_mul hlt)
  have hrv : V8 r0 r1 r2 r3 r4 r5 r6 r7 = V a0 a1 a2 a3 * V b0 b1 b2 b3 := by
    unfold Pl.V8
    rw [vl, vh]
    exact Nat.mod_add_div _ _
  refine ⟨r0, r1, r2, r3, r4, r5, r6, r7, ⟨hrl, hrh, hrv⟩, fun w => ?_⟩
  have HRL := Lib.hid hrl
  have HRH := Lib.hid hrh
  have HRV := Lib.hid hrv
  have HA := Lib.hid ha
  have HB := Lib.hid hb
  clear hlt vl vh hrl hrh hrv ha hb
  obtain ⟨x0, x1, x2, x3⟩ := index_num (.int .u64 b0) (.int .u64 b1) (.int .u64 b2) (.int .u64 b3)
  go_enter Try.func54, Try.ntmps54
  go_wp2
  go_loopg [13] 4 (fun kq v13 wr => ∃ i : Nat, ∃ o0 o1 o2 o3 o4 o5 o6 o7 : Nat, v13 = .int .i64 i ∧ Hid (i + kq = 4) ∧ Hid (PR a0 a1 a2 a3 b0 b1 b2 b3 i o0 o1 o2 o3 o4 o5 o6 o7) ∧ Hid (wr.heap[w.heap.size]? = some (.cells #[.int .u64 a0, .int .u64 a1, .int .u64 a2, .int .u64 a3] 25 (0, 0)) ∧ wr.heap[w.heap.size + 1 + 1]? = some (.cells #[.int .u64 0, .int .u64 0, .int .u64 0, .int .u64 0, .int .u64 0, .int .u64 0, .int .u64 0, .int .u64 0] 62 (0, 0)) ∧ wr.heap[w.heap.size + 1 + 1 + 1]? = some (.cells #[.int .u64 o0, .int .u64 o1, .int .u64 o2, .int .u64 o3, .int .u64 o4, .int .u64 o5, .int .u64 o6, .int .u64 o7] 62 (0, 0))) ∧ Hid (Below w.heap.size w wr))
  case atStart =>
    refine ⟨0, 0, 0, 0, 0, 0, 0, 0, 0, rfl, rfl, ?_, ⟨heap_old (heap_old (heap_old (heap_new _ _) _) _) _, heap_old (heap_new' (by simp) _) _, heap_new' (by simp) _⟩, ?_⟩
    · show PR _ _ _ _ _ _ _ _ _ _ _ _ _ _ _ _ _
      refine ⟨by unfold W4; omega, by unfold W4; omega, by rw [show lowW b0 b1 b2 b3 0 = 0 from rfl, Nat.mul_zero]; decide +kernel, fun _ => rfl, fun _ => rfl, fun _ => rfl, fun _ => rfl⟩
    · show Below _ _ _
      go_grown
  case round =>
    obtain ⟨i, o0, o1, o2, o3, o4, o5, o6, o7, rfl, HK, HP, HH, HW⟩ := hrel
    have hi : i = 0 ∨ i = 1 ∨ i = 2 ∨ i = 3 ∨ i = 4 := by have := HK.out; omega
    rcases hi with rfl | rfl | rfl | rfl | rfl
    · -- the round of word 0
      obtain rfl : o4 = 0 := HP.out.z4 (by omega)
      obtain rfl : o5 = 0 := HP.out.z5 (by omega)
      obtain rfl : o6 = 0 := HP.out.z6 (by omega)
      obtain rfl : o7 = 0 := HP.out.z7 (by omega)
      obtain ⟨q0, q1, q2, q3, v, ⟨hq, hv, tq⟩, T⟩ := times_fact a0 a1 a2 a3 b0 HA.out (HB.out.1)
      obtain ⟨s0, c0, e0, hc0, f0⟩ := adw_fact o0 q0 0 (HP.out.lo.1) hq.1 (by omega)
      obtain ⟨s1, c1, e1, hc1, f1⟩ := adw_fact o1 q1 c0 (HP.out.lo.2.1) hq.2.1 hc0
      obtain ⟨s2, c2, e2, hc2, f2⟩ := adw_fact o2 q2 c1 (HP.out.lo.2.2.1) hq.2.2.1 hc1
      obtain ⟨s3, c3, e3, hc3, f3⟩ := adw_fact o3 q3 c2 (HP.out.lo.2.2.2) hq.2.2.2 hc2
      have P := Pl.plus_spec (show W4 o0 o1 o2 o3 from ⟨HP.out.lo.1, HP.out.lo.2.1, HP.out.lo.2.2.1, HP.out.lo.2.2.2⟩) hq e0 e1 e2 e3
      obtain ⟨ht, U⟩ := Pl.row_top HA.out (HB.out.1) (show W4 o0 o1 o2 o3 from ⟨HP.out.lo.1, HP.out.lo.2.1, HP.out.lo.2.2.1, HP.out.lo.2.2.2⟩) tq P
      obtain ⟨t, hk⟩ : ∃ k, v + c3 = k := ⟨_, rfl⟩
      rw [hk] at ht U
      have g : IntKind.u64.wrap ((v : Int) + (c3 : Int)) = (t : Int) := by rw [IntKind.wrap_u64]; omega
      have hval := Pl.prod0 (b0 := b0) (b1 := b1) (b2 := b2) (b3 := b3) HP.out.val U
      have HN : Hid (PR a0 a1 a2 a3 b0 b1 b2 b3 1 s0 s1 s2 s3 t 0 0 0) := ⟨⟨P.1.1, P.1.2.1, P.1.2.2.1, P.1.2.2.2⟩, ⟨ht, HP.out.hi.2.1, HP.out.hi.2.2.1, HP.out.hi.2.2.2⟩, hval, fun h => by omega, fun _ => rfl, fun _ => rfl, fun _ => rfl⟩
      have M := Lib.hid T
      have HK' : Hid (1 + (gk - 1) = 4 ∧ 0 < gk) := by have h := HK.out; exact ⟨by omega, by omega⟩
      have cA := cells4 HH.out.1; have zA := lt_of_heap HH.out.1
      clear T HP hq hv tq P U hk ht hval e0 e1 e2 e3 hc0 hc1 hc2 hc3 HK HRL HRH HRV HA HB
      simp only [Int.natCast_zero] at f0 f1 f2 f3
      go_wp2_with (fail)
      go_at_call 59
      refine (M.out _).mono ?_
      rintro e w1 ⟨rfl, hb⟩
      have hA' := heap_keep' hb HH.out.1
      have hR' := heap_keep' hb HH.out.2.1
      have hO' := heap_keep' hb HH.out.2.2
      have HW1 : Hid (Below w.heap.size w w1) := below_call HW.out HW.out.size hb
      clear HW HH cA zA hb M
      have cO := cells8 hO'; have fO := frozen_of hO'; have zO := lt_of_heap hO'
      have HHA := Lib.hid hA'; have HHR := Lib.hid hR'; have HHO := Lib.hid hO'
      clear hA' hR' hO'
      go_wp2
      refine wp_loop_rounds 5 ?_
      rw [rounds_succ]
      go_wp2
      go_region
      go_wp2
      rw [rounds_succ]
      go_wp2
      go_region
      go_wp2
      rw [rounds_succ]
      go_wp2
      go_region
      go_wp2
      rw [rounds_succ]
      go_wp2
      go_region
      go_wp2
      rw [rounds_succ]
      go_wp2
      go_roundg (gk - 1)
      case measure => have := HK'.out; omega
      case rel =>
        refine ⟨1, s0, s1, s2, s3, t, 0, 0, 0, rfl, HK'.out.1, HN, ⟨?_, ?_, ?_⟩, ?_⟩
        · (repeat (with_reducible refine heap_drew ?_)); with_reducible refine heap_old ?_ _; (repeat (with_reducible refine heap_set_ne ?_ (by simp <;> omega) _)); exact HHA.out
        · (repeat (with_reducible refine heap_drew ?_)); with_reducible refine heap_old ?_ _; (repeat (with_reducible refine heap_set_ne ?_ (by simp <;> omega) _)); exact HHR.out
        · (repeat (with_reducible refine heap_drew ?_)); with_reducible refine heap_old ?_ _; with_reducible refine heap_five' HHO.out ?_; simp
        · show Below _ _ _
          have hz := HW1.out.size
          have hb : Below w.heap.size w w1 := HW1.out
          go_grown
    · -- the round of word 1
      obtain rfl : o5 = 0 := HP.out.z5 (by omega)
      obtain rfl : o6 = 0 := HP.out.z6 (by omega)
      obtain rfl : o7 = 0 := HP.out.z7 (by omega)
      obtain ⟨q0, q1, q2, q3, v, ⟨hq, hv, tq⟩, T⟩ := times_fact a0 a1 a2 a3 b1 HA.out (HB.out.2.1)
      obtain ⟨s0, c0, e0, hc0, f0⟩ := adw_fact o1 q0 0 (HP.out.lo.2.1) hq.1 (by omega)
      obtain ⟨s1, c1, e1, hc1, f1⟩ := adw_fact o2 q1 c0 (HP.out.lo.2.2.1) hq.2.1 hc0
      obtain ⟨s2, c2, e2, hc2, f2⟩ := adw_fact o3 q2 c1 (HP.out.lo.2.2.2) hq.2.2.1 hc1
      obtain ⟨s3, c3, e3, hc3, f3⟩ := adw_fact o4 q3 c2 (HP.out.hi.1) hq.2.2.2 hc2
      have P := Pl.plus_spec (show W4 o1 o2 o3 o4 from ⟨HP.out.lo.2.1, HP.out.lo.2.2.1, HP.out.lo.2.2.2, HP.out.hi.1⟩) hq e0 e1 e2 e3
      obtain ⟨ht, U⟩ := Pl.row_top HA.out (HB.out.2.1) (show W4 o1 o2 o3 o4 from ⟨HP.out.lo.2.1, HP.out.lo.2.2.1, HP.out.lo.2.2.2, HP.out.hi.1⟩) tq P
      obtain ⟨t, hk⟩ : ∃ k, v + c3 = k := ⟨_, rfl⟩
      rw [hk] at ht U
      have g : IntKind.u64.wrap ((v : Int) + (c3 : Int)) = (t : Int) := by rw [IntKind.wrap_u64]; omega
      have hval := Pl.prod1 (b0 := b0) (b1 := b1) (b2 := b2) (b3 := b3) HP.out.val U
      have HN : Hid (PR a0 a1 a2 a3 b0 b1 b2 b3 2 o0 s0 s1 s2 s3 t 0 0) := ⟨⟨HP.out.lo.1, P.1.1, P.1.2.1, P.1.2.2.1⟩, ⟨P.1.2.2.2, ht, HP.out.hi.2.2.1, HP.out.hi.2.2.2⟩, hval, fun h => by omega, fun h => by omega, fun _ => rfl, fun _ => rfl⟩
      have M := Lib.hid T
      have HK' : Hid (2 + (gk - 1) = 4 ∧ 0 < gk) := by have h := HK.out; exact ⟨by omega, by omega⟩
      have cA := cells4 HH.out.1; have zA := lt_of_heap HH.out.1
      clear T HP hq hv tq P U hk ht hval e0 e1 e2 e3 hc0 hc1 hc2 hc3 HK HRL HRH HRV HA HB
      simp only [Int.natCast_zero] at f0 f1 f2 f3
      go_wp2_with (fail)
      go_at_call 59
      refine (M.out _).mono ?_
      rintro e w1 ⟨rfl, hb⟩
      have hA' := heap_keep' hb HH.out.1
      have hR' := heap_keep' hb HH.out.2.1
      have hO' := heap_keep' hb HH.out.2.2
      have HW1 : Hid (Below w.heap.size w w1) := below_call HW.out HW.out.size hb
      clear HW HH cA zA hb M
      have cO := cells8 hO'; have fO := frozen_of hO'; have zO := lt_of_heap hO'
      have HHA := Lib.hid hA'; have HHR := Lib.hid hR'; have HHO := Lib.hid hO'
      clear hA' hR' hO'
      go_wp2
      refine wp_loop_rounds 5 ?_
      rw [rounds_succ]
      go_wp2
      go_region
      go_wp2
      rw [rounds_succ]
      go_wp2
      go_region
      go_wp2
      rw [rounds_succ]
      go_wp2
      go_region
      go_wp2
      rw [rounds_succ]
      go_wp2
      go_region
      go_wp2
      rw [rounds_succ]
      go_wp2
      go_roundg (gk - 1)
      case measure => have := HK'.out; omega
      case rel =>
        refine ⟨2, o0, s0, s1, s2, s3, t, 0, 0, rfl, HK'.out.1, HN, ⟨?_, ?_, ?_⟩, ?_⟩
        · (repeat (with_reducible refine heap_drew ?_)); with_reducible refine heap_old ?_ _; (repeat (with_reducible refine heap_set_ne ?_ (by simp <;> omega) _)); exact HHA.out
        · (repeat (with_reducible refine heap_drew ?_)); with_reducible refine heap_old ?_ _; (repeat (with_reducible refine heap_set_ne ?_ (by simp <;> omega) _)); exact HHR.out
        · (repeat (with_reducible refine heap_drew ?_)); with_reducible refine heap_old ?_ _; with_reducible refine heap_five' HHO.out ?_; simp
        · show Below _ _ _
          have hz := HW1.out.size
          have hb : Below w.heap.size w w1 := HW1.out
          go_grown
    · -- the round of word 2
      obtain rfl : o6 = 0 := HP.out.z6 (by omega)
      obtain rfl : o7 = 0 := HP.out.z7 (by omega)
      obtain ⟨q0, q1, q2, q3, v, ⟨hq, hv, tq⟩, T⟩ := times_fact a0 a1 a2 a3 b2 HA.out (HB.out.2.2.1)
      obtain ⟨s0, c0, e0, hc0, f0⟩ := adw_fact o2 q0 0 (HP.out.lo.2.2.1) hq.1 (by omega)
      obtain ⟨s1, c1, e1, hc1, f1⟩ := adw_fact o3 q1 c0 (HP.out.lo.2.2.2) hq.2.1 hc0
      obtain ⟨s2, c2, e2, hc2, f2⟩ := adw_fact o4 q2 c1 (HP.out.hi.1) hq.2.2.1 hc1
      obtain ⟨s3, c3, e3, hc3, f3⟩ := adw_fact o5 q3 c2 (HP.out.hi.2.1) hq.2.2.2 hc2
      have P := Pl.plus_spec (show W4 o2 o3 o4 o5 from ⟨HP.out.lo.2.2.1, HP.out.lo.2.2.2, HP.out.hi.1, HP.out.hi.2.1⟩) hq e0 e1 e2 e3
      obtain ⟨ht, U⟩ := Pl.row_top HA.out (HB.out.2.2.1) (show W4 o2 o3 o4 o5 from ⟨HP.out.lo.2.2.1, HP.out.lo.2.2.2, HP.out.hi.1, HP.out.hi.2.1⟩) tq P
      obtain ⟨t, hk⟩ : ∃ k, v + c3 = k := ⟨_, rfl⟩
      rw [hk] at ht U
      have g : IntKind.u64.wrap ((v : Int) + (c3 : Int)) = (t : Int) := by rw [IntKind.wrap_u64]; omega
      have hval := Pl.prod2 (b0 := b0) (b1 := b1) (b2 := b2) (b3 := b3) HP.out.val U
      have HN : Hid (PR a0 a1 a2 a3 b0 b1 b2 b3 3 o0 o1 s0 s1 s2 s3 t 0) := ⟨⟨HP.out.lo.1, HP.out.lo.2.1, P.1.1, P.1.2.1⟩, ⟨P.1.2.2.1, P.1.2.2.2, ht, HP.out.hi.2.2.2⟩, hval, fun h => by omega, fun h => by omega, fun h => by omega, fun _ => rfl⟩
      have M := Lib.hid T
      have HK' : Hid (3 + (gk - 1) = 4 ∧ 0 < gk) := by have h := HK.out; exact ⟨by omega, by omega⟩
      have cA := cells4 HH.out.1; have zA := lt_of_heap HH.out.1
      clear T HP hq hv tq P U hk ht hval e0 e1 e2 e3 hc0 hc1 hc2 hc3 HK HRL HRH HRV HA HB
      simp only [Int.natCast_zero] at f0 f1 f2 f3
      go_wp2_with (fail)
      go_at_call 59
      refine (M.out _).mono ?_
      rintro e w1 ⟨rfl, hb⟩
      have hA' := heap_keep' hb HH.out.1
      have hR' := heap_keep' hb HH.out.2.1
      have hO' := heap_keep' hb HH.out.2.2
      have HW1 : Hid (Below w.heap.size w w1) := below_call HW.out HW.out.size hb
      clear HW HH cA zA hb M
      have cO := cells8 hO'; have fO := frozen_of hO'; have zO := lt_of_heap hO'
      have HHA := Lib.hid hA'; have HHR := Lib.hid hR'; have HHO := Lib.hid hO'
      clear hA' hR' hO'
      go_wp2
      refine wp_loop_rounds 5 ?_
      rw [rounds_succ]
      go_wp2
      go_region
      go_wp2
      rw [rounds_succ]
      go_wp2
      go_region
      go_wp2
      rw [rounds_succ]
      go_wp2
      go_region
      go_wp2
      rw [rounds_succ]
      go_wp2
      go_region
      go_wp2
      rw [rounds_succ]
      go_wp2
      go_roundg (gk - 1)
      case measure => have := HK'.out; omega
      case rel =>
        refine ⟨3, o0, o1, s0, s1, s2, s3, t, 0, rfl, HK'.out.1, HN, ⟨?_, ?_, ?_⟩, ?_⟩
        · (repeat (with_reducible refine heap_drew ?_)); with_reducible refine heap_old ?_ _; (repeat (with_reducible refine heap_set_ne ?_ (by simp <;> omega) _)); exact HHA.out
        · (repeat (with_reducible refine heap_drew ?_)); with_reducible refine heap_old ?_ _; (repeat (with_reducible refine heap_set_ne ?_ (by simp <;> omega) _)); exact HHR.out
        · (repeat (with_reducible refine heap_drew ?_)); with_reducible refine heap_old ?_ _; with_reducible refine heap_five' HHO.out ?_; simp
        · show Below _ _ _
          have hz := HW1.out.size
          have hb : Below w.heap.size w w1 := HW1.out
          go_grown
    · -- the round of word 3
      obtain rfl : o7 = 0 := HP.out.z7 (by omega)
      obtain ⟨q0, q1, q2, q3, v, ⟨hq, hv, tq⟩, T⟩ := times_fact a0 a1 a2 a3 b3 HA.out (HB.out.2.2.2)
      obtain ⟨s0, c0, e0, hc0, f0⟩ := adw_fact o3 q0 0 (HP.out.lo.2.2.2) hq.1 (by omega)
      obtain ⟨s1, c1, e1, hc1, f1⟩ := adw_fact o4 q1 c0 (HP.out.hi.1) hq.2.1 hc0
      obtain ⟨s2, c2, e2, hc2, f2⟩ := adw_fact o5 q2 c1 (HP.out.hi.2.1) hq.2.2.1 hc1
      obtain ⟨s3, c3, e3, hc3, f3⟩ := adw_fact o6 q3 c2 (HP.out.hi.2.2.1) hq.2.2.2 hc2
      have P := Pl.plus_spec (show W4 o3 o4 o5 o6 from ⟨HP.out.lo.2.2.2, HP.out.hi.1, HP.out.hi.2.1, HP.out.hi.2.2.1⟩) hq e0 e1 e2 e3
      obtain ⟨ht, U⟩ := Pl.row_top HA.out (HB.out.2.2.2) (show W4 o3 o4 o5 o6 from ⟨HP.out.lo.2.2.2, HP.out.hi.1, HP.out.hi.2.1, HP.out.hi.2.2.1⟩) tq P
      obtain ⟨t, hk⟩ : ∃ k, v + c3 = k := ⟨_, rfl⟩
      rw [hk] at ht U
      have g : IntKind.u64.wrap ((v : Int) + (c3 : Int)) = (t : Int) := by rw [IntKind.wrap_u64]; omega
      have hval := Pl.prod3 (b0 := b0) (b1 := b1) (b2 := b2) (b3 := b3) HP.out.val U
      have HN : Hid (PR a0 a1 a2 a3 b0 b1 b2 b3 4 o0 o1 o2 s0 s1 s2 s3 t) := ⟨⟨HP.out.lo.1, HP.out.lo.2.1, HP.out.lo.2.2.1, P.1.1⟩, ⟨P.1.2.1, P.1.2.2.1, P.1.2.2.2, ht⟩, hval, fun h => by omega, fun h => by omega, fun h => by omega, fun h => by omega⟩
      have M := Lib.hid T
      have HK' : Hid (4 + (gk - 1) = 4 ∧ 0 < gk) := by have h := HK.out; exact ⟨by omega, by omega⟩
      have cA := cells4 HH.out.1; have zA := lt_of_heap HH.out.1
      clear T HP hq hv tq P U hk ht hval e0 e1 e2 e3 hc0 hc1 hc2 hc3 HK HRL HRH HRV HA HB
      simp only [Int.natCast_zero] at f0 f1 f2 f3
      go_wp2_with (fail)
      go_at_call 59
      refine (M.out _).mono ?_
      rintro e w1 ⟨rfl, hb⟩
      have hA' := heap_keep' hb HH.out.1
      have hR' := heap_keep' hb HH.out.2.1
      have hO' := heap_keep' hb HH.out.2.2
      have HW1 : Hid (Below w.heap.size w w1) := below_call HW.out HW.out.size hb
      clear HW HH cA zA hb M
      have cO := cells8 hO'; have fO := frozen_of hO'; have zO := lt_of_heap hO'
      have HHA := Lib.hid hA'; have HHR := Lib.hid hR'; have HHO := Lib.hid hO'
      clear hA' hR' hO'
      go_wp2
      refine wp_loop_rounds 5 ?_
      rw [rounds_succ]
      go_wp2
      go_region
      go_wp2
      rw [rounds_succ]
      go_wp2
      go_region
      go_wp2
      rw [rounds_succ]
      go_wp2
      go_region
      go_wp2
      rw [rounds_succ]
      go_wp2
      go_region
      go_wp2
      rw [rounds_succ]
      go_wp2
      go_roundg (gk - 1)
      case measure => have := HK'.out; omega
      case rel =>
        refine ⟨4, o0, o1, o2, s0, s1, s2, s3, t, rfl, HK'.out.1, HN, ⟨?_, ?_, ?_⟩, ?_⟩
        · (repeat (with_reducible refine heap_drew ?_)); with_reducible refine heap_old ?_ _; (repeat (with_reducible refine heap_set_ne ?_ (by simp <;> omega) _)); exact HHA.out
        · (repeat (with_reducible refine heap_drew ?_)); with_reducible refine heap_old ?_ _; (repeat (with_reducible refine heap_set_ne ?_ (by simp <;> omega) _)); exact HHR.out
        · (repeat (with_reducible refine heap_drew ?_)); with_reducible refine heap_old ?_ _; with_reducible refine heap_five' HHO.out ?_; simp
        · show Below _ _ _
          have hz := HW1.out.size
          have hb : Below w.heap.size w w1 := HW1.out
          go_grown
    · -- behind the rounds
      have HQ := HP.out
      have hv : V8 o0 o1 o2 o3 o4 o5 o6 o7 = V8 r0 r1 r2 r3 r4 r5 r6 r7 := by rw [HRV.out, HQ.val]; rfl
      have HE : Hid (o0 = r0 ∧ o1 = r1 ∧ o2 = r2 ∧ o3 = r3 ∧ o4 = r4 ∧ o5 = r5 ∧ o6 = r6 ∧ o7 = r7) := by
        have h1 := HQ.lo; have h2 := HQ.hi; have h3 := HRL.out; have h4 := HRH.out
        unfold Pl.W4 at h1 h2 h3 h4
        unfold Pl.V8 Pl.T256 at hv
        unfold Pl.V at hv
        refine ⟨?_, ?_, ?_, ?_, ?_, ?_, ?_, ?_⟩ <;> omega
      have cO := cells8 HH.out.2.2
      have cR := cells8 HH.out.2.1
      have fR := frozen_of HH.out.2.1
      have qR := cells8 (heap_eight HH.out.2.1 (.int .u64 o0) (.int .u64 o1) (.int .u64 o2) (.int .u64 o3) (.int .u64 o4) (.int .u64 o5) (.int .u64 o6) (.int .u64 o7))
      clear HQ hv HRL HRH HRV HA HB HP
      go_wp2
      obtain ⟨rfl, rfl, rfl, rfl, rfl, rfl, rfl, rfl⟩ := HE.out
      refine bodyPost_ret (v := .agg #[.int .u64 o0, .int .u64 o1, .int .u64 o2, .int .u64 o3, .int .u64 o4, .int .u64 o5, .int .u64 o6, .int .u64 o7]) (by simp [results, Try.results54, go_sem, qR]) rfl ⟨rfl, ?_⟩
      have hb : Below w.heap.size w wr := HW.out
      go_grown
end Go.Proofs.Ytldnjbpcdojffaa
/- @@NUM 25 The walks of residue's folded and mul: a product modulo the prime. Conditions: words are below 2^64. -/
namespace Go.Proofs.Ytldnjbpcdojffaa
set_option linter.unusedVariables false
set_option linter.unusedSimpArgs false
open Go Go.RowKit
open Pl (V V8 W4 T256 pP adl adc lowW)

theorem T256_mod : T256 % pP = 38 := by decide +kernel
theorem fold_mod {l0 l1 l2 l3 h0 h1 h2 h3 r0 r1 r2 r3 c ov k : Nat} {s0 s1 s2 s3 : Nat} (hr : V r0 r1 r2 r3 + T256 * ov = V h0 h1 h2 h3 * 38) (hs : V s0 s1 s2 s3 + T256 * c = V l0 l1 l2 l3 + V r0 r1 r2 r3) (hk : ov + c = k) :
    V8 s0 s1 s2 s3 k 0 0 0 = V l0 l1 l2 l3 + V h0 h1 h2 h3 * 38 ∧ V8 s0 s1 s2 s3 k 0 0 0 % pP = V8 l0 l1 l2 l3 h0 h1 h2 h3 % pP := by
  have e1 : V8 s0 s1 s2 s3 k 0 0 0 = V l0 l1 l2 l3 + V h0 h1 h2 h3 * 38 := by
    have : V k 0 0 0 = k := by unfold Pl.V; omega
    unfold Pl.V8
    rw [this, ← hk, Nat.mul_add]
    omega
  refine ⟨e1, ?_⟩
  rw [e1]
  unfold Pl.V8
  rw [Nat.add_mod, Nat.add_mod (V l0 l1 l2 l3) (T256 * _), Nat.mul_mod T256, T256_mod, Nat.mul_comm (V h0 h1 h2 h3) 38, Nat.mul_mod 38]
  have : 38 % pP = 38 := by decide +kernel
  rw [this]

theorem array_at (b o c : Nat) (w : World) : (Instr.arrayAt 25 (.slice (some ⟨b, o, none⟩) 4 c)).run Try.prog w = .ok (.pointer (some ⟨b, o, none⟩)) w := by kernel_rfl
attribute [local go_sem] array_at
set_option maxHeartbeats 4000000 in
theorem folded_fact (a0 a1 a2 a3 a4 a5 a6 a7 : Nat) (hal : W4 a0 a1 a2 a3) (hah : W4 a4 a5 a6 a7) : ∃ r0 r1 r2 r3 : Nat, (W4 r0 r1 r2 r3 ∧ V r0 r1 r2 r3 = V8 a0 a1 a2 a3 a4 a5 a6 a7 % pP) ∧ ∀ w : World,
    Calls Try.prog 56 #[.agg #[.int .u64 a0, .int .u64 a1, .int .u64 a2, .int .u64 a3, .int .u64 a4, .int .u64 a5, .int .u64 a6, .int .u64 a7]] w fun e w' => e = .returned (.agg #[.int .u64 r0, .int .u64 r1, .int .u64 r2, .int .u64 r3]) ∧ Below w.heap.size w w' := by
  have hpl : pP < T256 := by decide +kernel
  obtain ⟨r0, r1, r2, r3, hr, hv⟩ := Pl.words (V8 a0 a1 a2 a3 a4 a5 a6 a7 % pP) (Nat.lt_trans (Nat.mod_lt _ (by decide +kernel)) hpl)
  refine ⟨r0, r1, r2, r3, ⟨hr, hv⟩, fun w => ?_⟩
  have HR := Lib.hid hr
  have HV := Lib.hid hv
  have HAL := Lib.hid hal
  have HAH := Lib.hid hah
  clear hr hv hal hah hpl
  go_enter Try.func56, Try.ntmps56
  go_upto_region 1 with (fail)
  go_cut [3, 4] (fun v3 v4 wc => ∃ bl bh : Nat, v3 = .pointer (some ⟨bl, 0, none⟩) ∧ v4 = .pointer (some ⟨bh, 0, none⟩) ∧ Hid (bl ≠ bh ∧ bl ≠ w.heap.size + 1 ∧ bh ≠ w.heap.size + 1 ∧ w.heap.size ≤ bl ∧ w.heap.size ≤ bh) ∧ Hid (wc.heap[bl]? = some (.cells #[.int .u64 a0, .int .u64 a1, .int .u64 a2, .int .u64 a3] 25 (0, 0)) ∧ wc.heap[bh]? = some (.cells #[.int .u64 a4, .int .u64 a5, .int .u64 a6, .int .u64 a7] 25 (0, 0)) ∧ wc.heap[w.heap.size + 1]? = some (.cells #[.int .u64 0, .int .u64 0, .int .u64 0, .int .u64 0] 25 (0, 0))) ∧ Hid (Below w.heap.size w wc))
  case first =>
    go_region
    all_goals
      go_wp2
      go_meet
      case rel =>
        refine ⟨_, _, rfl, rfl, ?_, ⟨?_, ?_, ?_⟩, ?_⟩
        · refine ⟨?_, ?_, ?_, ?_, ?_⟩ <;> omega
        · repeat (first | (with_reducible refine heap_new' ?_ _; simp; done) | (with_reducible refine heap_old ?_ _) | (with_reducible refine heap_drew ?_))
        · repeat (first | (with_reducible refine heap_new' ?_ _; simp; done) | (with_reducible refine heap_old ?_ _) | (with_reducible refine heap_drew ?_))
        · repeat (first | (with_reducible refine heap_new' ?_ _; simp; done) | (with_reducible refine heap_old ?_ _) | (with_reducible refine heap_drew ?_))
        · show Below _ _ _
          go_grown
  case rest =>
    obtain ⟨bl, bh, rfl, rfl, HNE, HH, HB⟩ := hcut
    go_wp2
    go_loopg [] (V8 a0 a1 a2 a3 a4 a5 a6 a7) (fun kq wr => ∃ l0 l1 l2 l3 h0 h1 h2 h3 : Nat, Hid ((W4 l0 l1 l2 l3 ∧ W4 h0 h1 h2 h3) ∧ V8 l0 l1 l2 l3 h0 h1 h2 h3 % pP = V8 a0 a1 a2 a3 a4 a5 a6 a7 % pP ∧ V8 l0 l1 l2 l3 h0 h1 h2 h3 ≤ kq) ∧ Hid (wr.heap[bl]? = some (.cells #[.int .u64 l0, .int .u64 l1, .int .u64 l2, .int .u64 l3] 25 (0, 0)) ∧ wr.heap[bh]? = some (.cells #[.int .u64 h0, .int .u64 h1, .int .u64 h2, .int .u64 h3] 25 (0, 0)) ∧ wr.heap[w.heap.size + 1]? = some (.cells #[.int .u64 0, .int .u64 0, .int .u64 0, .int .u64 0] 25 (0, 0))) ∧ Hid (Below w.heap.size w wr))
    case atStart => exact ⟨a0, a1, a2, a3, a4, a5, a6, a7, ⟨⟨HAL.out, HAH.out⟩, rfl, Nat.le_refl _⟩, HH, HB⟩
    case round =>
      clear HH HB
      obtain ⟨l0, l1, l2, l3, h0, h1, h2, h3, HP, HH, HB⟩ := hrel
      obtain ⟨z, hz, FZ⟩ := zero_fact h0 h1 h2 h3
      have HZ := Lib.hid FZ
      clear FZ
      have cH := cells4 HH.out.2.1
      by_cases hzero : V h0 h1 h2 h3 = 0
      · have hzt : z = true := hz.2 hzero
        subst hzt
        obtain ⟨q0, q1, q2, q3, ⟨hq, hqv⟩, FS⟩ := small_fact l0 l1 l2 l3 HP.out.1.1
        have HS := Lib.hid FS
        have HE : Hid (q0 = r0 ∧ q1 = r1 ∧ q2 = r2 ∧ q3 = r3) := Pl.V_inj hq HR.out (by
          rw [hqv, HV.out, ← HP.out.2.1]
          unfold Pl.V8
          rw [hzero, Nat.mul_zero, Nat.add_zero])
        clear FS hq hqv hz hzero HP
        go_wp2_with (fail)
        go_at_call 15
        refine (HZ.out _).mono ?_
        rintro e w1 ⟨rfl, hb⟩
        have hL := heap_keep' hb HH.out.1
        have hR0 := heap_keep' hb HH.out.2.2
        have HB1 : Hid (Below w.heap.size w w1) := below_call HB.out HB.out.size hb
        clear HB HH cH hb
        have cL := cells4 hL
        have zR := lt_of_heap hR0
        have HR0 := Lib.hid hR0
        clear hL hR0
        go_wp2_with (fail)
        go_at_call 47
        refine (HS.out _).mono ?_
        rintro e w2 ⟨rfl, hb⟩
        have hR1 := heap_keep' hb HR0.out
        have cR := cells4 hR1
        have fR := frozen_of hR1
        have hQ := cells4 (set4 hR1 (.int .u64 q0) (.int .u64 q1) (.int .u64 q2) (.int .u64 q3))
        have HB2 : Below w.heap.size w w2 := below_call HB1.out HB1.out.size hb
        clear hb
        go_wp2
        obtain ⟨rfl, rfl, rfl, rfl⟩ := HE.out
        refine bodyPost_ret (v := .agg #[.int .u64 q0, .int .u64 q1, .int .u64 q2, .int .u64 q3]) (by simp [results, Try.results56, go_sem, hQ]) rfl ⟨rfl, ?_⟩
        go_grown
      · have hzt : z = false := by
          cases z with
          | false => rfl
          | true => exact absurd (hz.1 rfl) hzero
        subst hzt
        obtain ⟨m0, m1, m2, m3, ov, ⟨hm, hov, hmv⟩, FT⟩ := times_fact h0 h1 h2 h3 38 HP.out.1.2 (by omega)
        obtain ⟨s0, s1, s2, s3, c, ⟨hs, hc1, hsv⟩, FP⟩ := plus_fact l0 l1 l2 l3 m0 m1 m2 m3 HP.out.1.1 hm
        have hov2 : ov ≤ 38 := by
          have y1 := Pl.V_lt HP.out.1.2
          have y2 := Pl.V_lt hm
          unfold T256 at *
          omega
        obtain ⟨k, hk⟩ : ∃ k, ov + c = k := ⟨_, rfl⟩
        have hf := fold_mod hmv hsv hk
        have g : IntKind.u64.wrap ((ov : Int) + (c : Int)) = (k : Int) := by rw [IntKind.wrap_u64]; omega
        have HN : Hid ((W4 s0 s1 s2 s3 ∧ W4 k 0 0 0) ∧ V8 s0 s1 s2 s3 k 0 0 0 % pP = V8 a0 a1 a2 a3 a4 a5 a6 a7 % pP ∧ V8 s0 s1 s2 s3 k 0 0 0 < gk) := by
          refine ⟨⟨hs, by unfold W4; omega⟩, by rw [hf.2, HP.out.2.1], ?_⟩
          have y1 := HP.out.2.2
          rw [hf.1]
          have y2 : V h0 h1 h2 h3 * 38 < T256 * V h0 h1 h2 h3 := by rw [Nat.mul_comm]; exact Nat.mul_lt_mul_of_pos_right (by decide +kernel) (Nat.pos_of_ne_zero hzero)
          have y3 : V8 l0 l1 l2 l3 h0 h1 h2 h3 = V l0 l1 l2 l3 + T256 * V h0 h1 h2 h3 := rfl
          omega
        have HT := Lib.hid FT
        have HPL := Lib.hid FP
        have N1 := Lib.hid HNE.out
        have zl1 : bl ≠ bh := HNE.out.1
        clear FT FP hm hov hmv hs hc1 hsv hov2 hk hf hz hzero HP HR HV HAL HAH
        go_wp2_with (fail)
        go_at_call 15
        refine (HZ.out _).mono ?_
        rintro e w1 ⟨rfl, hb⟩
        have HL := Lib.hid (heap_keep' hb HH.out.1)
        have hH := heap_keep' hb HH.out.2.1
        have HR0 := Lib.hid (heap_keep' hb HH.out.2.2)
        have HB1 : Hid (Below w.heap.size w w1) := below_call HB.out HB.out.size hb
        clear HB HH cH hb
        have cH := cells4 hH
        have HHH := Lib.hid hH
        clear hH
        go_wp2_with (fail)
        go_at_call 59
        refine (HT.out _).mono ?_
        rintro e w2 ⟨rfl, hb⟩
        have hL := heap_keep' hb HL.out
        have HH2 := Lib.hid (heap_keep' hb HHH.out)
        have HR2 := Lib.hid (heap_keep' hb HR0.out)
        have HB2 : Hid (Below w.heap.size w w2) := below_call HB1.out HB1.out.size hb
        clear HB1 HHH HR0 HL cH hb
        have cL := cells4 hL
        have zL := lt_of_heap hL
        have HL2 := Lib.hid hL
        clear hL
        go_wp2_with (fail)
        go_at_call 53
        refine (HPL.out _).mono ?_
        rintro e w3 ⟨rfl, hb⟩
        have hL := heap_keep' hb (heap_old HL2.out _)
        have hH := heap_keep' hb (heap_old HH2.out _)
        have HR3 := Lib.hid (heap_keep' hb (heap_old HR2.out _))
        have HB3 : Hid (Below w.heap.size w w3) := below_call (HB2.out.alloc HB2.out.size _) (Nat.le_trans HB2.out.size (by simp)) hb
        clear HB2 HL2 HH2 HR2 cL zL hb
        have cL := cells4 hL
        have fL := frozen_of hL
        have zL := lt_of_heap hL
        have cH := cells4 hH
        have fH := frozen_of hH
        have zH := lt_of_heap hH
        have HL3 := Lib.hid hL
        have HH3 := Lib.hid hH
        clear hL hH
        go_wp2
        go_roundg (V8 s0 s1 s2 s3 k 0 0 0)
        case measure => exact HN.out.2.2
        case rel =>
          refine ⟨s0, s1, s2, s3, k, 0, 0, 0, ⟨HN.out.1, HN.out.2.1, Nat.le_refl _⟩, ⟨?_, ?_, ?_⟩, ?_⟩
          · exact heap_old (keep4 (set4 HL3.out _ _ _ _) HNE.out.1 _ _ _ _) _
          · exact heap_old (set4 (keep4 HH3.out (Ne.symm HNE.out.1) _ _ _ _) _ _ _ _) _
          · exact heap_old (keep4 (keep4 HR3.out (Ne.symm HNE.out.2.1) _ _ _ _) (Ne.symm HNE.out.2.2.1) _ _ _ _) _
          · exact (set4_below (set4_below HB3.out HNE.out.2.2.2.1 _ _ _ _) HNE.out.2.2.2.2 _ _ _ _).alloc (by rw [size4, size4]; exact HB3.out.size) _

set_option maxHeartbeats 1000000 in
theorem mul_fact (a0 a1 a2 a3 b0 b1 b2 b3 : Nat) (ha : W4 a0 a1 a2 a3) (hb : W4 b0 b1 b2 b3) : ∃ r0 r1 r2 r3 : Nat, (W4 r0 r1 r2 r3 ∧ V r0 r1 r2 r3 = V a0 a1 a2 a3 * V b0 b1 b2 b3 % pP) ∧ ∀ w : World,
    Calls Try.prog 48 #[.agg #[.int .u64 a0, .int .u64 a1, .int .u64 a2, .int .u64 a3], .agg #[.int .u64 b0, .int .u64 b1, .int .u64 b2, .int .u64 b3]] w fun e w' => e = .returned (.agg #[.int .u64 r0, .int .u64 r1, .int .u64 r2, .int .u64 r3]) ∧ Below w.heap.size w w' := by
  obtain ⟨x0, x1, x2, x3, x4, x5, x6, x7, ⟨hl, hh, hv⟩, FP⟩ := product_fact a0 a1 a2 a3 b0 b1 b2 b3 ha hb
  obtain ⟨r0, r1, r2, r3, ⟨hr, hrv⟩, FF⟩ := folded_fact x0 x1 x2 x3 x4 x5 x6 x7 hl hh
  refine ⟨r0, r1, r2, r3, ⟨hr, by rw [hrv, hv]⟩, fun w => ?_⟩
  have HP := Lib.hid FP
  have HF := Lib.hid FF
  clear FP FF hrv hr hv hl hh ha hb
  go_enter Try.func48, Try.ntmps48
  go_wp2_with (fail)
  go_at_call 54
  refine (HP.out _).mono ?_
  rintro e w1 ⟨rfl, hb⟩
  have hR : w1.heap[w.heap.size + 1 + 1]? = some (.cells #[.int .u64 0, .int .u64 0, .int .u64 0, .int .u64 0] 25 (0, 0)) := heap_keep' hb (by repeat (first | (with_reducible refine heap_new' ?_ _; simp; done) | (with_reducible assumption) | (with_reducible refine heap_old ?_ _) | (with_reducible refine heap_drew ?_) | (with_reducible refine heap_set_ne ?_ (by simp <;> omega) _))); have cR := cells4 hR; have fR := frozen_of hR; have zR := lt_of_heap hR
  have HB : Below w.heap.size w w1 := below_call (by go_grown) (by simp; omega) hb
  clear hb cR fR zR
  go_wp2_with (fail)
  go_at_call 56
  refine (HF.out _).mono ?_
  rintro e w2 ⟨rfl, hb⟩
  have hR2 := heap_keep' hb hR
  have hz := HB.size
  have HB2 : Below w.heap.size w w2 := below_call HB HB.size hb
  have cR := cells4 hR2
  have fR := frozen_of hR2
  clear hb hR
  have hQ := cells4 (set4 hR2 (.int .u64 r0) (.int .u64 r1) (.int .u64 r2) (.int .u64 r3))
  go_wp2
  refine bodyPost_ret (v := .agg #[.int .u64 r0, .int .u64 r1, .int .u64 r2, .int .u64 r3]) (by simp [results, Try.results48, go_sem, hQ]) rfl ⟨rfl, ?_⟩
  go_grown
end Go.Proofs.Ytldnjbpcdojffaa
/- @@NUM 25 The walks of residue's Sub, Add and Mul (of one, two, three numbers, and of none). Conditions: words are below 2^64. -/
namespace Go.Proofs.Ytldnjbpcdojffaa
set_option linter.unusedVariables false
set_option linter.unusedSimpArgs false
open Go Go.RowKit
open Pl (V V8 W4 T256 pP)

theorem pP_pos : 0 < pP := by decide +kernel
theorem cells12 {w : World} {b : Nat} {c0 c1 c2 c3 c4 c5 c6 c7 c8 c9 c10 c11 : Value} {t : TypeId} {mk : Nat × Nat} (h : w.heap[b]? = some (.cells #[c0, c1, c2, c3, c4, c5, c6, c7, c8, c9, c10, c11] t mk)) :
    w.cell? ⟨b, 0, none⟩ = some c0 ∧ w.cell? ⟨b, 1, none⟩ = some c1 ∧ w.cell? ⟨b, 2, none⟩ = some c2 ∧ w.cell? ⟨b, 3, none⟩ = some c3 ∧ w.cell? ⟨b, 4, none⟩ = some c4 ∧ w.cell? ⟨b, 5, none⟩ = some c5 ∧ w.cell? ⟨b, 6, none⟩ = some c6 ∧ w.cell? ⟨b, 7, none⟩ = some c7
    ∧ w.cell? ⟨b, 8, none⟩ = some c8 ∧ w.cell? ⟨b, 9, none⟩ = some c9 ∧ w.cell? ⟨b, 10, none⟩ = some c10 ∧ w.cell? ⟨b, 11, none⟩ = some c11 := by
  simp [World.cell?, h]

set_option maxHeartbeats 2000000 in
theorem Sub_fact (a0 a1 a2 a3 b0 b1 b2 b3 : Nat) (ha : W4 a0 a1 a2 a3) (hb : W4 b0 b1 b2 b3) : ∃ r0 r1 r2 r3 : Nat, (W4 r0 r1 r2 r3 ∧ V r0 r1 r2 r3 = (V a0 a1 a2 a3 % pP + (pP - V b0 b1 b2 b3 % pP)) % pP) ∧ ∀ w : World,
    Calls Try.prog 26 #[.agg #[.int .u64 a0, .int .u64 a1, .int .u64 a2, .int .u64 a3], .agg #[.int .u64 b0, .int .u64 b1, .int .u64 b2, .int .u64 b3]] w fun e w' => e = .returned (.agg #[.int .u64 r0, .int .u64 r1, .int .u64 r2, .int .u64 r3]) ∧ Below w.heap.size w w' := by
  obtain ⟨p0, p1, p2, p3, hp, FP⟩ := prime_fact
  obtain ⟨s0, s1, s2, s3, ⟨hs, hsv⟩, FS⟩ := small_fact b0 b1 b2 b3 hb
  obtain ⟨m0, m1, m2, m3, c, ⟨hm, hc, hmv⟩, FM⟩ := minus_fact p0 p1 p2 p3 s0 s1 s2 s3 hp.1 hs
  obtain ⟨x0, x1, x2, x3, ⟨hx, hxv⟩, FX⟩ := small_fact a0 a1 a2 a3 ha
  obtain ⟨y0, y1, y2, y3, ⟨hy, hyv⟩, FY⟩ := small_fact m0 m1 m2 m3 hm
  obtain ⟨r0, r1, r2, r3, ⟨hr, hrv⟩, FA⟩ := add_fact x0 x1 x2 x3 y0 y1 y2 y3 hx hy
  have hmm : V m0 m1 m2 m3 = pP - V b0 b1 b2 b3 % pP := by
    have h1 := Nat.mod_lt (V b0 b1 b2 b3) pP_pos
    have h2 := Pl.V_lt hm
    rw [hp.2, hsv] at hmv
    have h3 : pP < T256 := by decide +kernel
    rcases (show c = 0 ∨ c = 1 by omega) with rfl | rfl <;> omega
  refine ⟨r0, r1, r2, r3, ⟨hr, ?_⟩, fun w => ?_⟩
  · have h1 := Nat.mod_lt (V a0 a1 a2 a3) pP_pos
    have h2 := Nat.mod_lt (V m0 m1 m2 m3) pP_pos
    rw [hrv (by rw [hxv]; exact h1) (by rw [hyv]; exact h2), hxv, hyv, hmm, Nat.add_mod_mod]
  have HP := Lib.hid FP
  have HS := Lib.hid FS
  have HM := Lib.hid FM
  have HX := Lib.hid FX
  have HY := Lib.hid FY
  have HA := Lib.hid FA
  clear FP FS FM FX FY FA hmm hrv hr hyv hy hxv hx hmv hc hm hsv hs hp ha hb
  go_enter Try.func26, Try.ntmps26
  go_wp2
  refine Rg.region_ (n := 19) [0, 0, 3, 7, 15, 31, 31, 0, 191, 511] [1, 1, 1, 1, 0, 0, 0, 1, 2, 2] [8, 9, 10, 11, 7, 12, 13, 5, 0, 6] [[], [(3, none)], [(9, some 1)], [(8, some 0), (10, some 2)], [(11, some 3)], [(7, some 4)], [(7, some 4)], [], [(5, some 7), (12, some 5)], [(13, some 6)]] 8 (by kernel_rfl) (by kernel_rfl) (by rfl) ?_
  intro W hW
  have hA : W.heap[w.heap.size]? = some (.cells #[.int .u64 a0, .int .u64 a1, .int .u64 a2, .int .u64 a3] 25 (0, 0)) := by rw [hW]; exact heap_drew (heap_old (heap_old (heap_new _ _) _) _)
  have hB : W.heap[w.heap.size + 1]? = some (.cells #[.int .u64 b0, .int .u64 b1, .int .u64 b2, .int .u64 b3] 25 (0, 0)) := by rw [hW]; exact heap_drew (heap_old (heap_new' (by simp) _) _)
  have hR : W.heap[w.heap.size + 1 + 1]? = some (.cells #[.int .u64 0, .int .u64 0, .int .u64 0, .int .u64 0] 25 (0, 0)) := by rw [hW]; exact heap_drew (heap_new' (by simp) _)
  have HB0 : Below w.heap.size w W := by rw [hW]; go_grown
  have HZ : W.heap.size = w.heap.size + 1 + 1 + 1 := by rw [hW]; simp
  change Rg.Chain' _ _ _ _ _ [(0, 1, 8, []), (1, 1, 9, [(3, none)]), (2, 1, 10, [(9, some 1)]), (3, 1, 11, [(8, some 0), (10, some 2)]), (4, 0, 7, [(11, some 3)]), (5, 0, 12, [(7, some 4)]), (6, 0, 13, [(7, some 4)]), (7, 1, 5, [])] [(0, 1, 8, []), (1, 1, 9, [(3, none)]), (2, 1, 10, [(9, some 1)]), (3, 1, 11, [(8, some 0), (10, some 2)]), (4, 0, 7, [(11, some 3)]), (5, 0, 12, [(7, some 4)]), (6, 0, 13, [(7, some 4)]), (7, 1, 5, [])] _
  apply Rg.ch_def (by rfl) (fun a w1 _ => Rg.wanted_none (by rfl))
  · rintro a w1 hb -
    apply Rg.gives_enter
    · exact run_call Try.func24 (by kernel_rfl) rfl #[] (by rfl) (by simp)
    · refine (HP.out _).mono ?_
      rintro e w2 ⟨rfl, hb2⟩
      exact ⟨_, rfl, rfl, hb2⟩
  apply Rg.ch_def (by rfl) (fun a w1 _ => Rg.wanted_none (by rfl))
  · rintro a w1 hb ⟨e3, -⟩
    conv at e3 => rhs; whnf
    have n3 := e3
    simp only [Act.eval, Array.getD_eq_getD_getElem?] at n3
    apply Rg.gives_value
    · conv => lhs; simp [go_sem, n3, cells4 (heap_keep' hb hB)]
    · exact ⟨rfl, Below.refl _ _⟩
  apply Rg.ch_def (by rfl) (fun a w1 _ => Rg.wanted_none (by rfl))
  · rintro a w1 hb ⟨e9, -⟩
    replace e9 : a.eval (.tmp 9) = _ := e9
    apply Rg.gives_enter
    · apply run_call Try.func47 (by kernel_rfl) rfl _ (by rfl)
      conv => lhs; simp only [List.map_toArray, List.map_cons, List.map_nil, eval_const_, eval_global_, e9]
    · refine (HS.out _).mono ?_
      rintro e w2 ⟨rfl, hb2⟩
      exact ⟨_, rfl, rfl, hb2⟩
  apply Rg.ch_def (by rfl) (fun a w1 _ => Rg.wanted_none (by rfl))
  · rintro a w1 hb ⟨e8, e10, -⟩
    replace e8 : a.eval (.tmp 8) = _ := e8
    replace e10 : a.eval (.tmp 10) = _ := e10
    apply Rg.gives_enter
    · apply run_call Try.func45 (by kernel_rfl) rfl _ (by rfl)
      conv => lhs; simp only [List.map_toArray, List.map_cons, List.map_nil, eval_const_, eval_global_, e8, e10]
    · refine (HM.out _).mono ?_
      rintro e w2 ⟨rfl, hb2⟩
      exact ⟨_, rfl, rfl, hb2⟩
  apply Rg.ch_pure (by rfl)
  · rintro a w1 ⟨e11, -⟩
    replace e11 : a.eval (.tmp 11) = _ := e11
    have n11 := e11
    simp only [Act.eval, Array.getD_eq_getD_getElem?] at n11
    apply Rg.yields_run (Rg.wanted_none (by rfl))
    intro w2
    conv => lhs; simp [go_sem, n11]
  apply Rg.ch_pure (by rfl)
  · rintro a w1 ⟨e7, -⟩
    replace e7 : a.eval (.tmp 7) = _ := e7
    have n7 := e7
    simp only [Act.eval, Array.getD_eq_getD_getElem?] at n7
    apply Rg.yields_run (Rg.wanted_none (by rfl))
    intro w2
    conv => lhs; simp [go_sem, n7]
  apply Rg.ch_pure (by rfl)
  · rintro a w1 ⟨e7, -⟩
    replace e7 : a.eval (.tmp 7) = _ := e7
    have n7 := e7
    simp only [Act.eval, Array.getD_eq_getD_getElem?] at n7
    apply Rg.yields_run (Rg.wanted_none (by rfl))
    intro w2
    conv => lhs; simp [go_sem, n7]
  apply Rg.ch_rel (Rg.Box W.heap.size 25 _) (Rg.stable_box _ _ _) (by rfl) (fun a w1 _ => Rg.wanted_none (by rfl))
  · rintro a w1 hb -
    apply Rg.gives_value
    · conv => lhs; simp [go_sem]
    · exact ⟨⟨_, rfl, hb.size, heap_new _ _⟩, ((Below.refl _ _).alloc (Nat.le_refl _) _)⟩
  intro w1 hb1
  rintro _ rfl _ rfl _ rfl _ rfl _ rfl _ rfl _ rfl v5 ⟨b5, rfl, ge5, hh5⟩
  change Go.wpList _ _ _ _ _ _
  simp only [List.drop_succ_cons, List.drop_zero, List.drop_nil, Act.put, List.setIfInBounds_toArray, List.set_cons_succ, List.set_cons_zero]
  have HA1 := Lib.hid (heap_keep' hb1 hA)
  have HR1 := Lib.hid (heap_keep' hb1 hR)
  have HB1 : Hid (Below w.heap.size w w1) := below_call HB0 HB0.size hb1
  have HG : Hid (w.heap.size + 1 + 1 + 1 ≤ b5) := by rw [← HZ]; exact ge5
  have H5 := Lib.hid hh5
  have c5 := cells4 hh5
  have f5 := frozen_of hh5
  clear hA hB hR HB0 HZ hb1 hW ge5 hh5
  go_wp2
  refine NoPanic.normal ?_
  go_wp2
  clear c5 f5
  refine Rg.region_ (n := 19) [0, 1, 0, 7, 15, 31] [1, 1, 1, 1, 1, 2] [14, 15, 16, 17, 18, 0] [[(2, none)], [(14, some 0)], [(5, none)], [(16, some 2)], [(15, some 1), (17, some 3)], [(4, none), (18, some 4)]] 5 (by kernel_rfl) (by kernel_rfl) (by rfl) ?_
  intro W hW
  have hA : W.heap[w.heap.size]? = some (.cells #[.int .u64 a0, .int .u64 a1, .int .u64 a2, .int .u64 a3] 25 (0, 0)) := by rw [hW]; exact heap_drew (keep4 HA1.out (by have := HG.out; omega) _ _ _ _)
  have hR : W.heap[w.heap.size + 1 + 1]? = some (.cells #[.int .u64 0, .int .u64 0, .int .u64 0, .int .u64 0] 25 (0, 0)) := by rw [hW]; exact heap_drew (keep4 HR1.out (by have := HG.out; omega) _ _ _ _)
  have h5 : W.heap[b5]? = some (.cells #[.int .u64 m0, .int .u64 m1, .int .u64 m2, .int .u64 m3] 25 (0, 0)) := by rw [hW]; exact heap_drew (set4 H5.out _ _ _ _)
  have HB0 : Below w.heap.size w W := by rw [hW]; exact (set4_below HB1.out (by have := HG.out; omega) _ _ _ _).drew
  change Rg.Chain' _ _ _ _ _ [(0, 1, 14, [(2, none)]), (1, 1, 15, [(14, some 0)]), (2, 1, 16, [(5, none)]), (3, 1, 17, [(16, some 2)]), (4, 1, 18, [(15, some 1), (17, some 3)])] [(0, 1, 14, [(2, none)]), (1, 1, 15, [(14, some 0)]), (2, 1, 16, [(5, none)]), (3, 1, 17, [(16, some 2)]), (4, 1, 18, [(15, some 1), (17, some 3)])] _
  apply Rg.ch_def (by rfl) (fun a w1 _ => Rg.wanted_none (by rfl))
  · rintro a w1 hb ⟨e2, -⟩
    conv at e2 => rhs; whnf
    have n2 := e2
    simp only [Act.eval, Array.getD_eq_getD_getElem?] at n2
    apply Rg.gives_value
    · conv => lhs; simp [go_sem, n2, cells4 (heap_keep' hb hA), cells4 (heap_keep' hb h5)]
    · exact ⟨rfl, Below.refl _ _⟩
  apply Rg.ch_def (by rfl) (fun a w1 _ => Rg.wanted_none (by rfl))
  · rintro a w1 hb ⟨e14, -⟩
    replace e14 : a.eval (.tmp 14) = _ := e14
    apply Rg.gives_enter
    · apply run_call Try.func47 (by kernel_rfl) rfl _ (by rfl)
      conv => lhs; simp only [List.map_toArray, List.map_cons, List.map_nil, eval_const_, eval_global_, e14]
    · refine (HX.out _).mono ?_
      rintro e w2 ⟨rfl, hb2⟩
      exact ⟨_, rfl, rfl, hb2⟩
  apply Rg.ch_def (by rfl) (fun a w1 _ => Rg.wanted_none (by rfl))
  · rintro a w1 hb ⟨e5, -⟩
    conv at e5 => rhs; whnf
    have n5 := e5
    simp only [Act.eval, Array.getD_eq_getD_getElem?] at n5
    apply Rg.gives_value
    · conv => lhs; simp [go_sem, n5, cells4 (heap_keep' hb hA), cells4 (heap_keep' hb h5)]
    · exact ⟨rfl, Below.refl _ _⟩
  apply Rg.ch_def (by rfl) (fun a w1 _ => Rg.wanted_none (by rfl))
  · rintro a w1 hb ⟨e16, -⟩
    replace e16 : a.eval (.tmp 16) = _ := e16
    apply Rg.gives_enter
    · apply run_call Try.func47 (by kernel_rfl) rfl _ (by rfl)
      conv => lhs; simp only [List.map_toArray, List.map_cons, List.map_nil, eval_const_, eval_global_, e16]
    · refine (HY.out _).mono ?_
      rintro e w2 ⟨rfl, hb2⟩
      exact ⟨_, rfl, rfl, hb2⟩
  apply Rg.ch_def (by rfl) (fun a w1 _ => Rg.wanted_none (by rfl))
  · rintro a w1 hb ⟨e15, e17, -⟩
    replace e15 : a.eval (.tmp 15) = _ := e15
    replace e17 : a.eval (.tmp 17) = _ := e17
    apply Rg.gives_enter
    · apply run_call Try.func46 (by kernel_rfl) rfl _ (by rfl)
      conv => lhs; simp only [List.map_toArray, List.map_cons, List.map_nil, eval_const_, eval_global_, e15, e17]
    · refine (HA.out _).mono ?_
      rintro e w2 ⟨rfl, hb2⟩
      exact ⟨_, rfl, rfl, hb2⟩
  intro w1 hb1
  rintro _ rfl _ rfl _ rfl _ rfl _ rfl
  change Go.wpList _ _ _ _ _ _
  simp only [List.drop_succ_cons, List.drop_zero, List.drop_nil, Act.put, List.setIfInBounds_toArray, List.set_cons_succ, List.set_cons_zero]
  have hR1 := heap_keep' hb1 hR
  have cR := cells4 hR1
  have fR := frozen_of hR1
  have hQ := cells4 (set4 hR1 (.int .u64 r0) (.int .u64 r1) (.int .u64 r2) (.int .u64 r3))
  have HB2 : Below w.heap.size w w1 := below_call HB0 HB0.size hb1
  clear hA hR h5 HB0 hb1 hW
  go_wp2
  refine NoPanic.normal ?_
  go_wp2
  refine bodyPost_ret (v := .agg #[.int .u64 r0, .int .u64 r1, .int .u64 r2, .int .u64 r3]) (by simp [results, Try.results26, go_sem, hQ]) rfl ⟨rfl, ?_⟩
  go_grown

end Go.Proofs.Ytldnjbpcdojffaa
/- @@NUM 25 The walk of residue's bit. Conditions: words are below 2^64. -/
namespace Go.Proofs.Ytldnjbpcdojffaa
set_option linter.unusedVariables false
set_option linter.unusedSimpArgs false
open Go Go.RowKit
open Pl (V V8 W4 T256 pP)

theorem word_bit {q r : Nat} (hr : r < 64) (n : Nat) (h : n = 64 * q + r) (M : Nat) : M / 18446744073709551616 ^ q % 18446744073709551616 / 2 ^ r % 2 = M / 2 ^ n % 2 := by
  subst h
  have e1 : (18446744073709551616 : Nat) = 2 ^ r * 2 ^ (64 - r) := by rw [← Nat.pow_add, show r + (64 - r) = 64 by omega]
  have e2 : (2 : Nat) ^ (64 * q + r) = 18446744073709551616 ^ q * 2 ^ r := by rw [Nat.pow_add, Nat.pow_mul]
  have e3 : (2 : Nat) ∣ 2 ^ (64 - r) := ⟨2 ^ (63 - r), by rw [← Nat.pow_succ', show (63 - r).succ = 64 - r by omega]⟩
  rw [e2, ← Nat.div_div_eq_div_mul]
  generalize M / 18446744073709551616 ^ q = K
  rw [e1, Nat.mod_mul_right_div_self, Nat.mod_mod_of_dvd _ e3]

theorem word_pick (a0 a1 a2 a3 : Nat) (ha : W4 a0 a1 a2 a3) (q : Nat) (hq : q < 4) : ∃ x : Nat, x < 18446744073709551616 ∧ x = V a0 a1 a2 a3 / 18446744073709551616 ^ q % 18446744073709551616 ∧ ∀ h, (#[.int .u64 a0, .int .u64 a1, .int .u64 a2, .int .u64 a3].toList : List Value)[q]'h = .int .u64 x := by
  unfold W4 at ha
  unfold V
  rcases (show q = 0 ∨ q = 1 ∨ q = 2 ∨ q = 3 by omega) with rfl | rfl | rfl | rfl
  · exact ⟨a0, by omega, by simp only [Nat.reducePow]; omega, fun _ => rfl⟩
  · exact ⟨a1, by omega, by simp only [Nat.reducePow]; omega, fun _ => rfl⟩
  · exact ⟨a2, by omega, by simp only [Nat.reducePow]; omega, fun _ => rfl⟩
  · exact ⟨a3, by omega, by simp only [Nat.reducePow]; omega, fun _ => rfl⟩

set_option maxHeartbeats 1000000 in
theorem bit_fact (a0 a1 a2 a3 i : Nat) (ha : W4 a0 a1 a2 a3) (hi : i < 256) : ∃ z : Nat, z = V a0 a1 a2 a3 / 2 ^ i % 2 ∧ ∀ w : World,
    Calls Try.prog 50 #[.agg #[.int .u64 a0, .int .u64 a1, .int .u64 a2, .int .u64 a3], .int .i64 i] w fun e w' => e = .returned (.int .u64 z) ∧ Below w.heap.size w w' := by
  have h0 : i / 64 < 4 := by omega
  have h1 : i % 64 < 64 := Nat.mod_lt _ (by omega)
  obtain ⟨x, hx, hxv, hp⟩ := word_pick a0 a1 a2 a3 ha (i / 64) h0
  have hz : x / 2 ^ (i % 64) % 2 = V a0 a1 a2 a3 / 2 ^ i % 2 := by rw [hxv]; exact word_bit h1 i (by omega) _
  refine ⟨_, hz, fun w => ?_⟩
  clear hz hxv
  simp only at hp
  go_enter Try.func50, Try.ntmps50
  go_wp2
  have hy : x / 2 ^ (i % 64) < 18446744073709551616 := Nat.lt_of_le_of_lt (Nat.div_le_self _ _) hx
  have hb : bits .and .u64 ((x : Int) / 2 ^ (i % 64)) 1 = ((x / 2 ^ (i % 64) % 2 : Nat) : Int) := by
    have e : ((x : Int) / 2 ^ (i % 64)) = ((x / 2 ^ (i % 64) : Nat) : Int) := by push_cast; rfl
    rw [e]
    generalize x / 2 ^ (i % 64) = y at hy ⊢
    rw [and_one_u64 _ (by omega) (by omega)]; rfl
  rw [hb]
  go_ret
  refine ⟨rfl, ?_⟩
  go_grown

end Go.Proofs.Ytldnjbpcdojffaa
/- What slices.Backward over a row of bytes hands to each loop body: the row's bytes, the last one first. Conditions: the row has at most 1000 bytes. -/
namespace Go.Proofs.Ytldnjbpcdojffaa
set_option linter.unusedVariables false
set_option linter.unusedSimpArgs false
open Go Go.RowKit Go.Shelf
attribute [local go_sem] Oper.semAt_some

/-- The slice sv holds the bytes zs, in a block below n; or it is nil and there are none. -/
def Bts (n : Nat) (W : World) (sv : Value) (zs : List Nat) : Prop :=
  (sv = .slice none 0 0 ∧ zs = []) ∨ ∃ x cap, sv = .slice (some x) zs.length cap ∧ x.block < n ∧ ∀ j, j < zs.length → W.cell? (x.add j) = some (.int .u8 ((zs[j]?.getD 0 : Nat) : Int))
theorem add_block (x : Addr) (j : Nat) : (x.add j).block = x.block := by unfold Addr.add; split <;> rfl
theorem Bts.below {n : Nat} {A B : World} (h : Below n A B) {sv : Value} {zs : List Nat} : Bts n A sv zs → Bts n B sv zs
  | .inl e => .inl e
  | .inr ⟨x, cap, e, hb, hc⟩ => .inr ⟨x, cap, e, hb, fun j hj => (h.cell (p := x.add j) (by rw [add_block]; exact hb)).trans (hc j hj)⟩
theorem Bts.up {n m : Nat} {A : World} (hn : n ≤ m) {sv : Value} {zs : List Nat} : Bts n A sv zs → Bts m A sv zs
  | .inl e => .inl e
  | .inr ⟨x, cap, e, hb, hc⟩ => .inr ⟨x, cap, e, Nat.lt_of_lt_of_le hb hn, hc⟩

/-- A place and a byte. -/
abbrev PB := { p : Nat × Nat // p.2 < 256 }
abbrev pbs (p : PB) : Array Value := #[.int .i64 (p.1.1 : Int), .int .u8 (p.1.2 : Int)]
/-- What comes when m bytes are left. -/
def pbAt (zs : List Nat) (m : Nat) : PB := ⟨(m, zs[m]?.getD 0 % 256), Nat.mod_lt _ (by decide)⟩
/-- What has come when m bytes are left. -/
def pbUp (zs : List Nat) (m : Nat) : List PB := ((List.range (zs.length - m)).map fun j => pbAt zs (zs.length - 1 - j))
theorem pbUp_all (zs : List Nat) : pbUp zs zs.length = [] := by simp [pbUp]
theorem pbUp_len (zs : List Nat) {m : Nat} : (pbUp zs m).length = zs.length - m := by simp [pbUp]
theorem pbUp_step (zs : List Nat) {m : Nat} (h : m < zs.length) : pbUp zs m = pbUp zs (m + 1) ++ [pbAt zs m] := by
  unfold pbUp
  rw [show zs.length - m = zs.length - (m + 1) + 1 by omega, List.range_succ, List.map_append, List.map_cons, List.map_nil, show zs.length - 1 - (zs.length - (m + 1)) = m by omega]

/-- What a round keeps: all below n, and block Bs. -/
def KpB (n Bs : Nat) (A B : World) : Prop := Below n A B ∧ B.heap[Bs]? = A.heap[Bs]?
theorem KpB.refl (n Bs : Nat) (A : World) : KpB n Bs A A := ⟨Below.refl _ _, rfl⟩
theorem KpB.trans {n Bs : Nat} {A B C : World} (h : KpB n Bs A B) (k : KpB n Bs B C) : KpB n Bs A C := ⟨h.1.trans k.1, k.2.trans h.2⟩
theorem KpB.cell {n Bs : Nat} {A B : World} (h : KpB n Bs A B) (i : Nat) : B.cell? ⟨Bs, i, none⟩ = A.cell? ⟨Bs, i, none⟩ := World.cell?_of_block h.2

theorem wrap_pred {q : Nat} (h : q < 1000) : wrap64 ((q : Int) - 1) = (q : Int) - 1 := by unfold wrap64; omega

set_option maxRecDepth 100000 in
set_option maxHeartbeats 2000000 in
theorem back1_in (F : Fence) (n : Nat) (hf : F.fn 57) (hro : F.round = none) (hn : 1 ≤ n) (l Bs n0 cap : Nat) (x : Addr) (zs : List Nat) (hz : ∀ j, j < zs.length → zs[j]?.getD 0 < 256) (hlen : zs.length ≤ 1000) (hb : x.block < n0) (J Jx : List PB → World → Prop)
    (hY : ∀ pre p W, J pre W → pre.length < zs.length → YieldAt F (n - 1) Try.prog l (pbs p) W fun e W' =>
      (e = .returned (.bool true) ∧ J (pre ++ [p]) W' ∧ KpB n0 Bs W W') ∨ (e = .returned (.bool false) ∧ Jx (pre ++ [p]) W'))
    (W : World) (hBs : W.cell? ⟨Bs, 0, none⟩ = some (.slice (some x) zs.length cap)) (hc : ∀ j, j < zs.length → W.cell? (x.add j) = some (.int .u8 ((zs[j]?.getD 0 : Nat) : Int))) (h0 : J [] W) :
    CallsIn F n Try.prog 57 #[.func (.yield l) #[] #[], .pointer (some ⟨Bs, 0, none⟩)] W fun e W' => (∃ v, e = .returned v) ∧
      ((∃ ys, ys = pbUp zs 0 ∧ J ys W') ∨ (∃ pre, (∃ m, m < zs.length ∧ pre = pbUp zs m) ∧ Jx pre W')) := by
  refine callsIn_of_wp Try.func57 rfl hf ?_ hro
  simp only [Try.ntmps57, List.size_toArray, List.length_cons, List.length_nil, Nat.reduceAdd, Nat.reduceSub, Array.replicate_succ, Array.replicate_zero, List.push_toArray, List.append_toArray, List.nil_append, List.cons_append]
  gi_wp2
  gi_loopw [3] (fun i wr => ∃ m : Nat, ∃ z : Int, i = .int .i64 z ∧ z = (m : Int) - 1 ∧ m ≤ zs.length ∧ J (pbUp zs m) wr ∧ KpB n0 Bs W wr)
    (fun i _ => (intOf i + 1).toNat)
  case atStart => exact ⟨zs.length, _, rfl, rfl, Nat.le_refl _, by rw [pbUp_all]; exact h0, KpB.refl _ _ _⟩
  case round =>
    obtain ⟨m, z, rfl, hz1, hm, hJs, hnx⟩ := hrel
    have hBs' := (hnx.cell 0).trans hBs
    rcases m with _ | q
    · obtain rfl : z = -1 := by omega
      clear hz1
      gi_wp2
      go_end0
      exact ⟨⟨_, rfl⟩, .inl ⟨_, rfl, hJs⟩⟩
    · obtain rfl : z = (q : Int) := by omega
      clear hz1
      have hcx := (hnx.1.cell (p := x.add q) (by rw [add_block]; exact hb)).trans (hc q (by omega))
      have hzq := hz q (by omega)
      obtain ⟨fn, tmps, assign, body, hy, hR⟩ := hY _ (pbAt zs q) wr hJs (by rw [pbUp_len]; omega)
      simp only [pbs, pbAt, Nat.mod_eq_of_lt hzq] at hy
      gi_wp2
      refine hR.mono ?_
      rintro e W3 (⟨rfl, hJ3, hk3⟩ | ⟨rfl, hJx3⟩)
      · gi_wp2
        go_roundw
        case rel => exact ⟨q, _, rfl, rfl, by omega, by rw [pbUp_step zs (by omega)]; exact hJ3, hnx.trans hk3⟩
        case measure => simp only [intOf]; omega
      · gi_wp2
        refine bodyPost_ret (results_none rfl _ _ _) rfl ?_
        exact ⟨⟨_, rfl⟩, .inr ⟨_, ⟨q, by omega, (pbUp_step zs (by omega)).symm⟩, hJx3⟩⟩

set_option maxRecDepth 100000 in
set_option maxHeartbeats 1000000 in
theorem back1_nil_in (F : Fence) (n : Nat) (hf : F.fn 57) (hro : F.round = none) (l Bs : Nat) (J : List PB → World → Prop) (W : World) (hBs : W.cell? ⟨Bs, 0, none⟩ = some (.slice none 0 0)) (h0 : J [] W) :
    CallsIn F n Try.prog 57 #[.func (.yield l) #[] #[], .pointer (some ⟨Bs, 0, none⟩)] W fun e W' => (∃ v, e = .returned v) ∧ J [] W' := by
  refine callsIn_of_wp Try.func57 rfl hf ?_ hro
  simp only [Try.ntmps57, List.size_toArray, List.length_cons, List.length_nil, Nat.reduceAdd, Nat.reduceSub, Array.replicate_succ, Array.replicate_zero, List.push_toArray, List.append_toArray, List.nil_append, List.cons_append]
  gi_wp2
  gi_loopw [3] (fun i wr => i = .int .i64 (-1) ∧ J [] wr) (fun _ _ => 0)
  case atStart => exact ⟨rfl, h0⟩
  case round =>
    obtain ⟨rfl, hJs⟩ := hrel
    gi_wp2
    go_end0
    exact ⟨⟨_, rfl⟩, hJs⟩

set_option maxHeartbeats 1000000 in
theorem back_in (F : Fence) (n : Nat) (hf : F.fn 51) (hro : F.round = none) (a : Option Addr) (len cap : Nat) (w : World) :
    CallsIn F n Try.prog 51 #[.slice a len cap] w fun e w' => e = .returned (.func (.func 57) #[] #[.pointer (some ⟨w.heap.size, 0, none⟩)]) ∧ w' = w.alloc (.cells #[.slice a len cap] 22) := by
  refine callsIn_of_wp Try.func51 rfl hf ?_ hro
  simp only [Try.ntmps51, List.size_toArray, List.length_cons, List.length_nil, Nat.reduceAdd, Nat.reduceSub, Array.replicate_succ, Array.replicate_zero, List.push_toArray, List.append_toArray, List.nil_append, List.cons_append]
  gi_wp2
  go_ret
  exact ⟨rfl, rfl⟩

/-- slices.Backward hands back a value that comes up with all of the row's bytes, the last one first, or with some, where a round leaves. -/
theorem back_stops (F : Fence) (n : Nat) (hf : F.fn 57) (hro : F.round = none) (hn : 1 ≤ n) (Bs n0 : Nat) (sv : Value) (zs : List Nat) (hz : ∀ j, j < zs.length → zs[j]?.getD 0 < 256) (hlen : zs.length ≤ 1000) (w : World) (hBs : Bs < w.heap.size) (hn0 : n0 ≤ w.heap.size)
    (hc : w.cell? ⟨Bs, 0, none⟩ = some sv) (hI : Bts n0 w sv zs) :
    SeqStopsK F n Try.prog 57 #[.pointer (some ⟨Bs, 0, none⟩)] pbs (KpB n0 Bs) (fun ys => ys = pbUp zs 0)
      (fun pre => ∃ m, m < zs.length ∧ pre = pbUp zs m) zs.length w := fun l J Jx W hW _ _ hY h0 => by
  have hc' := (hW.cell (p := ⟨Bs, 0, none⟩) hBs).trans hc
  rcases hI.below (hW.mono hn0) with ⟨rfl, rfl⟩ | ⟨x, cap, rfl, hb, hcs⟩
  · exact (back1_nil_in F n hf hro l Bs J W hc' h0).mono fun e W' ⟨he, hj⟩ => ⟨he, .inl ⟨_, rfl, hj⟩⟩
  · exact back1_in F n hf hro hn l Bs n0 cap x zs hz hlen hb J Jx hY W hc' hcs h0

end Go.Proofs.Ytldnjbpcdojffaa
/- Plain law: numbers modulo the order of the curve's base; the number of a row of bytes. Conditions: none. -/
namespace Go.Proofs.Ytldnjbpcdojffaa
set_option linter.unusedVariables false
set_option linter.unusedSimpArgs false
namespace Pl

def pL : Nat := 7237005577332262213973186563042994240857116359379907606001950938285454250989
theorem pL_pos : 0 < pL := by decide +kernel
theorem pL_small : pL * 2 + 1 < T256 := by decide +kernel
theorem pL_words : V 6346243789798364141 1503914060200516822 0 1152921504606846976 = pL := by decide +kernel
theorem pL_W : W4 6346243789798364141 1503914060200516822 0 1152921504606846976 := by unfold W4; omega

/-- The number of a row of bytes, the lowest one first. -/
def le : List Nat → Nat
  | [] => 0
  | x :: l => x + 256 * le l
theorem le_lt : ∀ (l : List Nat), (∀ x ∈ l, x < 256) → le l < 256 ^ l.length
  | [], _ => by simp [le]
  | x :: l, h => by
    have h1 := le_lt l fun y hy => h y (by simp [hy])
    have h2 := h x (by simp)
    rw [le, List.length_cons, Nat.pow_succ]
    omega
theorem le_append : ∀ (a b : List Nat), le (a ++ b) = le a + 256 ^ a.length * le b
  | [], b => by simp [le]
  | x :: a, b => by
    rw [List.cons_append, le, le_append a b, le, List.length_cons, Nat.pow_succ, Nat.mul_add, ← Nat.mul_assoc 256, Nat.mul_comm 256 (256 ^ a.length), Nat.add_assoc]

/-- Twice and a bit. -/
theorem twice_bit {n one : Nat} (hn : n < pL) (h1 : one ≤ 1) : 2 * n + one < pL ∧ (2 * n + one) % pL = 2 * n + one ∨ pL ≤ 2 * n + one ∧ (2 * n + one) % pL = 2 * n + one - pL := by
  have hp := pL_pos
  rcases Nat.lt_or_ge (2 * n + one) pL with h | h
  · exact .inl ⟨h, Nat.mod_eq_of_lt h⟩
  · refine .inr ⟨h, ?_⟩
    rw [Nat.mod_eq_sub_mod h, Nat.mod_eq_of_lt (by omega)]
theorem sum_mod {n m : Nat} (hn : n < pL) (hm : m < pL) : n + m < pL ∧ (n + m) % pL = n + m ∨ pL ≤ n + m ∧ (n + m) % pL = n + m - pL := by
  rcases Nat.lt_or_ge (n + m) pL with h | h
  · exact .inl ⟨h, Nat.mod_eq_of_lt h⟩
  · refine .inr ⟨h, ?_⟩
    rw [Nat.mod_eq_sub_mod h, Nat.mod_eq_of_lt (by omega)]

/-- What has been reckoned when i of the byte c's bits are left. -/
def SC (A c i o : Nat) : Prop := o = (A * 2 ^ (8 - i) + c / 2 ^ i) % pL
theorem SC_start {A c : Nat} (hA : A < pL) (hc : c < 256) : SC A c 8 A := by
  unfold SC
  rw [show c / 2 ^ 8 = 0 from Nat.div_eq_of_lt (by omega), Nat.sub_self, Nat.pow_zero, Nat.mul_one, Nat.add_zero, Nat.mod_eq_of_lt hA]
theorem SC_step {A c i o p : Nat} (hi : i < 8) (h : SC A c (i + 1) o) (hp : p = (2 * o + c / 2 ^ i % 2) % pL) : SC A c i p := by
  unfold SC at h ⊢
  have e1 : c / 2 ^ i = 2 * (c / 2 ^ (i + 1)) + c / 2 ^ i % 2 := by rw [Nat.pow_succ, ← Nat.div_div_eq_div_mul]; omega
  have e2 : 2 ^ (8 - i) = 2 ^ (8 - (i + 1)) * 2 := by rw [← Nat.pow_succ]; congr 1; omega
  have e3 : A * 2 ^ (8 - i) + c / 2 ^ i = 2 * (A * 2 ^ (8 - (i + 1)) + c / 2 ^ (i + 1)) + c / 2 ^ i % 2 := by
    rw [e2, ← Nat.mul_assoc]; omega
  rw [e3, hp, h, Nat.add_mod, Nat.mul_mod_mod, ← Nat.add_mod]
theorem SC_end {A c o : Nat} (h : SC A c 0 o) : o = (c + 256 * A) % pL := by
  unfold SC at h
  rw [h, Nat.pow_zero, Nat.div_one]
  congr 1
  omega
/-- .. and when a row of bytes, the last one first, is over. -/
theorem SC_row {A c o : Nat} {l : List Nat} (hA : A = le l % pL) (h : SC A c 0 o) : o = le (c :: l) % pL := by
  rw [SC_end h, hA, le, Nat.add_mod, Nat.mul_mod_mod, ← Nat.add_mod]

end Pl
end Go.Proofs.Ytldnjbpcdojffaa
/- Plain law: a number's bytes, the lowest one first. Conditions: none. -/
namespace Go.Proofs.Ytldnjbpcdojffaa
set_option linter.unusedVariables false
set_option linter.unusedSimpArgs false
namespace Pl

def byteAt (N i : Nat) : Nat := N / 256 ^ i % 256
def bytesOf (n N : Nat) : List Nat := (List.range n).map (byteAt N)
theorem bytesOf_length (n N : Nat) : (bytesOf n N).length = n := by simp [bytesOf]
theorem bytesOf_succ (n N : Nat) : bytesOf (n + 1) N = bytesOf n N ++ [byteAt N n] := by simp [bytesOf, List.range_succ]
theorem byteAt_lt (N i : Nat) : byteAt N i < 256 := Nat.mod_lt _ (by decide)
theorem bytesOf_lt (n N : Nat) : ∀ x ∈ bytesOf n N, x < 256 := by
  intro x hx
  simp only [bytesOf, List.mem_map] at hx
  obtain ⟨i, _, rfl⟩ := hx
  exact byteAt_lt N i
theorem le_bytesOf (n N : Nat) : le (bytesOf n N) = N % 256 ^ n := by
  induction n with
  | zero => simp [bytesOf, le, Nat.mod_one]
  | succ n ih =>
    rw [bytesOf_succ, le_append, bytesOf_length, ih, le, le, Nat.mul_zero, Nat.add_zero, byteAt, Nat.pow_succ, Nat.mod_mul]
theorem le_bytes32 {N : Nat} (h : N < T256) : le (bytesOf 32 N) = N := by
  rw [le_bytesOf]
  exact Nat.mod_eq_of_lt (Nat.lt_of_lt_of_eq h (by decide +kernel))

/-- A word's byte. -/
theorem byte_word {N k q r x : Nat} (hk : k = 8 * q + r) (hr : r < 8) (hx : x = N / 18446744073709551616 ^ q % 18446744073709551616) : x / 2 ^ (8 * r) % 256 = byteAt N k := by
  have h64 : (18446744073709551616 : Nat) = 256 ^ 8 := by decide
  have e2 : (2 : Nat) ^ (8 * r) = 256 ^ r := by rw [Nat.pow_mul]
  have e1 : (256 : Nat) ^ 8 = 256 ^ r * 256 ^ (8 - r) := by rw [← Nat.pow_add]; congr 1; omega
  have e3 : (256 : Nat) ∣ 256 ^ (8 - r) := ⟨256 ^ (7 - r), by rw [← Nat.pow_succ']; congr 1; omega⟩
  unfold byteAt
  rw [hx, h64, e2, hk, Nat.pow_add, Nat.pow_mul, ← Nat.div_div_eq_div_mul]
  generalize N / (256 ^ 8) ^ q = M
  rw [e1, Nat.mod_mul_right_div_self, Nat.mod_mod_of_dvd _ e3]

/-- The bytes of a number that bytes make. -/
theorem bytesOf_le : ∀ (l : List Nat), (∀ x ∈ l, x < 256) → bytesOf l.length (le l) = l := by
  intro l
  induction l with
  | nil => intro _; simp [bytesOf]
  | cons x l ih =>
    intro h
    have hx := h x (by simp)
    have ih := ih fun y hy => h y (by simp [hy])
    rw [List.length_cons]
    unfold bytesOf at ih ⊢
    rw [List.range_succ_eq_map, List.map_cons, List.map_map]
    congr 1
    · unfold byteAt; rw [le, Nat.pow_zero, Nat.div_one]; omega
    · refine Eq.trans (List.map_congr_left fun i _ => ?_) ih
      simp only [Function.comp, byteAt, le]
      rw [show 256 ^ (i + 1) = 256 * 256 ^ i by rw [Nat.pow_succ, Nat.mul_comm], ← Nat.div_div_eq_div_mul, show (x + 256 * le l) / 256 = le l by omega]

end Pl
end Go.Proofs.Ytldnjbpcdojffaa
/- @@NUM 25 The walk of residue's Bytes. Conditions: words are below 2^64. -/
namespace Go.Proofs.Ytldnjbpcdojffaa
set_option linter.unusedVariables false
set_option linter.unusedSimpArgs false
open Go Go.RowKit
open Pl (V W4 T256 bytesOf byteAt)

theorem info_u8 : (Try.prog.info? 5).map (fun i => (i.zero, i.size, i.bytes)) = some (some (.int .u8 0), 1, 1) := by kernel_rfl
/-- Bytes as values. -/
def u8s (l : List Nat) : List Value := l.map fun (z : Nat) => .int .u8 (z : Int)
theorem u8s_append (a b : List Nat) : u8s (a ++ b) = u8s a ++ u8s b := by simp [u8s]
theorem u8s_length (a : List Nat) : (u8s a).length = a.length := by simp [u8s]
/-- What an owned row reads as. -/
theorem bts_owned {w : World} {n : Nat} {v : Value} {zs : List Nat} (h : w.ownsRow n 5 1 v zs.length (u8s zs)) : Bts w.heap.size w v zs := by
  obtain ⟨h1, h2⟩ := h
  rcases h2 with ⟨rfl, h0⟩ | ⟨g, cap, cur, rfl, hb, hh, hle, hm, hs, ht⟩
  · exact .inl ⟨rfl, by simpa using h0⟩
  · refine .inr ⟨⟨g, 0, none⟩, cap, rfl, (Array.getElem?_eq_some_iff.1 hh).1, fun j hj => ?_⟩
    have e : ((⟨g, 0, none⟩ : Addr).add j).block = g := add_block _ _
    have e2 : ((⟨g, 0, none⟩ : Addr).add j).off = j := by unfold Addr.add; split <;> simp_all
    have e4 : ((⟨g, 0, none⟩ : Addr).add j).spot = none := by unfold Addr.add; split <;> rfl
    have h3 : cur[j]? = some (.int .u8 ((zs[j]?.getD 0 : Nat) : Int)) := by
      have h4 : (cur.toList.take (zs.length * 1))[j]? = (u8s zs)[j]? := by rw [ht]
      rw [List.getElem?_take_of_lt (by omega)] at h4
      simp only [u8s, List.getElem?_map, List.getElem?_eq_getElem hj, Option.map_some] at h4
      rw [List.getElem?_eq_getElem hj, Option.getD_some, ← h4]
      simp
    simp only [World.cell?, e, e2, hh]
    simpa [e4] using h3

theorem cell_at {w : World} {b i : Nat} {cs : Array Value} {t : TypeId} {mk : Nat × Nat} {v : Value} (h : w.heap[b]? = some (.cells cs t mk)) (hv : cs[i]? = some v) : w.cell? ⟨b, i, none⟩ = some v := by
  simp [World.cell?, h, hv]

set_option maxHeartbeats 4000000 in
theorem Bytes_fact (a0 a1 a2 a3 : Nat) (ha : W4 a0 a1 a2 a3) (w : World) : Calls Try.prog 18 #[.agg #[.int .u64 a0, .int .u64 a1, .int .u64 a2, .int .u64 a3]] w fun e w' => (∃ v, e = .returned v ∧ w'.ownsRow w.heap.size 5 1 v 32 (u8s (bytesOf 32 (V a0 a1 a2 a3)))) ∧ Below w.heap.size w w' := by
  obtain ⟨i0, hi, hz0, hz1, hz2⟩ := info_parts info_u8
  obtain ⟨N, hN⟩ : ∃ N, V a0 a1 a2 a3 = N := ⟨_, rfl⟩
  rw [hN]
  have HA := Lib.hid ha; have HN := Lib.hid hN
  clear ha hN
  go_enter Try.func18, Try.ntmps18
  go_wp2
  go_loopg [3, 5] 32 (fun kq v3 v5 wr => ∃ k : Nat, v5 = .int .i64 k ∧ Hid (kq + k = 32) ∧ wr.ownsRow (w.heap.size + 1) 5 1 v3 k (u8s (bytesOf k N)) ∧ Hid (wr.heap[w.heap.size]? = some (.cells #[.int .u64 a0, .int .u64 a1, .int .u64 a2, .int .u64 a3] 25 (0, 0))) ∧ Hid (Below w.heap.size w wr))
  case atStart => exact ⟨0, rfl, rfl, by simpa [bytesOf, u8s] using World.ownsRow_nil _ _ _ _, heap_new _ _, (Below.refl _ w).alloc (Nat.le_refl _) _⟩
  case round =>
    obtain ⟨k, rfl, HK, hrow, HH, HB⟩ := hrel
    rcases gk with _ | kq
    · obtain rfl : k = 32 := by have := HK.out; omega
      go_wp2
      go_ret
      obtain ⟨h1, h2⟩ := hrow
      refine ⟨⟨_, rfl, h1, ?_⟩, HB.out⟩
      rcases h2 with h2 | ⟨g, cap, cur, e, hb, h3⟩
      · exact .inl h2
      · exact .inr ⟨g, cap, cur, e, by omega, h3⟩
    · have hk : k < 32 := by have := HK.out; omega
      have h0 : k / 8 < 4 := by omega
      obtain ⟨x, hx, hxv, hp⟩ := word_pick a0 a1 a2 a3 HA.out (k / 8) h0
      rw [HN.out] at hxv
      have hbyte := Pl.byte_word (N := N) (k := k) (r := k % 8) (by omega) (Nat.mod_lt _ (by omega)) hxv
      have hcx := cell_at HH.out (i := k / 8) (v := .int .u64 x) (by rw [← Array.getElem?_toList, List.getElem?_eq_getElem (show k / 8 < 4 from h0), hp])
      have hconv : IntKind.u8.wrap ((x : Int) / 2 ^ (8 * (k % 8))) = ((byteAt N k : Nat) : Int) := by
        rw [IntKind.wrap_u8, ← hbyte]
        have e : ((x : Int) / 2 ^ (8 * (k % 8))) = ((x / 2 ^ (8 * (k % 8)) : Nat) : Int) := by
          generalize 8 * (k % 8) = m
          push_cast; rfl
        rw [e]; omega
      have hB := HB.out
      have hz := lt_of_heap HH.out
      clear hp hxv
      go_wp2_with (at_builtin; refine wpList_append_own _ rfl _ _ 22 rfl (w.heap.size + 1) 5 i0 (.int .u8 0) 1 1 Try.underlying22 hi hz0 hz1 hz2 rfl (by decide) _ _ _ rfl (hrow.alloc _) ⟨wr.heap.size, 0, none⟩ 1 1 [.int .u8 (byteAt N k : Nat)] rfl rfl (cell_one_new _ _ _) (fun x hx => by simp at hx; subst hx; rfl) (by unfold maxLen; omega) (by omega) (by simp; omega) ?_; intro v' w1 hown' hgrow hnil)
      have hlt := hrow.lt
      go_roundg kq
      case measure => exact Nat.lt_succ_self kq
      case rel =>
        refine ⟨k + 1, by simp, (by have := HK.out; omega : kq + (k + 1) = 32), ?_, ?_, ?_⟩
        · rw [Pl.bytesOf_succ, u8s_append]; exact hown'
        · refine (hgrow.block _ (by simp; omega) (fun e => ?_)).trans (heap_old HH.out _)
          have := (hlt _ e.symm).1
          omega
        · exact (hB.alloc (by omega) _).grown hgrow (by simp; omega) (fun j e => by have := (hlt _ e).1; omega)

end Go.Proofs.Ytldnjbpcdojffaa
/- Plain law: numbers as digits below 65536, the lowest one first; answers that come with enough rounds. Conditions: none. -/
namespace Go.Proofs.Ytldnjbpcdojffaa
set_option linter.unusedVariables false
set_option linter.unusedSimpArgs false
namespace Dg
open Go Go.RowKit

/-- With enough rounds F answers r. -/
def At {α : Type} (F : Nat → Option α) (r : α) : Prop := ∃ K, ∀ k, K ≤ k → F k = some r
theorem At.ret {α : Type} (r : α) : At (fun _ => some r) r := ⟨0, fun _ _ => rfl⟩
theorem At.bind {α β : Type} {F : Nat → Option α} {a : α} {G : Nat → α → Option β} {r : β} (h : At F a) (h2 : At (fun k => G k a) r) : At (fun k => (F k).bind (G k)) r := by
  obtain ⟨K1, h1⟩ := h
  obtain ⟨K2, h2⟩ := h2
  exact ⟨K1 + K2, fun k hk => by
    show (F k).bind (G k) = some r
    rw [h1 k (by omega), Option.bind_some]; exact h2 k (by omega)⟩
theorem At.step {α : Type} {F G : Nat → Option α} {r : α} (h : ∀ k, F (k + 1) = G k) (h2 : At G r) : At F r := by
  obtain ⟨K, h2⟩ := h2
  refine ⟨K + 1, fun k hk => ?_⟩
  obtain ⟨j, rfl⟩ : ∃ j, k = j + 1 := ⟨k - 1, by omega⟩
  rw [h]; exact h2 j (by omega)
theorem At.same {α : Type} {F G : Nat → Option α} {r : α} (h : ∀ k, F k = G k) (h2 : At G r) : At F r := by
  obtain ⟨K, h2⟩ := h2
  exact ⟨K, fun k hk => by rw [h]; exact h2 k hk⟩
theorem At.get {α : Type} {F : Nat → Option α} {r : α} (h : At F r) : ∃ k, F k = some r := by
  obtain ⟨K, h⟩ := h
  exact ⟨K, h K (Nat.le_refl _)⟩

def nv : List Int → Int
  | [] => 0
  | x :: l => x + 65536 * nv l
def Ok (l : List Int) : Prop := ∀ x ∈ l, 0 ≤ x ∧ x < 65536
theorem Ok.nil : Ok [] := fun _ h => by cases h
theorem Ok.cons {x : Int} {l : List Int} (h : Ok (x :: l)) : (0 ≤ x ∧ x < 65536) ∧ Ok l := ⟨h x (by simp), fun y hy => h y (by simp [hy])⟩
theorem Ok.mk {x : Int} {l : List Int} (hx : 0 ≤ x ∧ x < 65536) (h : Ok l) : Ok (x :: l) := fun y hy => by
  rcases List.mem_cons.1 hy with rfl | hy
  · exact hx
  · exact h y hy
theorem Ok.append {a b : List Int} (h : Ok a) (k : Ok b) : Ok (a ++ b) := fun x hx => by
  rcases List.mem_append.1 hx with hx | hx
  · exact h x hx
  · exact k x hx
theorem Ok.left {a b : List Int} (h : Ok (a ++ b)) : Ok a := fun x hx => h x (List.mem_append_left _ hx)
theorem Ok.right {a b : List Int} (h : Ok (a ++ b)) : Ok b := fun x hx => h x (List.mem_append_right _ hx)
theorem Ok.one {x : Int} (h : 0 ≤ x ∧ x < 65536) : Ok [x] := Ok.mk h Ok.nil
theorem Ok.take {a : List Int} (h : Ok a) (n : Nat) : Ok (a.take n) := fun x hx => h x (List.mem_of_mem_take hx)
theorem Ok.drop {a : List Int} (h : Ok a) (n : Nat) : Ok (a.drop n) := fun x hx => h x (List.mem_of_mem_drop hx)
theorem Ok.at {a : List Int} (h : Ok a) {i : Nat} (hi : i < a.length) : 0 ≤ a[i] ∧ a[i] < 65536 := h _ (List.getElem_mem hi)
theorem nv_nonneg : ∀ {l : List Int}, Ok l → 0 ≤ nv l
  | [], _ => by simp [nv]
  | x :: l, h => by
    have := nv_nonneg h.cons.2
    have := h.cons.1
    rw [nv]; omega
theorem nv_lt : ∀ {l : List Int}, Ok l → nv l < 65536 ^ l.length
  | [], _ => by simp [nv]
  | x :: l, h => by
    have := nv_lt h.cons.2
    have := h.cons.1
    rw [nv, List.length_cons, Int.pow_succ]; omega
theorem nv_append : ∀ (a b : List Int), nv (a ++ b) = nv a + 65536 ^ a.length * nv b
  | [], b => by simp [nv]
  | x :: a, b => by
    rw [List.cons_append, nv, nv, nv_append a b, List.length_cons, Int.pow_succ]
    grind
theorem nv_one (x : Int) : nv [x] = x := by simp [nv]
theorem nv_snoc (a : List Int) (x : Int) : nv (a ++ [x]) = nv a + 65536 ^ a.length * x := by rw [nv_append, nv_one]
theorem nv_take_drop (a : List Int) {n : Nat} (h : n ≤ a.length) : nv a = nv (a.take n) + 65536 ^ n * nv (a.drop n) := by
  conv => lhs; rw [← List.take_append_drop n a]
  rw [nv_append, List.length_take, Nat.min_eq_left h]
theorem nv_drop {a : List Int} {i : Nat} (h : i < a.length) : nv (a.drop i) = a[i] + 65536 * nv (a.drop (i + 1)) := by
  rw [List.drop_eq_getElem_cons h, nv]
theorem nv_take {a : List Int} {i : Nat} (h : i < a.length) : nv (a.take (i + 1)) = nv (a.take i) + 65536 ^ i * a[i] := by
  rw [List.take_succ_eq_append_getElem h, nv_snoc, List.length_take, Nat.min_eq_left (by omega)]
theorem nv_set {a : List Int} {i : Nat} (h : i < a.length) (y : Int) : nv (a.set i y) = nv a + 65536 ^ i * (y - a[i]) := by
  induction a generalizing i with
  | nil => simp at h
  | cons x a ih =>
    cases i with
    | zero => simp [nv]; omega
    | succ i =>
      have h' : i < a.length := by simpa using h
      rw [List.set_cons_succ, nv, nv, ih h', List.getElem_cons_succ, Int.pow_succ]
      grind

/-- The digits of a number, none at the end that is 0. -/
def dg (n : Nat) : List Int := if h : n = 0 then [] else ((n % 65536 : Nat) : Int) :: dg (n / 65536)
termination_by n
decreasing_by omega
theorem dg_zero : dg 0 = [] := by rw [dg]; simp
theorem dg_pos {n : Nat} (h : n ≠ 0) : dg n = ((n % 65536 : Nat) : Int) :: dg (n / 65536) := by rw [dg]; simp [h]
theorem dg_ok (n : Nat) : Ok (dg n) := by
  induction n using Nat.strongRecOn with
  | ind n ih =>
    by_cases h : n = 0
    · subst h; rw [dg_zero]; exact Ok.nil
    · rw [dg_pos h]; exact Ok.mk (by omega) (ih _ (by omega))
theorem nv_dg (n : Nat) : nv (dg n) = (n : Int) := by
  induction n using Nat.strongRecOn with
  | ind n ih =>
    by_cases h : n = 0
    · subst h; rw [dg_zero]; rfl
    · rw [dg_pos h, nv, ih _ (by omega)]; omega
/-- No 0 at the end. -/
def Cn (l : List Int) : Prop := ∀ a x, l = a ++ [x] → x ≠ 0
theorem dg_cn (n : Nat) : Cn (dg n) := by
  induction n using Nat.strongRecOn with
  | ind n ih =>
    intro a x e
    by_cases h : n = 0
    · subst h; rw [dg_zero] at e; simp at e
    · rw [dg_pos h] at e
      cases a with
      | nil =>
        have h2 : dg (n / 65536) = [] := by simpa using (List.cons.inj e).2
        have h3 : n / 65536 = 0 := by
          apply Classical.byContradiction
          intro h3
          rw [dg_pos h3] at h2
          cases h2
        have h4 := (List.cons.inj e).1
        omega
      | cons y a =>
        rw [List.cons_append] at e
        exact ih _ (by omega) a x (List.cons.inj e).2
theorem dg_nv : ∀ {l : List Int}, Ok l → Cn l → dg (nv l).toNat = l
  | [], _, _ => by rw [nv]; exact dg_zero
  | x :: l, h, hc => by
    have h1 := h.cons.1
    have h2 := nv_nonneg h.cons.2
    have hc2 : Cn l := fun a y e => hc (x :: a) y (by rw [e]; rfl)
    have ih := dg_nv h.cons.2 hc2
    have hpos : (nv (x :: l)).toNat ≠ 0 := by
      rw [nv]
      by_cases hl : l = []
      · subst hl
        have := hc [] x rfl
        rw [nv]; omega
      · intro e
        have h3 : nv l = 0 := by omega
        rw [h3] at ih
        rw [show (0 : Int).toNat = 0 from rfl, dg_zero] at ih
        exact hl ih.symm
    rw [dg_pos hpos, nv, show (x + 65536 * nv l).toNat / 65536 = (nv l).toNat by omega, ih]
    congr 1
    omega
theorem dg_len {n m : Nat} (h : (dg n).length < (dg m).length) : n < m := by
  have h1 := nv_lt (dg_ok n)
  rw [nv_dg] at h1
  obtain ⟨a, x, e⟩ : ∃ a x, dg m = a ++ [x] := by
    have hne : dg m ≠ [] := by intro e; rw [e] at h; simp at h
    exact ⟨_, _, (List.dropLast_concat_getLast hne).symm⟩
  have hx := dg_cn m a x e
  have ho := dg_ok m
  rw [e] at ho
  have h2 := ho.right x (by simp)
  have h3 := nv_dg m
  rw [e, nv_snoc] at h3
  have h4 := nv_nonneg ho.left
  rw [e, List.length_append, List.length_singleton] at h
  have h5 : (65536 : Int) ^ (dg n).length ≤ 65536 ^ a.length := by
    obtain ⟨d, hd⟩ : ∃ d, a.length = (dg n).length + d := ⟨a.length - (dg n).length, by omega⟩
    rw [hd, Int.pow_add]
    have h6 : (0 : Int) < 65536 ^ (dg n).length := Int.pow_pos (by decide)
    have h7 : (0 : Int) < 65536 ^ d := Int.pow_pos (by decide)
    have := Int.mul_le_mul_of_nonneg_left (show (1 : Int) ≤ 65536 ^ d by omega) (Int.le_of_lt h6)
    omega
  have h6 : (0 : Int) < 65536 ^ a.length := Int.pow_pos (by decide)
  have h7 : 65536 ^ a.length * 1 ≤ 65536 ^ a.length * x := Int.mul_le_mul_of_nonneg_left (by omega) (Int.le_of_lt h6)
  omega
theorem dg_length_le {n k : Nat} (h : n < 65536 ^ k) : (dg n).length ≤ k := by
  induction k generalizing n with
  | zero => rw [show n = 0 by simpa using h, dg_zero]; simp
  | succ k ih =>
    by_cases h0 : n = 0
    · subst h0; rw [dg_zero]; simp
    · rw [dg_pos h0, List.length_cons]
      have := ih (n := n / 65536) (by rw [Nat.pow_succ] at h; omega)
      omega

theorem dg_nv_len {a : List Int} (ha : Ok a) : (dg (nv a).toNat).length ≤ a.length := by
  apply dg_length_le
  have h := nv_lt ha
  have h2 := nv_nonneg ha
  have e := Int.natCast_pow 65536 a.length
  have e2 : ((65536 : Nat) : Int) = 65536 := rfl
  rw [e2] at e
  rw [← e] at h
  omega
theorem At.cast {α : Type} {F : Nat → Option α} {r s : α} (h : At F r) (e : r = s) : At F s := e ▸ h

theorem wrap_ok {x : Int} (h1 : -9223372036854775808 ≤ x) (h2 : x ≤ 9223372036854775807) : wrap64 x = x := by unfold wrap64; omega

end Dg
end Go.Proofs.Ytldnjbpcdojffaa
/- @@NUM 25 The walks of the document's Trim and Less on digits. Conditions: rows of at most 2^20 digits. -/
namespace Go.Proofs.Ytldnjbpcdojffaa
set_option linter.unusedVariables false
set_option linter.unusedSimpArgs false
open Go Go.RowKit
open Dg (nv dg Ok Cn)

/-- The slice sv reads as the whole numbers zs, in a block below n; or it is nil and there are none. -/
def RdI (n : Nat) (W : World) (sv : Value) (zs : List Int) : Prop :=
  (sv = .slice none 0 0 ∧ zs = []) ∨ ∃ x cap, sv = .slice (some x) zs.length cap ∧ zs.length ≤ cap ∧ x.block < n ∧ ∀ j, j < zs.length → W.cell? (x.add j) = some (.int .i64 (zs[j]?.getD 0))
theorem RdI.below {n : Nat} {A B : World} (h : Below n A B) {sv : Value} {zs : List Int} : RdI n A sv zs → RdI n B sv zs
  | .inl e => .inl e
  | .inr ⟨x, cap, e, hl, hb, hc⟩ => .inr ⟨x, cap, e, hl, hb, fun j hj => (h.cell (p := x.add j) (by rw [add_block]; exact hb)).trans (hc j hj)⟩
theorem RdI.up {n m : Nat} {A : World} (hn : n ≤ m) {sv : Value} {zs : List Int} : RdI n A sv zs → RdI m A sv zs
  | .inl e => .inl e
  | .inr ⟨x, cap, e, hl, hb, hc⟩ => .inr ⟨x, cap, e, hl, Nat.lt_of_lt_of_le hb hn, hc⟩
theorem RdI.next {A B : World} (h : Below A.heap.size A B) {sv : Value} {zs : List Int} (hr : RdI A.heap.size A sv zs) : RdI B.heap.size B sv zs := (hr.below h).up h.size
theorem RdI.some {n : Nat} {W : World} {sv : Value} {zs : List Int} (h : RdI n W sv zs) : ∃ a cap, sv = .slice a zs.length cap := by
  rcases h with ⟨rfl, rfl⟩ | ⟨x, cap, rfl, _⟩
  · exact ⟨_, _, rfl⟩
  · exact ⟨_, _, rfl⟩

set_option maxHeartbeats 4000000 in
theorem Trim_fact (zs : List Int) (hz : Ok zs) (hb : zs.length ≤ 1048576) (sv : Value) (w : World) (hI : RdI w.heap.size w sv zs) : Calls Try.prog 44 #[sv] w fun e w' => (∃ v, e = .returned v ∧ RdI w'.heap.size w' v (dg (nv zs).toNat)) ∧ Below w.heap.size w w' := by
  have HI := Lib.hid hI; have HZ := Lib.hid hz
  clear hI hz
  go_enter Try.func44, Try.ntmps44
  go_wp2
  go_loopg [0] (zs.length + 1) (fun kq v0 wr => ∃ ys : List Int, Hid (kq = ys.length + 1 ∧ ys.length ≤ 1048576 ∧ Ok ys ∧ nv ys = nv zs) ∧ Hid (RdI w.heap.size wr v0 ys) ∧ Hid (Below w.heap.size w wr))
  case atStart => exact ⟨zs, ⟨rfl, hb, HZ.out, rfl⟩, HI.out, Below.refl _ _⟩
  case round =>
    obtain ⟨ys, HY, HR, HB⟩ := hrel
    obtain ⟨hk, hlen, hok, hnv⟩ := HY.out
    have hR := HR.out
    rcases hR with ⟨rfl, rfl⟩ | ⟨x, cap, rfl, hcap, hxb, hcs⟩
    · go_wp2
      go_ret
      refine ⟨⟨_, rfl, .inl ⟨rfl, ?_⟩⟩, HB.out⟩
      rw [← hnv]; exact Dg.dg_zero
    · by_cases hne : ys = []
      · subst hne
        clear hcs hlen
        simp only [List.length_nil] at *
        go_wp2
        go_ret
        refine ⟨⟨_, rfl, ?_⟩, HB.out⟩
        rw [← hnv, show (nv ([] : List Int)).toNat = 0 from rfl, Dg.dg_zero]
        exact (HR.out.up HB.out.size)
      · obtain ⟨a, d, rfl⟩ : ∃ a d, ys = a ++ [d] := ⟨_, _, (List.dropLast_concat_getLast hne).symm⟩
        obtain ⟨n, hn⟩ : ∃ n, a.length = n := ⟨_, rfl⟩
        have hl : (a ++ [d]).length = n + 1 := by rw [List.length_append, hn]; rfl
        have hcx := hcs n (by omega)
        rw [List.getElem?_append_right (by omega), hn, Nat.sub_self] at hcx
        simp only [List.getElem?_cons_zero, Option.getD_some] at hcx
        have hcs2 : Hid (∀ j, j < n → wr.cell? (x.add j) = some (.int .i64 (a[j]?.getD 0))) := fun j hj => by
          rw [hcs j (by omega), List.getElem?_append_left (by omega)]
        have HXB := Lib.hid hxb
        rw [hl] at hk hcap hlen ⊢
        have HOK := Lib.hid hok; have HNV := Lib.hid hnv
        clear hcs hne hl hxb hok hnv HY
        by_cases hd : d = 0
        · subst hd
          go_wp2
          have e1 := HNV.out
          rw [Dg.nv_snoc, Int.mul_zero, Int.add_zero] at e1
          go_roundg (n + 1)
          case measure => omega
          case rel =>
            refine ⟨a, ⟨by omega, by omega, HOK.out.left, e1⟩, .inr ⟨x, cap, by rw [hn], by omega, HXB.out, by rw [hn]; exact hcs2.out⟩, HB.out⟩
        · go_wp2
          go_ret
          refine ⟨⟨_, rfl, ?_⟩, HB.out⟩
          rw [← HNV.out, Dg.dg_nv HOK.out (fun b y e => by have := List.append_inj_right' e (by simp); simp at this; omega)]
          have := HR.out.up HB.out.size
          rw [List.length_append, hn] at this
          exact this

end Go.Proofs.Ytldnjbpcdojffaa
/- @@NUM 25 The walks of the document's Less and Same on digits. Conditions: rows of at most 2^20 digits. -/
namespace Go.Proofs.Ytldnjbpcdojffaa
set_option linter.unusedVariables false
set_option linter.unusedSimpArgs false
open Go Go.RowKit
open Dg (nv dg Ok Cn)

theorem less_more {B x y a b : Int} (hx : 0 ≤ x) (hy : 0 ≤ y) (hx2 : x < B) (hy2 : y < B) (h : a < b) : x + B * a < y + B * b := by
  have h3 : B * (a + 1) ≤ B * b := Int.mul_le_mul_of_nonneg_left (by omega) (by omega)
  rw [Int.mul_add, Int.mul_one] at h3
  omega
theorem ints_at {w : World} {x : Addr} {zs : List Int} (h : ∀ j, j < zs.length → w.cell? (x.add j) = some (.int .i64 (zs[j]?.getD 0))) {i : Nat} (hi : i < zs.length) : w.cell? (x.add i) = some (.int .i64 zs[i]) := by
  rw [h i hi, List.getElem?_eq_getElem hi, Option.getD_some]

set_option maxHeartbeats 8000000 in
theorem Less_fact (us vs : List Int) (ha : Ok us) (hb : Ok vs) (hla : us.length ≤ 1048576) (hlb : vs.length ≤ 1048576) (sa sb : Value) (w : World) (hA : RdI w.heap.size w sa us) (hB : RdI w.heap.size w sb vs) :
    Calls Try.prog 22 #[sa, sb] w fun e w' => e = .returned (.bool (decide (nv us < nv vs))) ∧ Below w.heap.size w w' := by
  obtain ⟨p, hp⟩ : ∃ p : Nat, (nv us).toNat = p := ⟨_, rfl⟩
  obtain ⟨q, hq⟩ : ∃ q : Nat, (nv vs).toNat = q := ⟨_, rfl⟩
  have hpv : nv us = (p : Int) := by have := Dg.nv_nonneg ha; omega
  have hqv : nv vs = (q : Int) := by have := Dg.nv_nonneg hb; omega
  have lp := Dg.dg_nv_len ha; rw [hp] at lp
  have lq := Dg.dg_nv_len hb; rw [hq] at lq
  have T1 := Lib.hid (Trim_fact us ha hla); have T2 := Lib.hid (Trim_fact vs hb hlb)
  rw [hp] at T1; rw [hq] at T2
  obtain ⟨R, hR⟩ : ∃ R, decide (nv us < nv vs) = R := ⟨_, rfl⟩
  rw [hR]
  have HR : Hid (decide (p < q) = R) := by
    rw [← hR, hpv, hqv]
    exact decide_eq_decide.2 (by omega)
  have lp2 : (dg p).length ≤ 1048576 := by omega
  have lq2 : (dg q).length ≤ 1048576 := by omega
  have HA := Lib.hid hA; have HBb := Lib.hid hB
  clear hR hpv hqv hp hq lp lq hA hB ha hb hla hlb
  obtain ⟨a1, c1, rfl⟩ := HA.out.some
  obtain ⟨a2, c2, rfl⟩ := HBb.out.some
  go_enter Try.func22, Try.ntmps22
  go_wp2_with (fail)
  go_at_call 44
  refine (T1.out _ _ HA.out).mono ?_
  rintro e wa ⟨⟨v1, rfl, hv1⟩, hb1⟩
  have HB1 := Lib.hid (HBb.out.next hb1)
  have HV1 := Lib.hid hv1
  have HBW := Lib.hid hb1
  clear hv1 hb1 HA HBb T1
  go_wp2_with (fail)
  go_at_call 44
  refine (T2.out _ _ HB1.out).mono ?_
  rintro e wb ⟨⟨v2, rfl, hv2⟩, hb2⟩
  have HV2 := Lib.hid hv2
  have HV3 := Lib.hid (HV1.out.next hb2)
  have HBX : Hid (Below w.heap.size w wb) := below_call HBW.out HBW.out.size hb2
  clear hv2 hb2 HV1 HB1 HBW T2
  obtain ⟨x1, k1, e1⟩ := HV3.out.some
  obtain ⟨x2, k2, e2⟩ := HV2.out.some
  subst e1 e2
  by_cases hl : (dg p).length = (dg q).length
  · obtain ⟨n, hn⟩ : ∃ n, (dg p).length = n := ⟨_, rfl⟩
    have hn2 : (dg q).length = n := by rw [← hl, hn]
    have hv3 := HV3.out; have hv2 := HV2.out
    rw [hn] at hv3 lp2
    rw [hn2] at hv2
    rw [hn, hn2]
    have HN : Hid ((dg p).length = n) := hn
    have HN2 : Hid ((dg q).length = n) := hn2
    clear hl lq2 HV3 HV2
    have HV3 := Lib.hid hv3; have HV2 := Lib.hid hv2
    clear hv3 hv2 hn hn2
    go_wp2
    go_loopg [5] (n + 1) (fun kq v5 wr => ∃ z : Int, v5 = .int .i64 z ∧ Hid (z = (kq : Int) - 2 ∧ 1 ≤ kq ∧ kq ≤ n + 1) ∧ Hid (R = decide (nv ((dg p).take (kq - 1)) < nv ((dg q).take (kq - 1)))) ∧ Hid (Below wb.heap.size wb wr))
    case atStart =>
      refine ⟨_, rfl, ⟨by omega, by omega, by omega⟩, ?_, Below.refl _ _⟩
      have h1 := HR.out
      have e3 : (dg p).take (n + 1 - 1) = dg p := by rw [show n + 1 - 1 = n by omega, ← HN.out]; exact List.take_length
      have e4 : (dg q).take (n + 1 - 1) = dg q := by rw [show n + 1 - 1 = n by omega, ← HN2.out]; exact List.take_length
      show R = decide _
      rw [← h1, e3, e4, Dg.nv_dg, Dg.nv_dg]
      exact decide_eq_decide.2 (by omega)
    case round =>
      obtain ⟨z, rfl, HZ, HD, HB3⟩ := hrel
      obtain ⟨i, rfl⟩ : ∃ i, gk = i + 1 := ⟨gk - 1, by have := HZ.out.2.1; omega⟩
      rcases i with _ | i
      · obtain rfl : z = -1 := by have := HZ.out.1; omega
        have hd := HD.out
        simp [nv] at hd
        subst hd
        go_wp2
        go_ret
        exact ⟨rfl, HBX.out.trans (HB3.out.mono HBX.out.size)⟩
      · obtain rfl : z = (i : Int) := by have := HZ.out.1; omega
        have hi : i < n := by have := HZ.out.2.2; omega
        rcases HV3.out with ⟨e, h0⟩ | ⟨y1, j1, e, _, hb1, hc1⟩
        · rw [h0] at HN; have := HN.out; simp at this; omega
        rcases HV2.out with ⟨e', h0⟩ | ⟨y2, j2, e', _, hb2, hc2⟩
        · rw [h0] at HN2; have := HN2.out; simp at this; omega
        have hi1 : i < (dg p).length := by rw [HN.out]; exact hi
        have hi2 : i < (dg q).length := by rw [HN2.out]; exact hi
        injection e with e5 e6 e7; subst e5
        injection e' with e5 e6 e8; subst e5
        have cx := (HB3.out.cell (p := y1.add i) (by rw [add_block]; exact hb1)).trans (ints_at hc1 hi1)
        have cy := (HB3.out.cell (p := y2.add i) (by rw [add_block]; exact hb2)).trans (ints_at hc2 hi2)
        have hd := HD.out
        rw [show i + 1 + 1 - 1 = i + 1 by omega, Dg.nv_take hi1, Dg.nv_take hi2] at hd
        have n1 := Dg.nv_nonneg ((Dg.dg_ok p).take i)
        have n2 := Dg.nv_nonneg ((Dg.dg_ok q).take i)
        have l1 := Dg.nv_lt ((Dg.dg_ok p).take i)
        have l2 := Dg.nv_lt ((Dg.dg_ok q).take i)
        rw [List.length_take, Nat.min_eq_left (by omega)] at l1 l2
        obtain ⟨a, hae⟩ : ∃ a, (dg p)[i] = a := ⟨_, rfl⟩
        obtain ⟨b, hbe⟩ : ∃ b, (dg q)[i] = b := ⟨_, rfl⟩
        rw [hae] at cx hd; rw [hbe] at cy hd
        have HDD := Lib.hid hd
        have HL1 := Lib.hid l1; have HL2 := Lib.hid l2; have HN1 := Lib.hid n1; have HN3 := Lib.hid n2
        clear hd l1 l2 n1 n2 hae hbe hc1 hc2 hb1 hb2 e7 e8 hi1 hi2 e6
        by_cases hab : a = b
        · subst hab
          have hd := HDD.out
          have HD2 : Hid (R = decide (nv ((dg p).take i) < nv ((dg q).take i))) := hd.trans (decide_eq_decide.2 (by omega))
          clear hd HDD
          go_wp2
          go_region
          go_wp2
          go_roundg (i + 1)
          case measure => omega
          case rel => exact ⟨(i : Int) - 1, congrArg _ (by simp), ⟨by omega, by omega, by omega⟩, HD2.out, HB3.out.drew⟩
        · have HE : Hid (R = decide (a < b)) := by
            refine HDD.out.trans (decide_eq_decide.2 ⟨fun h => ?_, less_more HN1.out HN3.out HL1.out HL2.out⟩)
            rcases Int.lt_or_gt_of_ne hab with h2 | h2
            · exact h2
            · have := less_more HN3.out HN1.out HL2.out HL1.out h2
              omega
          clear HDD
          go_wp2
          go_region
          go_wp2
          go_region
          go_wp2
          go_ret
          rw [HE.out]
          exact ⟨rfl, HBX.out.trans ((HB3.out.drew.drew).mono HBX.out.size)⟩
  · have hlt : ¬ (((dg p).length : Int) = ((dg q).length : Int)) := by omega
    have HE : Hid (R = decide ((dg p).length < (dg q).length)) := by
      rw [← HR.out]
      refine decide_eq_decide.2 ⟨fun h => ?_, fun h => Dg.dg_len (by omega)⟩
      rcases Nat.lt_trichotomy (dg p).length (dg q).length with h4 | h4 | h4
      · omega
      · exact absurd h4 hl
      · have := Dg.dg_len h4; omega
    clear hl
    go_wp2
    go_ret
    rw [HE.out]
    exact ⟨rfl, HBX.out⟩

theorem same_dec {x y : Int} : (!decide (x < y) && !decide (y < x)) = decide (x = y) := by
  by_cases h : x < y
  · rw [decide_eq_true h, decide_eq_false (show ¬ x = y by omega)]; rfl
  · by_cases h2 : y < x
    · rw [decide_eq_false h, decide_eq_true h2, decide_eq_false (show ¬ x = y by omega)]; rfl
    · rw [decide_eq_false h, decide_eq_false h2, decide_eq_true (show x = y by omega)]; rfl

set_option maxHeartbeats 4000000 in
theorem Same_fact (us vs : List Int) (ha : Ok us) (hb : Ok vs) (hla : us.length ≤ 1048576) (hlb : vs.length ≤ 1048576) (sa sb : Value) (w : World) (hA : RdI w.heap.size w sa us) (hB : RdI w.heap.size w sb vs) :
    Calls Try.prog 43 #[sa, sb] w fun e w' => e = .returned (.bool (decide (nv us = nv vs))) ∧ Below w.heap.size w w' := by
  have L1 := Lib.hid (Less_fact us vs ha hb hla hlb); have L2 := Lib.hid (Less_fact vs us hb ha hlb hla)
  rw [← same_dec]
  obtain ⟨x, hx⟩ : ∃ x, decide (nv us < nv vs) = x := ⟨_, rfl⟩
  obtain ⟨y, hy⟩ : ∃ y, decide (nv vs < nv us) = y := ⟨_, rfl⟩
  rw [hx] at L1 ⊢; rw [hy] at L2 ⊢
  have HA := Lib.hid hA; have HBb := Lib.hid hB
  clear hA hB ha hb hla hlb hx hy
  obtain ⟨a1, c1, rfl⟩ := HA.out.some
  obtain ⟨a2, c2, rfl⟩ := HBb.out.some
  go_enter Try.func43, Try.ntmps43
  go_wp2_with (fail)
  go_at_call 22
  refine (L1.out _ _ _ HA.out HBb.out).mono ?_
  rintro e wa ⟨rfl, hb1⟩
  cases x
  · go_wp2_with (fail)
    go_at_call 22
    refine (L2.out _ _ _ (HBb.out.next hb1) (HA.out.next hb1)).mono ?_
    rintro e wb ⟨rfl, hb2⟩
    have HBX := Lib.hid (below_call hb1 hb1.size hb2)
    clear hb1 hb2
    go_wp2
    go_ret
    exact ⟨by cases y <;> rfl, HBX.out⟩
  · have HBX := Lib.hid hb1
    clear hb1
    go_wp2
    go_ret
    exact ⟨rfl, HBX.out⟩

end Go.Proofs.Ytldnjbpcdojffaa
