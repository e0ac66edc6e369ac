/- @@NUM 25 The walks of residue's Sub, Add and Mul (of one, two, three numbers, and of none). Conditions: words are below 2^64. -/
import Derived.Test.YtldnjbpcdojffaaR5
namespace Go.Proofs.Ytldnjbpcdojffaa
set_option linter.unusedVariables false
set_option linter.unusedSimpArgs false
open Go Go.RowKit
open Pl (V V8 W4 T256 pP)

theorem pP_pos : 0 < pP := by decide +kernel
theorem cells12 {w : World} {b : Nat} {c0 c1 c2 c3 c4 c5 c6 c7 c8 c9 c10 c11 : Value} {t : TypeId} {mk : Nat × Nat} (h : w.heap[b]? = some (.cells #[c0, c1, c2, c3, c4, c5, c6, c7, c8, c9, c10, c11] t mk)) :
    w.cell? ⟨b, 0, none⟩ = some c0 ∧ w.cell? ⟨b, 1, none⟩ = some c1 ∧ w.cell? ⟨b, 2, none⟩ = some c2 ∧ w.cell? ⟨b, 3, none⟩ = some c3 ∧ w.cell? ⟨b, 4, none⟩ = some c4 ∧ w.cell? ⟨b, 5, none⟩ = some c5 ∧ w.cell? ⟨b, 6, none⟩ = some c6 ∧ w.cell? ⟨b, 7, none⟩ = some c7
    ∧ w.cell? ⟨b, 8, none⟩ = some c8 ∧ w.cell? ⟨b, 9, none⟩ = some c9 ∧ w.cell? ⟨b, 10, none⟩ = some c10 ∧ w.cell? ⟨b, 11, none⟩ = some c11 := by
  simp [World.cell?, h]

set_option maxHeartbeats 2000000 in
theorem Sub_fact (a0 a1 a2 a3 b0 b1 b2 b3 : Nat) (ha : W4 a0 a1 a2 a3) (hb : W4 b0 b1 b2 b3) : ∃ r0 r1 r2 r3 : Nat, (W4 r0 r1 r2 r3 ∧ V r0 r1 r2 r3 = (V a0 a1 a2 a3 % pP + (pP - V b0 b1 b2 b3 % pP)) % pP) ∧ ∀ w : World,
    Calls Try.prog 26 #[.agg #[.int .u64 a0, .int .u64 a1, .int .u64 a2, .int .u64 a3], .agg #[.int .u64 b0, .int .u64 b1, .int .u64 b2, .int .u64 b3]] w fun e w' => e = .returned (.agg #[.int .u64 r0, .int .u64 r1, .int .u64 r2, .int .u64 r3]) ∧ Below w.heap.size w w' := by
  obtain ⟨p0, p1, p2, p3, hp, FP⟩ := prime_fact
  obtain ⟨s0, s1, s2, s3, ⟨hs, hsv⟩, FS⟩ := small_fact b0 b1 b2 b3 hb
  obtain ⟨m0, m1, m2, m3, c, ⟨hm, hc, hmv⟩, FM⟩ := minus_fact p0 p1 p2 p3 s0 s1 s2 s3 hp.1 hs
  obtain ⟨x0, x1, x2, x3, ⟨hx, hxv⟩, FX⟩ := small_fact a0 a1 a2 a3 ha
  obtain ⟨y0, y1, y2, y3, ⟨hy, hyv⟩, FY⟩ := small_fact m0 m1 m2 m3 hm
  obtain ⟨r0, r1, r2, r3, ⟨hr, hrv⟩, FA⟩ := add_fact x0 x1 x2 x3 y0 y1 y2 y3 hx hy
  have hmm : V m0 m1 m2 m3 = pP - V b0 b1 b2 b3 % pP := by
    have h1 := Nat.mod_lt (V b0 b1 b2 b3) pP_pos
    have h2 := Pl.V_lt hm
    rw [hp.2, hsv] at hmv
    have h3 : pP < T256 := by decide +kernel
    rcases (show c = 0 ∨ c = 1 by omega) with rfl | rfl <;> omega
  refine ⟨r0, r1, r2, r3, ⟨hr, ?_⟩, fun w => ?_⟩
  · have h1 := Nat.mod_lt (V a0 a1 a2 a3) pP_pos
    have h2 := Nat.mod_lt (V m0 m1 m2 m3) pP_pos
    rw [hrv (by rw [hxv]; exact h1) (by rw [hyv]; exact h2), hxv, hyv, hmm, Nat.add_mod_mod]
  have HP := Lib.hid FP
  have HS := Lib.hid FS
  have HM := Lib.hid FM
  have HX := Lib.hid FX
  have HY := Lib.hid FY
  have HA := Lib.hid FA
  clear FP FS FM FX FY FA hmm hrv hr hyv hy hxv hx hmv hc hm hsv hs hp ha hb
  go_enter Try.func26, Try.ntmps26
  go_wp2
  refine Rg.region_ (n := 19) [0, 0, 3, 7, 15, 31, 31, 0, 191, 511] [1, 1, 1, 1, 0, 0, 0, 1, 2, 2] [8, 9, 10, 11, 7, 12, 13, 5, 0, 6] [[], [(3, none)], [(9, some 1)], [(8, some 0), (10, some 2)], [(11, some 3)], [(7, some 4)], [(7, some 4)], [], [(5, some 7), (12, some 5)], [(13, some 6)]] 8 (by kernel_rfl) (by kernel_rfl) (by rfl) ?_
  intro W hW
  have hA : W.heap[w.heap.size]? = some (.cells #[.int .u64 a0, .int .u64 a1, .int .u64 a2, .int .u64 a3] 25 (0, 0)) := by rw [hW]; exact heap_drew (heap_old (heap_old (heap_new _ _) _) _)
  have hB : W.heap[w.heap.size + 1]? = some (.cells #[.int .u64 b0, .int .u64 b1, .int .u64 b2, .int .u64 b3] 25 (0, 0)) := by rw [hW]; exact heap_drew (heap_old (heap_new' (by simp) _) _)
  have hR : W.heap[w.heap.size + 1 + 1]? = some (.cells #[.int .u64 0, .int .u64 0, .int .u64 0, .int .u64 0] 25 (0, 0)) := by rw [hW]; exact heap_drew (heap_new' (by simp) _)
  have HB0 : Below w.heap.size w W := by rw [hW]; go_grown
  have HZ : W.heap.size = w.heap.size + 1 + 1 + 1 := by rw [hW]; simp
  change Rg.Chain' _ _ _ _ _ [(0, 1, 8, []), (1, 1, 9, [(3, none)]), (2, 1, 10, [(9, some 1)]), (3, 1, 11, [(8, some 0), (10, some 2)]), (4, 0, 7, [(11, some 3)]), (5, 0, 12, [(7, some 4)]), (6, 0, 13, [(7, some 4)]), (7, 1, 5, [])] [(0, 1, 8, []), (1, 1, 9, [(3, none)]), (2, 1, 10, [(9, some 1)]), (3, 1, 11, [(8, some 0), (10, some 2)]), (4, 0, 7, [(11, some 3)]), (5, 0, 12, [(7, some 4)]), (6, 0, 13, [(7, some 4)]), (7, 1, 5, [])] _
  apply Rg.ch_def (by rfl) (fun a w1 _ => Rg.wanted_none (by rfl))
  · rintro a w1 hb -
    apply Rg.gives_enter
    · exact run_call Try.func24 (by kernel_rfl) rfl #[] (by rfl) (by simp)
    · refine (HP.out _).mono ?_
      rintro e w2 ⟨rfl, hb2⟩
      exact ⟨_, rfl, rfl, hb2⟩
  apply Rg.ch_def (by rfl) (fun a w1 _ => Rg.wanted_none (by rfl))
  · rintro a w1 hb ⟨e3, -⟩
    conv at e3 => rhs; whnf
    have n3 := e3
    simp only [Act.eval, Array.getD_eq_getD_getElem?] at n3
    apply Rg.gives_value
    · conv => lhs; simp [go_sem, n3, cells4 (heap_keep' hb hB)]
    · exact ⟨rfl, Below.refl _ _⟩
  apply Rg.ch_def (by rfl) (fun a w1 _ => Rg.wanted_none (by rfl))
  · rintro a w1 hb ⟨e9, -⟩
    replace e9 : a.eval (.tmp 9) = _ := e9
    apply Rg.gives_enter
    · apply run_call Try.func47 (by kernel_rfl) rfl _ (by rfl)
      conv => lhs; simp only [List.map_toArray, List.map_cons, List.map_nil, eval_const_, eval_global_, e9]
    · refine (HS.out _).mono ?_
      rintro e w2 ⟨rfl, hb2⟩
      exact ⟨_, rfl, rfl, hb2⟩
  apply Rg.ch_def (by rfl) (fun a w1 _ => Rg.wanted_none (by rfl))
  · rintro a w1 hb ⟨e8, e10, -⟩
    replace e8 : a.eval (.tmp 8) = _ := e8
    replace e10 : a.eval (.tmp 10) = _ := e10
    apply Rg.gives_enter
    · apply run_call Try.func45 (by kernel_rfl) rfl _ (by rfl)
      conv => lhs; simp only [List.map_toArray, List.map_cons, List.map_nil, eval_const_, eval_global_, e8, e10]
    · refine (HM.out _).mono ?_
      rintro e w2 ⟨rfl, hb2⟩
      exact ⟨_, rfl, rfl, hb2⟩
  apply Rg.ch_pure (by rfl)
  · rintro a w1 ⟨e11, -⟩
    replace e11 : a.eval (.tmp 11) = _ := e11
    have n11 := e11
    simp only [Act.eval, Array.getD_eq_getD_getElem?] at n11
    apply Rg.yields_run (Rg.wanted_none (by rfl))
    intro w2
    conv => lhs; simp [go_sem, n11]
  apply Rg.ch_pure (by rfl)
  · rintro a w1 ⟨e7, -⟩
    replace e7 : a.eval (.tmp 7) = _ := e7
    have n7 := e7
    simp only [Act.eval, Array.getD_eq_getD_getElem?] at n7
    apply Rg.yields_run (Rg.wanted_none (by rfl))
    intro w2
    conv => lhs; simp [go_sem, n7]
  apply Rg.ch_pure (by rfl)
  · rintro a w1 ⟨e7, -⟩
    replace e7 : a.eval (.tmp 7) = _ := e7
    have n7 := e7
    simp only [Act.eval, Array.getD_eq_getD_getElem?] at n7
    apply Rg.yields_run (Rg.wanted_none (by rfl))
    intro w2
    conv => lhs; simp [go_sem, n7]
  apply Rg.ch_rel (Rg.Box W.heap.size 25 _) (Rg.stable_box _ _ _) (by rfl) (fun a w1 _ => Rg.wanted_none (by rfl))
  · rintro a w1 hb -
    apply Rg.gives_value
    · conv => lhs; simp [go_sem]
    · exact ⟨⟨_, rfl, hb.size, heap_new _ _⟩, (Below.refl _ _).alloc (Nat.le_refl _) _⟩
  intro w1 hb1
  rintro _ rfl _ rfl _ rfl _ rfl _ rfl _ rfl _ rfl v5 ⟨b5, rfl, ge5, hh5⟩
  change Go.wpList _ _ _ _ _ _
  simp only [List.drop_succ_cons, List.drop_zero, List.drop_nil, Act.put, List.setIfInBounds_toArray, List.set_cons_succ, List.set_cons_zero]
  have HA1 := Lib.hid (heap_keep' hb1 hA)
  have HR1 := Lib.hid (heap_keep' hb1 hR)
  have HB1 : Hid (Below w.heap.size w w1) := below_call HB0 HB0.size hb1
  have HG : Hid (w.heap.size + 1 + 1 + 1 ≤ b5) := by rw [← HZ]; exact ge5
  have H5 := Lib.hid hh5
  have c5 := cells4 hh5
  have f5 := frozen_of hh5
  clear hA hB hR HB0 HZ hb1 hW ge5 hh5
  go_wp2
  refine NoPanic.normal ?_
  go_wp2
  clear c5 f5
  refine Rg.region_ (n := 19) [0, 1, 0, 7, 15, 31] [1, 1, 1, 1, 1, 2] [14, 15, 16, 17, 18, 0] [[(2, none)], [(14, some 0)], [(5, none)], [(16, some 2)], [(15, some 1), (17, some 3)], [(4, none), (18, some 4)]] 5 (by kernel_rfl) (by kernel_rfl) (by rfl) ?_
  intro W hW
  have hA : W.heap[w.heap.size]? = some (.cells #[.int .u64 a0, .int .u64 a1, .int .u64 a2, .int .u64 a3] 25 (0, 0)) := by rw [hW]; exact heap_drew (keep4 HA1.out (by have := HG.out; omega) _ _ _ _)
  have hR : W.heap[w.heap.size + 1 + 1]? = some (.cells #[.int .u64 0, .int .u64 0, .int .u64 0, .int .u64 0] 25 (0, 0)) := by rw [hW]; exact heap_drew (keep4 HR1.out (by have := HG.out; omega) _ _ _ _)
  have h5 : W.heap[b5]? = some (.cells #[.int .u64 m0, .int .u64 m1, .int .u64 m2, .int .u64 m3] 25 (0, 0)) := by rw [hW]; exact heap_drew (set4 H5.out _ _ _ _)
  have HB0 : Below w.heap.size w W := by rw [hW]; exact (set4_below HB1.out (by have := HG.out; omega) _ _ _ _).drew
  change Rg.Chain' _ _ _ _ _ [(0, 1, 14, [(2, none)]), (1, 1, 15, [(14, some 0)]), (2, 1, 16, [(5, none)]), (3, 1, 17, [(16, some 2)]), (4, 1, 18, [(15, some 1), (17, some 3)])] [(0, 1, 14, [(2, none)]), (1, 1, 15, [(14, some 0)]), (2, 1, 16, [(5, none)]), (3, 1, 17, [(16, some 2)]), (4, 1, 18, [(15, some 1), (17, some 3)])] _
  apply Rg.ch_def (by rfl) (fun a w1 _ => Rg.wanted_none (by rfl))
  · rintro a w1 hb ⟨e2, -⟩
    conv at e2 => rhs; whnf
    have n2 := e2
    simp only [Act.eval, Array.getD_eq_getD_getElem?] at n2
    apply Rg.gives_value
    · conv => lhs; simp [go_sem, n2, cells4 (heap_keep' hb hA), cells4 (heap_keep' hb h5)]
    · exact ⟨rfl, Below.refl _ _⟩
  apply Rg.ch_def (by rfl) (fun a w1 _ => Rg.wanted_none (by rfl))
  · rintro a w1 hb ⟨e14, -⟩
    replace e14 : a.eval (.tmp 14) = _ := e14
    apply Rg.gives_enter
    · apply run_call Try.func47 (by kernel_rfl) rfl _ (by rfl)
      conv => lhs; simp only [List.map_toArray, List.map_cons, List.map_nil, eval_const_, eval_global_, e14]
    · refine (HX.out _).mono ?_
      rintro e w2 ⟨rfl, hb2⟩
      exact ⟨_, rfl, rfl, hb2⟩
  apply Rg.ch_def (by rfl) (fun a w1 _ => Rg.wanted_none (by rfl))
  · rintro a w1 hb ⟨e5, -⟩
    conv at e5 => rhs; whnf
    have n5 := e5
    simp only [Act.eval, Array.getD_eq_getD_getElem?] at n5
    apply Rg.gives_value
    · conv => lhs; simp [go_sem, n5, cells4 (heap_keep' hb hA), cells4 (heap_keep' hb h5)]
    · exact ⟨rfl, Below.refl _ _⟩
  apply Rg.ch_def (by rfl) (fun a w1 _ => Rg.wanted_none (by rfl))
  · rintro a w1 hb ⟨e16, -⟩
    replace e16 : a.eval (.tmp 16) = _ := e16
    apply Rg.gives_enter
    · apply run_call Try.func47 (by kernel_rfl) rfl _ (by rfl)
      conv => lhs; simp only [List.map_toArray, List.map_cons, List.map_nil, eval_const_, eval_global_, e16]
    · refine (HY.out _).mono ?_
      rintro e w2 ⟨rfl, hb2⟩
      exact ⟨_, rfl, rfl, hb2⟩
  apply Rg.ch_def (by rfl) (fun a w1 _ => Rg.wanted_none (by rfl))
  · rintro a w1 hb ⟨e15, e17, -⟩
    replace e15 : a.eval (.tmp 15) = _ := e15
    replace e17 : a.eval (.tmp 17) = _ := e17
    apply Rg.gives_enter
    · apply run_call Try.func46 (by kernel_rfl) rfl _ (by rfl)
      conv => lhs; simp only [List.map_toArray, List.map_cons, List.map_nil, eval_const_, eval_global_, e15, e17]
    · refine (HA.out _).mono ?_
      rintro e w2 ⟨rfl, hb2⟩
      exact ⟨_, rfl, rfl, hb2⟩
  intro w1 hb1
  rintro _ rfl _ rfl _ rfl _ rfl _ rfl
  change Go.wpList _ _ _ _ _ _
  simp only [List.drop_succ_cons, List.drop_zero, List.drop_nil, Act.put, List.setIfInBounds_toArray, List.set_cons_succ, List.set_cons_zero]
  have hR1 := heap_keep' hb1 hR
  have cR := cells4 hR1
  have fR := frozen_of hR1
  have hQ := cells4 (set4 hR1 (.int .u64 r0) (.int .u64 r1) (.int .u64 r2) (.int .u64 r3))
  have HB2 : Below w.heap.size w w1 := below_call HB0 HB0.size hb1
  clear hA hR h5 HB0 hb1 hW
  go_wp2
  refine NoPanic.normal ?_
  go_wp2
  refine bodyPost_ret (v := .agg #[.int .u64 r0, .int .u64 r1, .int .u64 r2, .int .u64 r3]) (by simp [results, Try.results26, go_sem, hQ]) rfl ⟨rfl, ?_⟩
  go_grown

end Go.Proofs.Ytldnjbpcdojffaa
