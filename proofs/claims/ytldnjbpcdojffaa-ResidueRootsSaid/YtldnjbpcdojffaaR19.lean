/- @@NUM 25 The walk of law 08's ResidueRoots. Conditions: words are below 2^64. -/
import Derived.Test.YtldnjbpcdojffaaR18
namespace Go.Proofs.Ytldnjbpcdojffaa
set_option linter.unusedVariables false
set_option linter.unusedSimpArgs false
open Go Go.RowKit
open Pl (V V8 W4 T256 pP)
attribute [local go_sem ↓] eql_num neq_num

set_option maxHeartbeats 8000000 in
theorem roots_Z0 (a0 a1 a2 a3 : Nat) (ha : W4 a0 a1 a2 a3) (hpar : V a0 a1 a2 a3 % pP % 2 = 0) (hc : V a0 a1 a2 a3 % pP = 0) (w : World) : Calls Try.prog 9 #[.agg #[.int .u64 a0, .int .u64 a1, .int .u64 a2, .int .u64 a3]] w fun e w' => e = .returned (.bool true) ∧ Below w.heap.size w w' := by
  have hp := pP_pos
  have hA : V a0 a1 a2 a3 % pP < pP := Nat.mod_lt _ hp
  obtain ⟨s0, s1, s2, s3, ⟨hs, hsv⟩, F1⟩ := Mul2_fact a0 a1 a2 a3 a0 a1 a2 a3 ha ha
  obtain ⟨r0, r1, r2, r3, ok, hR, F2⟩ := Root_fact s0 s1 s2 s3 hs
  have hsl : V s0 s1 s2 s3 % pP = V s0 s1 s2 s3 := by rw [hsv, Nat.mod_mod]
  have hsq : (V a0 a1 a2 a3 % pP) * (V a0 a1 a2 a3 % pP) % pP = V s0 s1 s2 s3 := by rw [hsv, ← Nat.mul_mod]
  obtain rfl : ok = true := by
    cases ok
    · exact absurd (by rw [hsl]; exact hsq) ((hR.2.2 rfl).2 (V a0 a1 a2 a3 % pP))
    · rfl
  have hr := hR.1
  obtain ⟨hrl, hre, hrs⟩ := hR.2.1 rfl
  rw [hsl] at hrs
  obtain ⟨m0, m1, m2, m3, ⟨hm, hmv⟩, F3⟩ := Mul2_fact r0 r1 r2 r3 r0 r1 r2 r3 hr hr
  have E1 := eqL_true hm hs (by rw [hmv, hrs])
  obtain ⟨p0, p1, p2, p3, hpp, F4⟩ := prime_fact
  obtain ⟨z1, hz1, F5⟩ := less_fact r0 r1 r2 r3 p0 p1 p2 p3 hr hpp.1
  obtain rfl : z1 = true := hz1.2 (by rw [hpp.2]; exact hrl)
  obtain ⟨rfl, rfl, rfl, rfl⟩ := prime_lit hpp
  obtain ⟨x0, x1, x2, x3, ⟨hx, hxv⟩, F6⟩ := Add1_fact a0 a1 a2 a3 ha
  have ER := par0 (n := r0) (by rw [← V_par r0 r1 r2 r3]; exact hre)
  have EX := par0 (n := x0) (by rw [← V_par x0 x1 x2 x3, hxv]; exact hpar)
  have E2 := eqL_true hr hx (by rw [hxv]; exact Pl.same_root hrl hA hre hpar (by rw [hrs, hsq]))
  obtain ⟨q0, q1, q2, q3, there, hQ, F8⟩ := Root_fact a0 a1 a2 a3 ha
  have hq := hQ.1
  obtain ⟨z2, hz2, F9⟩ := zero_fact x0 x1 x2 x3
  obtain rfl : there = true := by
    cases there
    · exfalso
      have h := (hQ.2.2 rfl).2
      exact h 0 (by rw [hc, Nat.mul_zero, Nat.zero_mod])
    · rfl
  obtain ⟨hql, hqe, hqs⟩ := hQ.2.1 rfl
  obtain ⟨n0, n1, n2, n3, ⟨hn_, hnv⟩, F11⟩ := Mul2_fact q0 q1 q2 q3 q0 q1 q2 q3 hq hq
  have E4 := eqL_true hn_ hx (by rw [hnv, hqs, hxv])
  obtain rfl : z2 = true := hz2.2 (by rw [hxv, hc])
  have H0 := Lib.hid awake_fact
  have G1 := Lib.hid F1; have G2 := Lib.hid F2; have G3 := Lib.hid F3; have G4 := Lib.hid F4; have G5 := Lib.hid F5; have G6 := Lib.hid F6; have G8 := Lib.hid F8; have G9 := Lib.hid F9; have G11 := Lib.hid F11
  have OA := or_a; have OB := or_b
  clear F1 F2 F3 F4 F5 F6 F8 F9 F11
  clear hp hA hsv hsl hsq hrl hre hrs hR hmv hxv hQ hz1 hz2 hpp hs hr hm hx hq hc hpar ha hql hqe hqs hnv hn_
  go_enter Try.func9, Try.ntmps9
  go_wp2_with (fail)
  go_at_call 13
  refine (H0.out _).mono ?_
  rintro e wa ⟨rfl, hb⟩
  have HBn : Hid (Below w.heap.size w wa) := Lib.hid (below_call (by first | go_grown) (by first | (simp; omega) | simp | omega) hb)
  have hBa_ : wa.heap[w.heap.size]? = some (.cells #[.int .u64 a0, .int .u64 a1, .int .u64 a2, .int .u64 a3] 25 (0, 0)) := heap_keep' hb (by repeat (first | (with_reducible refine heap_new' ?_ _; simp; done) | (with_reducible refine keep4 ?_ (by omega) _ _ _ _) | (with_reducible refine heap_old ?_ _) | (with_reducible refine heap_drew ?_) | (with_reducible refine heap_set_ne ?_ (by simp <;> omega) _)))
  clear hb
  have HB := HBn; clear HBn
  have HBa := Lib.hid hBa_; have cBa := cells4 hBa_; have fBa := frozen_of hBa_; have zBa := lt_of_heap hBa_; clear hBa_
  go_wp2_with (fail)
  go_at_call 25
  refine (G1.out _ _ (heap_new' (by simp) _)).mono ?_
  rintro e wb ⟨rfl, hb⟩
  have HBn : Hid (Below w.heap.size w wb) := Lib.hid (below_call (by have hB0 := HB.out; have hS0 := hB0.size; first | exact hB0 | exact set4_below hB0 (by omega) _ _ _ _ | go_grown) (by have hB0 := HB.out; have hS0 := hB0.size; first | exact hS0 | (rw [size4]; exact hS0) | (simp; omega) | simp | omega) hb)
  have hBa_ : wb.heap[w.heap.size]? = some (.cells #[.int .u64 a0, .int .u64 a1, .int .u64 a2, .int .u64 a3] 25 (0, 0)) := heap_keep' hb (by repeat (first | (with_reducible exact HBa.out) | (with_reducible exact set4 HBa.out _ _ _ _) | (with_reducible refine heap_new' ?_ _; simp; done) | (with_reducible refine keep4 ?_ (by omega) _ _ _ _) | (with_reducible refine heap_old ?_ _) | (with_reducible refine heap_drew ?_) | (with_reducible refine heap_set_ne ?_ (by simp <;> omega) _)))
  clear hb HB HBa cBa fBa zBa
  have HB := HBn; clear HBn
  have HBa := Lib.hid hBa_; have cBa := cells4 hBa_; have fBa := frozen_of hBa_; have zBa := lt_of_heap hBa_; clear hBa_
  go_wp2_with (fail)
  go_at_call 36
  refine (G2.out _).mono ?_
  rintro e wc ⟨rfl, hb⟩
  have HBn : Hid (Below w.heap.size w wc) := Lib.hid (below_call (by have hB0 := HB.out; have hS0 := hB0.size; first | exact hB0 | exact set4_below hB0 (by omega) _ _ _ _ | go_grown) (by have hB0 := HB.out; have hS0 := hB0.size; first | exact hS0 | (rw [size4]; exact hS0) | (simp; omega) | simp | omega) hb)
  have hBa_ : wc.heap[w.heap.size]? = some (.cells #[.int .u64 a0, .int .u64 a1, .int .u64 a2, .int .u64 a3] 25 (0, 0)) := heap_keep' hb (by repeat (first | (with_reducible exact HBa.out) | (with_reducible exact set4 HBa.out _ _ _ _) | (with_reducible refine heap_new' ?_ _; simp; done) | (with_reducible refine keep4 ?_ (by omega) _ _ _ _) | (with_reducible refine heap_old ?_ _) | (with_reducible refine heap_drew ?_) | (with_reducible refine heap_set_ne ?_ (by simp <;> omega) _)))
  have hBs_ : wc.heap[wb.heap.size]? = some (.cells #[.int .u64 s0, .int .u64 s1, .int .u64 s2, .int .u64 s3] 25 (0, 0)) := heap_keep' hb (by repeat (first | (with_reducible refine heap_new' ?_ _; simp; done) | (with_reducible refine keep4 ?_ (by omega) _ _ _ _) | (with_reducible refine heap_old ?_ _) | (with_reducible refine heap_drew ?_) | (with_reducible refine heap_set_ne ?_ (by simp <;> omega) _)))
  clear hb HB HBa cBa fBa zBa
  have HB := HBn; clear HBn
  have HBa := Lib.hid hBa_; have cBa := cells4 hBa_; have fBa := frozen_of hBa_; have zBa := lt_of_heap hBa_; clear hBa_
  have HBs := Lib.hid hBs_; have cBs := cells4 hBs_; have fBs := frozen_of hBs_; have zBs := lt_of_heap hBs_; clear hBs_
  go_wp2
  refine Rg.region_ (n := 117) [0, 1, 3, 7, 15, 31, 63, 127, 255, 511, 511, 2047, 4095, 511, 16383, 32767, 65535, 131071, 131071, 524287, 1048575, 2097151] [0, 0, 0, 0, 1, 0, 0, 0, 0, 1, 1, 1, 1, 1, 0, 0, 0, 1, 1, 1, 0, 0] [23, 24, 25, 26, 27, 28, 29, 30, 31, 32, 33, 34, 35, 36, 37, 38, 39, 40, 41, 42, 43, 44] [[(5, none)], [(23, some 0)], [(24, some 1)], [(4, none), (25, some 2)], [(26, some 3), (25, some 2)], [(27, some 4), (25, some 2)], [(28, some 5), (25, some 2)], [(25, some 2), (29, some 6)], [(30, some 7)], [(4, none), (31, some 8)], [(4, none), (31, some 8)], [(32, some 9), (33, some 10), (31, some 8)], [(34, some 11), (31, some 8)], [(3, none), (31, some 8)], [(35, some 12), (36, some 13), (31, some 8)], [(31, some 8), (37, some 14)], [(38, some 15)], [(4, none), (39, some 16)], [(39, some 16)], [(40, some 17), (41, some 18), (39, some 16)], [(42, some 19), (39, some 16)], [(39, some 16), (43, some 20)]] 22 (by kernel_rfl) (by kernel_rfl) (by rfl) ?_
  intro W hW
  have hBa_ : W.heap[w.heap.size]? = some (.cells #[.int .u64 a0, .int .u64 a1, .int .u64 a2, .int .u64 a3] 25 (0, 0)) := by rw [hW]; exact (by repeat (first | (with_reducible exact HBa.out) | (with_reducible exact set4 HBa.out _ _ _ _) | (with_reducible refine heap_new' ?_ _; simp; done) | (with_reducible refine keep4 ?_ (by omega) _ _ _ _) | (with_reducible refine heap_old ?_ _) | (with_reducible refine heap_drew ?_) | (with_reducible refine heap_set_ne ?_ (by simp <;> omega) _)))
  have hBs_ : W.heap[wb.heap.size]? = some (.cells #[.int .u64 s0, .int .u64 s1, .int .u64 s2, .int .u64 s3] 25 (0, 0)) := by rw [hW]; exact (by repeat (first | (with_reducible exact HBs.out) | (with_reducible exact set4 HBs.out _ _ _ _) | (with_reducible refine heap_new' ?_ _; simp; done) | (with_reducible refine keep4 ?_ (by omega) _ _ _ _) | (with_reducible refine heap_old ?_ _) | (with_reducible refine heap_drew ?_) | (with_reducible refine heap_set_ne ?_ (by simp <;> omega) _)))
  have hBr_ : W.heap[wc.heap.size]? = some (.cells #[.int .u64 r0, .int .u64 r1, .int .u64 r2, .int .u64 r3] 25 (0, 0)) := by rw [hW]; exact (by repeat (first | (with_reducible refine heap_new' ?_ _; simp; done) | (with_reducible refine keep4 ?_ (by omega) _ _ _ _) | (with_reducible refine heap_old ?_ _) | (with_reducible refine heap_drew ?_) | (with_reducible refine heap_set_ne ?_ (by simp <;> omega) _)))
  have HB0 : Below w.heap.size w W := by rw [hW]; have hB0 := HB.out; have hS0 := hB0.size; first | exact hB0.drew | exact (set4_below hB0 (by omega) _ _ _ _).drew | go_grown
  change Rg.Chain' _ _ _ _ _ [(0, 0, 23, [(5, none)]), (1, 0, 24, [(23, some 0)]), (2, 0, 25, [(24, some 1)]), (3, 0, 26, [(4, none), (25, some 2)]), (4, 1, 27, [(26, some 3), (25, some 2)]), (5, 0, 28, [(27, some 4), (25, some 2)]), (6, 0, 29, [(28, some 5), (25, some 2)]), (7, 0, 30, [(25, some 2), (29, some 6)]), (8, 0, 31, [(30, some 7)]), (9, 1, 32, [(4, none), (31, some 8)]), (10, 1, 33, [(4, none), (31, some 8)]), (11, 1, 34, [(32, some 9), (33, some 10), (31, some 8)]), (12, 1, 35, [(34, some 11), (31, some 8)]), (13, 1, 36, [(3, none), (31, some 8)]), (14, 0, 37, [(35, some 12), (36, some 13), (31, some 8)]), (15, 0, 38, [(31, some 8), (37, some 14)]), (16, 0, 39, [(38, some 15)]), (17, 1, 40, [(4, none), (39, some 16)]), (18, 1, 41, [(39, some 16)]), (19, 1, 42, [(40, some 17), (41, some 18), (39, some 16)]), (20, 0, 43, [(42, some 19), (39, some 16)]), (21, 0, 44, [(39, some 16), (43, some 20)])] [(0, 0, 23, [(5, none)]), (1, 0, 24, [(23, some 0)]), (2, 0, 25, [(24, some 1)]), (3, 0, 26, [(4, none), (25, some 2)]), (4, 1, 27, [(26, some 3), (25, some 2)]), (5, 0, 28, [(27, some 4), (25, some 2)]), (6, 0, 29, [(28, some 5), (25, some 2)]), (7, 0, 30, [(25, some 2), (29, some 6)]), (8, 0, 31, [(30, some 7)]), (9, 1, 32, [(4, none), (31, some 8)]), (10, 1, 33, [(4, none), (31, some 8)]), (11, 1, 34, [(32, some 9), (33, some 10), (31, some 8)]), (12, 1, 35, [(34, some 11), (31, some 8)]), (13, 1, 36, [(3, none), (31, some 8)]), (14, 0, 37, [(35, some 12), (36, some 13), (31, some 8)]), (15, 0, 38, [(31, some 8), (37, some 14)]), (16, 0, 39, [(38, some 15)]), (17, 1, 40, [(4, none), (39, some 16)]), (18, 1, 41, [(39, some 16)]), (19, 1, 42, [(40, some 17), (41, some 18), (39, some 16)]), (20, 0, 43, [(42, some 19), (39, some 16)]), (21, 0, 44, [(39, some 16), (43, some 20)])] _
  apply Rg.ch_pure (by rfl)
  · rintro a w1 ⟨e5, -⟩
    conv at e5 => rhs; whnf
    have n5 := e5
    simp only [Act.eval, Array.getD_eq_getD_getElem?] at n5
    apply Rg.yields_run (Rg.wanted_none (by rfl))
    intro w2
    conv => lhs; simp [go_sem, n5, ER, E1]
  apply Rg.ch_pure (by rfl)
  · rintro a w1 ⟨e23, -⟩
    replace e23 : a.eval (.tmp 23) = _ := e23
    have n23 := e23
    simp only [Act.eval, Array.getD_eq_getD_getElem?] at n23
    apply Rg.yields_run (Rg.wanted_none (by rfl))
    intro w2
    conv => lhs; simp [go_sem, n23, ER, E1]
  apply Rg.ch_pure (by rfl)
  · rintro a w1 ⟨e24, -⟩
    replace e24 : a.eval (.tmp 24) = _ := e24
    have n24 := e24
    simp only [Act.eval, Array.getD_eq_getD_getElem?] at n24
    apply Rg.yields_run (Rg.wanted_none (by rfl))
    intro w2
    conv => lhs; simp [go_sem, n24, ER, E1]
  apply Rg.ch_pure (by rfl)
  · rintro a w1 ⟨e4, e25, -⟩
    conv at e4 => rhs; whnf
    have n4 := e4
    simp only [Act.eval, Array.getD_eq_getD_getElem?] at n4
    replace e25 : a.eval (.tmp 25) = _ := e25
    have n25 := e25
    simp only [Act.eval, Array.getD_eq_getD_getElem?] at n25
    apply Rg.yields_run (Rg.wanted_some (by rfl) (by rfl) e25)
    intro w2
    conv => lhs; simp [go_sem, n4, n25, ER, E1]
  apply Rg.ch_def (by rfl) (fun a w1 h => by obtain ⟨-, e25, -⟩ := h; exact Rg.wanted_some (by rfl) (by rfl) e25)
  · rintro a w1 hb ⟨e26, e25, -⟩
    replace e26 : a.eval (.tmp 26) = _ := e26
    have n26 := e26
    simp only [Act.eval, Array.getD_eq_getD_getElem?] at n26
    replace e25 : a.eval (.tmp 25) = _ := e25
    have n25 := e25
    simp only [Act.eval, Array.getD_eq_getD_getElem?] at n25
    apply Rg.gives_value
    · conv => lhs; simp [go_sem, n26, n25, cells4 (heap_keep' hb hBa_), cells4 (heap_keep' hb hBs_), cells4 (heap_keep' hb hBr_)]
    · exact ⟨rfl, Below.refl _ _⟩
  apply Rg.ch_pure (by rfl)
  · rintro a w1 ⟨e27, e25, -⟩
    replace e27 : a.eval (.tmp 27) = _ := e27
    have n27 := e27
    simp only [Act.eval, Array.getD_eq_getD_getElem?] at n27
    replace e25 : a.eval (.tmp 25) = _ := e25
    have n25 := e25
    simp only [Act.eval, Array.getD_eq_getD_getElem?] at n25
    apply Rg.yields_run (Rg.wanted_some (by rfl) (by rfl) e25)
    intro w2
    conv => lhs; simp [go_sem, n27, n25, ER, E1]
  apply Rg.ch_pure (by rfl)
  · rintro a w1 ⟨e28, e25, -⟩
    replace e28 : a.eval (.tmp 28) = _ := e28
    have n28 := e28
    simp only [Act.eval, Array.getD_eq_getD_getElem?] at n28
    replace e25 : a.eval (.tmp 25) = _ := e25
    have n25 := e25
    simp only [Act.eval, Array.getD_eq_getD_getElem?] at n25
    apply Rg.yields_run (Rg.wanted_some (by rfl) (by rfl) e25)
    intro w2
    conv => lhs; simp [go_sem, n28, n25, ER, E1]
  apply Rg.ch_pure (by rfl)
  · rintro a w1 ⟨e25, e29, -⟩
    replace e25 : a.eval (.tmp 25) = _ := e25
    have n25 := e25
    simp only [Act.eval, Array.getD_eq_getD_getElem?] at n25
    replace e29 : a.eval (.tmp 29) = _ := e29
    have n29 := e29
    simp only [Act.eval, Array.getD_eq_getD_getElem?] at n29
    apply Rg.yields_run (Rg.wanted_none (by rfl))
    intro w2
    conv => lhs; simp [go_sem, n25, n29, ER, E1]
  apply Rg.ch_pure (by rfl)
  · rintro a w1 ⟨e30, -⟩
    replace e30 : a.eval (.tmp 30) = _ := e30
    have n30 := e30
    simp only [Act.eval, Array.getD_eq_getD_getElem?] at n30
    apply Rg.yields_run (Rg.wanted_none (by rfl))
    intro w2
    conv => lhs; simp [go_sem, n30, ER, E1]
  apply Rg.ch_def (by rfl) (fun a w1 h => by obtain ⟨-, e31, -⟩ := h; exact Rg.wanted_some (by rfl) (by rfl) e31)
  · rintro a w1 hb ⟨e4, e31, -⟩
    conv at e4 => rhs; whnf
    have n4 := e4
    simp only [Act.eval, Array.getD_eq_getD_getElem?] at n4
    replace e31 : a.eval (.tmp 31) = _ := e31
    have n31 := e31
    simp only [Act.eval, Array.getD_eq_getD_getElem?] at n31
    apply Rg.gives_value
    · conv => lhs; simp [go_sem, n4, n31, cells4 (heap_keep' hb hBa_), cells4 (heap_keep' hb hBs_), cells4 (heap_keep' hb hBr_)]
    · exact ⟨rfl, Below.refl _ _⟩
  apply Rg.ch_def (by rfl) (fun a w1 h => by obtain ⟨-, e31, -⟩ := h; exact Rg.wanted_some (by rfl) (by rfl) e31)
  · rintro a w1 hb ⟨e4, e31, -⟩
    conv at e4 => rhs; whnf
    have n4 := e4
    simp only [Act.eval, Array.getD_eq_getD_getElem?] at n4
    replace e31 : a.eval (.tmp 31) = _ := e31
    have n31 := e31
    simp only [Act.eval, Array.getD_eq_getD_getElem?] at n31
    apply Rg.gives_value
    · conv => lhs; simp [go_sem, n4, n31, cells4 (heap_keep' hb hBa_), cells4 (heap_keep' hb hBs_), cells4 (heap_keep' hb hBr_)]
    · exact ⟨rfl, Below.refl _ _⟩
  apply Rg.ch_rel (Rg.Row W.heap.size 25 2 _) (Rg.stable_row _ _ _ _) (by rfl) (fun a w1 h => by obtain ⟨-, -, e31, -⟩ := h; exact Rg.wanted_some (by rfl) (by rfl) e31)
  · rintro a w1 hb ⟨e32, e33, e31, -⟩
    replace e32 : a.eval (.tmp 32) = _ := e32
    have n32 := e32
    simp only [Act.eval, Array.getD_eq_getD_getElem?] at n32
    replace e33 : a.eval (.tmp 33) = _ := e33
    have n33 := e33
    simp only [Act.eval, Array.getD_eq_getD_getElem?] at n33
    replace e31 : a.eval (.tmp 31) = _ := e31
    have n31 := e31
    simp only [Act.eval, Array.getD_eq_getD_getElem?] at n31
    apply Rg.gives_value
    · conv => lhs; simp [go_sem, n32, n33, n31]
    · exact ⟨⟨_, rfl, hb.size, heap_new _ _⟩, (Below.refl _ _).alloc (Nat.le_refl _) _⟩
  apply Rg.ch_def (by rfl) (fun a w1 h => by obtain ⟨-, e31, -⟩ := h; exact Rg.wanted_some (by rfl) (by rfl) e31)
  · rintro a w1 hb ⟨e34, e31, -⟩
    obtain ⟨b34, e34, g34, h34⟩ : ∃ b, a.eval (.tmp 34) = .slice (some ⟨b, 0, none⟩) 2 2 ∧ _ ≤ b ∧ w1.heap[b]? = _ := e34
    replace e31 : a.eval (.tmp 31) = _ := e31
    apply Rg.gives_enter
    · apply run_call Try.func25 (by kernel_rfl) rfl _ (by rfl)
      conv => lhs; simp only [List.map_toArray, List.map_cons, List.map_nil, eval_const_, eval_global_, e34]
    · refine (G3.out _ _ h34).mono ?_
      rintro e w2 ⟨rfl, hb2⟩
      exact ⟨_, rfl, rfl, hb2⟩
  apply Rg.ch_def (by rfl) (fun a w1 h => by obtain ⟨-, e31, -⟩ := h; exact Rg.wanted_some (by rfl) (by rfl) e31)
  · rintro a w1 hb ⟨e3, e31, -⟩
    conv at e3 => rhs; whnf
    have n3 := e3
    simp only [Act.eval, Array.getD_eq_getD_getElem?] at n3
    replace e31 : a.eval (.tmp 31) = _ := e31
    have n31 := e31
    simp only [Act.eval, Array.getD_eq_getD_getElem?] at n31
    apply Rg.gives_value
    · conv => lhs; simp [go_sem, n3, n31, cells4 (heap_keep' hb hBa_), cells4 (heap_keep' hb hBs_), cells4 (heap_keep' hb hBr_)]
    · exact ⟨rfl, Below.refl _ _⟩
  apply Rg.ch_pure (by rfl)
  · rintro a w1 ⟨e35, e36, e31, -⟩
    replace e35 : a.eval (.tmp 35) = _ := e35
    have n35 := e35
    simp only [Act.eval, Array.getD_eq_getD_getElem?] at n35
    replace e36 : a.eval (.tmp 36) = _ := e36
    have n36 := e36
    simp only [Act.eval, Array.getD_eq_getD_getElem?] at n36
    replace e31 : a.eval (.tmp 31) = _ := e31
    have n31 := e31
    simp only [Act.eval, Array.getD_eq_getD_getElem?] at n31
    apply Rg.yields_run (Rg.wanted_some (by rfl) (by rfl) e31)
    intro w2
    conv => lhs; simp [go_sem, n35, n36, n31, ER, E1]
  apply Rg.ch_pure (by rfl)
  · rintro a w1 ⟨e31, e37, -⟩
    replace e31 : a.eval (.tmp 31) = _ := e31
    have n31 := e31
    simp only [Act.eval, Array.getD_eq_getD_getElem?] at n31
    replace e37 : a.eval (.tmp 37) = _ := e37
    have n37 := e37
    simp only [Act.eval, Array.getD_eq_getD_getElem?] at n37
    apply Rg.yields_run (Rg.wanted_none (by rfl))
    intro w2
    conv => lhs; simp [go_sem, n31, n37, ER, E1]
  apply Rg.ch_pure (by rfl)
  · rintro a w1 ⟨e38, -⟩
    replace e38 : a.eval (.tmp 38) = _ := e38
    have n38 := e38
    simp only [Act.eval, Array.getD_eq_getD_getElem?] at n38
    apply Rg.yields_run (Rg.wanted_none (by rfl))
    intro w2
    conv => lhs; simp [go_sem, n38, ER, E1]
  apply Rg.ch_def (by rfl) (fun a w1 h => by obtain ⟨-, e39, -⟩ := h; exact Rg.wanted_some (by rfl) (by rfl) e39)
  · rintro a w1 hb ⟨e4, e39, -⟩
    conv at e4 => rhs; whnf
    have n4 := e4
    simp only [Act.eval, Array.getD_eq_getD_getElem?] at n4
    replace e39 : a.eval (.tmp 39) = _ := e39
    have n39 := e39
    simp only [Act.eval, Array.getD_eq_getD_getElem?] at n39
    apply Rg.gives_value
    · conv => lhs; simp [go_sem, n4, n39, cells4 (heap_keep' hb hBa_), cells4 (heap_keep' hb hBs_), cells4 (heap_keep' hb hBr_)]
    · exact ⟨rfl, Below.refl _ _⟩
  apply Rg.ch_def (by rfl) (fun a w1 h => by obtain ⟨e39, -⟩ := h; exact Rg.wanted_some (by rfl) (by rfl) e39)
  · rintro a w1 hb ⟨e39, -⟩
    replace e39 : a.eval (.tmp 39) = _ := e39
    apply Rg.gives_enter
    · exact run_call Try.func24 (by kernel_rfl) rfl #[] (by rfl) (by simp)
    · refine (G4.out _).mono ?_
      rintro e w2 ⟨rfl, hb2⟩
      exact ⟨_, rfl, rfl, hb2⟩
  apply Rg.ch_def (by rfl) (fun a w1 h => by obtain ⟨-, -, e39, -⟩ := h; exact Rg.wanted_some (by rfl) (by rfl) e39)
  · rintro a w1 hb ⟨e40, e41, e39, -⟩
    replace e40 : a.eval (.tmp 40) = _ := e40
    replace e41 : a.eval (.tmp 41) = _ := e41
    replace e39 : a.eval (.tmp 39) = _ := e39
    apply Rg.gives_enter
    · apply run_call Try.func21 (by kernel_rfl) rfl _ (by rfl)
      conv => lhs; simp only [List.map_toArray, List.map_cons, List.map_nil, eval_const_, eval_global_, e40, e41]
    · refine (G5.out _).mono ?_
      rintro e w2 ⟨rfl, hb2⟩
      exact ⟨_, rfl, rfl, hb2⟩
  apply Rg.ch_pure (by rfl)
  · rintro a w1 ⟨e42, e39, -⟩
    replace e42 : a.eval (.tmp 42) = _ := e42
    have n42 := e42
    simp only [Act.eval, Array.getD_eq_getD_getElem?] at n42
    replace e39 : a.eval (.tmp 39) = _ := e39
    have n39 := e39
    simp only [Act.eval, Array.getD_eq_getD_getElem?] at n39
    apply Rg.yields_run (Rg.wanted_some (by rfl) (by rfl) e39)
    intro w2
    conv => lhs; simp [go_sem, n42, n39, ER, E1]
  apply Rg.ch_pure (by rfl)
  · rintro a w1 ⟨e39, e43, -⟩
    replace e39 : a.eval (.tmp 39) = _ := e39
    have n39 := e39
    simp only [Act.eval, Array.getD_eq_getD_getElem?] at n39
    replace e43 : a.eval (.tmp 43) = _ := e43
    have n43 := e43
    simp only [Act.eval, Array.getD_eq_getD_getElem?] at n43
    apply Rg.yields_run (Rg.wanted_none (by rfl))
    intro w2
    conv => lhs; simp [go_sem, n39, n43, ER, E1]
  intro w1 hb1
  rintro _ rfl _ rfl _ rfl _ rfl _ rfl _ rfl _ rfl _ rfl _ rfl _ rfl _ rfl v34 ⟨b34, rfl, ge34, hh34⟩ _ rfl _ rfl _ rfl _ rfl _ rfl _ rfl _ rfl _ rfl _ rfl _ rfl
  change Go.wpList _ _ _ _ _ _
  set_option maxRecDepth 100000 in simp only [List.drop_succ_cons, List.drop_zero, List.drop_nil, Act.put, List.setIfInBounds_toArray, List.set_cons_succ, List.set_cons_zero]
  change Go.NoPanic _ _ _ _
  refine NoPanic.normal ?_
  have HBn : Hid (Below w.heap.size w w1) := Lib.hid (below_call HB0 HB0.size hb1)
  have hBa__ := heap_keep' hb1 hBa_
  have hBs__ := heap_keep' hb1 hBs_
  have hBr__ := heap_keep' hb1 hBr_
  clear hb1 HB0 HB hBa_ HBa cBa fBa zBa hBs_ HBs cBs fBs zBs hBr_
  clear hW
  obtain ⟨wd, rfl⟩ : ∃ x : World, x = w1 := ⟨_, rfl⟩
  have HB := HBn; clear HBn
  have HBa := Lib.hid hBa__; have cBa := cells4 hBa__; have fBa := frozen_of hBa__; have zBa := lt_of_heap hBa__; clear hBa__
  have HBs := Lib.hid hBs__; have cBs := cells4 hBs__; have fBs := frozen_of hBs__; have zBs := lt_of_heap hBs__; clear hBs__
  have HBr := Lib.hid hBr__; have cBr := cells4 hBr__; have fBr := frozen_of hBr__; have zBr := lt_of_heap hBr__; clear hBr__
  go_wp2_with (fail)
  go_at_call 23
  refine (G6.out _ _ (heap_new' (by simp) _)).mono ?_
  rintro e we ⟨rfl, hb⟩
  have HBn : Hid (Below w.heap.size w we) := Lib.hid (below_call (by have hB0 := HB.out; have hS0 := hB0.size; first | exact hB0 | exact set4_below hB0 (by omega) _ _ _ _ | go_grown) (by have hB0 := HB.out; have hS0 := hB0.size; first | exact hS0 | (rw [size4]; exact hS0) | (simp; omega) | simp | omega) hb)
  have hBa_ : we.heap[w.heap.size]? = some (.cells #[.int .u64 a0, .int .u64 a1, .int .u64 a2, .int .u64 a3] 25 (0, 0)) := heap_keep' hb (by repeat (first | (with_reducible exact HBa.out) | (with_reducible exact set4 HBa.out _ _ _ _) | (with_reducible refine heap_new' ?_ _; simp; done) | (with_reducible refine keep4 ?_ (by omega) _ _ _ _) | (with_reducible refine heap_old ?_ _) | (with_reducible refine heap_drew ?_) | (with_reducible refine heap_set_ne ?_ (by simp <;> omega) _)))
  have hBs_ : we.heap[wb.heap.size]? = some (.cells #[.int .u64 s0, .int .u64 s1, .int .u64 s2, .int .u64 s3] 25 (0, 0)) := heap_keep' hb (by repeat (first | (with_reducible exact HBs.out) | (with_reducible exact set4 HBs.out _ _ _ _) | (with_reducible refine heap_new' ?_ _; simp; done) | (with_reducible refine keep4 ?_ (by omega) _ _ _ _) | (with_reducible refine heap_old ?_ _) | (with_reducible refine heap_drew ?_) | (with_reducible refine heap_set_ne ?_ (by simp <;> omega) _)))
  have hBr_ : we.heap[wc.heap.size]? = some (.cells #[.int .u64 r0, .int .u64 r1, .int .u64 r2, .int .u64 r3] 25 (0, 0)) := heap_keep' hb (by repeat (first | (with_reducible exact HBr.out) | (with_reducible exact set4 HBr.out _ _ _ _) | (with_reducible refine heap_new' ?_ _; simp; done) | (with_reducible refine keep4 ?_ (by omega) _ _ _ _) | (with_reducible refine heap_old ?_ _) | (with_reducible refine heap_drew ?_) | (with_reducible refine heap_set_ne ?_ (by simp <;> omega) _)))
  clear hb HB HBa cBa fBa zBa HBs cBs fBs zBs HBr cBr fBr zBr
  have HB := HBn; clear HBn
  have HBa := Lib.hid hBa_; have cBa := cells4 hBa_; have fBa := frozen_of hBa_; have zBa := lt_of_heap hBa_; clear hBa_
  have HBs := Lib.hid hBs_; have cBs := cells4 hBs_; have fBs := frozen_of hBs_; have zBs := lt_of_heap hBs_; clear hBs_
  have HBr := Lib.hid hBr_; have cBr := cells4 hBr_; have fBr := frozen_of hBr_; have zBr := lt_of_heap hBr_; clear hBr_
  have kz1 := zBa; have kz2 := zBs; have kz3 := zBr
  go_wp2_with (fail)
  go_at_call 36
  refine (G8.out _).mono ?_
  rintro e wg ⟨rfl, hb⟩
  have HBn : Hid (Below w.heap.size w wg) := Lib.hid (below_call (by have hB0 := HB.out; have hS0 := hB0.size; first | exact hB0 | exact set4_below hB0 (by omega) _ _ _ _ | go_grown) (by have hB0 := HB.out; have hS0 := hB0.size; first | exact hS0 | (rw [size4]; exact hS0) | (simp; omega) | simp | omega) hb)
  have hBa_ : wg.heap[w.heap.size]? = some (.cells #[.int .u64 a0, .int .u64 a1, .int .u64 a2, .int .u64 a3] 25 (0, 0)) := heap_keep' hb (by repeat (first | (with_reducible exact HBa.out) | (with_reducible exact set4 HBa.out _ _ _ _) | (with_reducible refine heap_new' ?_ _; simp; done) | (with_reducible refine keep4 ?_ (by omega) _ _ _ _) | (with_reducible refine heap_old ?_ _) | (with_reducible refine heap_drew ?_) | (with_reducible refine heap_set_ne ?_ (by simp <;> omega) _)))
  have hBs_ : wg.heap[wb.heap.size]? = some (.cells #[.int .u64 s0, .int .u64 s1, .int .u64 s2, .int .u64 s3] 25 (0, 0)) := heap_keep' hb (by repeat (first | (with_reducible exact HBs.out) | (with_reducible exact set4 HBs.out _ _ _ _) | (with_reducible refine heap_new' ?_ _; simp; done) | (with_reducible refine keep4 ?_ (by omega) _ _ _ _) | (with_reducible refine heap_old ?_ _) | (with_reducible refine heap_drew ?_) | (with_reducible refine heap_set_ne ?_ (by simp <;> omega) _)))
  have hBr_ : wg.heap[wc.heap.size]? = some (.cells #[.int .u64 r0, .int .u64 r1, .int .u64 r2, .int .u64 r3] 25 (0, 0)) := heap_keep' hb (by repeat (first | (with_reducible exact HBr.out) | (with_reducible exact set4 HBr.out _ _ _ _) | (with_reducible refine heap_new' ?_ _; simp; done) | (with_reducible refine keep4 ?_ (by omega) _ _ _ _) | (with_reducible refine heap_old ?_ _) | (with_reducible refine heap_drew ?_) | (with_reducible refine heap_set_ne ?_ (by simp <;> omega) _)))
  have hBx_ : wg.heap[we.heap.size]? = some (.cells #[.int .u64 x0, .int .u64 x1, .int .u64 x2, .int .u64 x3] 25 (0, 0)) := heap_keep' hb (by repeat (first | (with_reducible refine heap_new' ?_ _; simp; done) | (with_reducible refine keep4 ?_ (by omega) _ _ _ _) | (with_reducible refine heap_old ?_ _) | (with_reducible refine heap_drew ?_) | (with_reducible refine heap_set_ne ?_ (by simp <;> omega) _)))
  clear hb HB HBa cBa fBa zBa HBs cBs fBs zBs HBr cBr fBr zBr
  have HB := HBn; clear HBn
  have HBa := Lib.hid hBa_; have cBa := cells4 hBa_; have fBa := frozen_of hBa_; have zBa := lt_of_heap hBa_; clear hBa_
  have HBs := Lib.hid hBs_; have cBs := cells4 hBs_; have fBs := frozen_of hBs_; have zBs := lt_of_heap hBs_; clear hBs_
  have HBr := Lib.hid hBr_; have cBr := cells4 hBr_; have fBr := frozen_of hBr_; have zBr := lt_of_heap hBr_; clear hBr_
  have HBx := Lib.hid hBx_; have cBx := cells4 hBx_; have fBx := frozen_of hBx_; have zBx := lt_of_heap hBx_; clear hBx_
  go_wp2_with (fail)
  go_at_call 24
  refine (G4.out _).mono ?_
  rintro e wh ⟨rfl, hb⟩
  have HBn : Hid (Below w.heap.size w wh) := Lib.hid (below_call (by have hB0 := HB.out; have hS0 := hB0.size; first | exact hB0 | exact set4_below hB0 (by omega) _ _ _ _ | go_grown) (by have hB0 := HB.out; have hS0 := hB0.size; first | exact hS0 | (rw [size4]; exact hS0) | (simp; omega) | simp | omega) hb)
  have hBa_ : wh.heap[w.heap.size]? = some (.cells #[.int .u64 a0, .int .u64 a1, .int .u64 a2, .int .u64 a3] 25 (0, 0)) := heap_keep' hb (by repeat (first | (with_reducible exact HBa.out) | (with_reducible exact set4 HBa.out _ _ _ _) | (with_reducible refine heap_new' ?_ _; simp; done) | (with_reducible refine keep4 ?_ (by omega) _ _ _ _) | (with_reducible refine heap_old ?_ _) | (with_reducible refine heap_drew ?_) | (with_reducible refine heap_set_ne ?_ (by simp <;> omega) _)))
  have hBs_ : wh.heap[wb.heap.size]? = some (.cells #[.int .u64 s0, .int .u64 s1, .int .u64 s2, .int .u64 s3] 25 (0, 0)) := heap_keep' hb (by repeat (first | (with_reducible exact HBs.out) | (with_reducible exact set4 HBs.out _ _ _ _) | (with_reducible refine heap_new' ?_ _; simp; done) | (with_reducible refine keep4 ?_ (by omega) _ _ _ _) | (with_reducible refine heap_old ?_ _) | (with_reducible refine heap_drew ?_) | (with_reducible refine heap_set_ne ?_ (by simp <;> omega) _)))
  have hBr_ : wh.heap[wc.heap.size]? = some (.cells #[.int .u64 r0, .int .u64 r1, .int .u64 r2, .int .u64 r3] 25 (0, 0)) := heap_keep' hb (by repeat (first | (with_reducible exact HBr.out) | (with_reducible exact set4 HBr.out _ _ _ _) | (with_reducible refine heap_new' ?_ _; simp; done) | (with_reducible refine keep4 ?_ (by omega) _ _ _ _) | (with_reducible refine heap_old ?_ _) | (with_reducible refine heap_drew ?_) | (with_reducible refine heap_set_ne ?_ (by simp <;> omega) _)))
  have hBx_ : wh.heap[we.heap.size]? = some (.cells #[.int .u64 x0, .int .u64 x1, .int .u64 x2, .int .u64 x3] 25 (0, 0)) := heap_keep' hb (by repeat (first | (with_reducible exact HBx.out) | (with_reducible exact set4 HBx.out _ _ _ _) | (with_reducible refine heap_new' ?_ _; simp; done) | (with_reducible refine keep4 ?_ (by omega) _ _ _ _) | (with_reducible refine heap_old ?_ _) | (with_reducible refine heap_drew ?_) | (with_reducible refine heap_set_ne ?_ (by simp <;> omega) _)))
  have hBq_ : wh.heap[wg.heap.size]? = some (.cells #[.int .u64 q0, .int .u64 q1, .int .u64 q2, .int .u64 q3] 25 (0, 0)) := heap_keep' hb (by repeat (first | (with_reducible refine heap_new' ?_ _; simp; done) | (with_reducible refine keep4 ?_ (by omega) _ _ _ _) | (with_reducible refine heap_old ?_ _) | (with_reducible refine heap_drew ?_) | (with_reducible refine heap_set_ne ?_ (by simp <;> omega) _)))
  clear hb HB HBa cBa fBa zBa HBs cBs fBs zBs HBr cBr fBr zBr HBx cBx fBx zBx
  have HB := HBn; clear HBn
  have HBa := Lib.hid hBa_; have cBa := cells4 hBa_; have fBa := frozen_of hBa_; have zBa := lt_of_heap hBa_; clear hBa_
  have HBs := Lib.hid hBs_; have cBs := cells4 hBs_; have fBs := frozen_of hBs_; have zBs := lt_of_heap hBs_; clear hBs_
  have HBr := Lib.hid hBr_; have cBr := cells4 hBr_; have fBr := frozen_of hBr_; have zBr := lt_of_heap hBr_; clear hBr_
  have HBx := Lib.hid hBx_; have cBx := cells4 hBx_; have fBx := frozen_of hBx_; have zBx := lt_of_heap hBx_; clear hBx_
  have HBq := Lib.hid hBq_; have cBq := cells4 hBq_; have fBq := frozen_of hBq_; have zBq := lt_of_heap hBq_; clear hBq_
  go_wp2
  refine wp_loop_rounds 5 ?_
  rw [rounds_succ]
  go_wp2
  rw [rounds_succ]
  go_wp2
  rw [rounds_succ]
  go_wp2
  rw [rounds_succ]
  go_wp2
  rw [rounds_succ]
  go_wp2_with (fail)
  go_at_call 23
  refine (G6.out _ _ (heap_new' (by simp) _)).mono ?_
  rintro e wi ⟨rfl, hb⟩
  have HBn : Hid (Below w.heap.size w wi) := Lib.hid (below_call (by have hB0 := HB.out; have hS0 := hB0.size; first | exact hB0 | exact set4_below hB0 (by omega) _ _ _ _ | go_grown) (by have hB0 := HB.out; have hS0 := hB0.size; first | exact hS0 | (rw [size4]; exact hS0) | (simp; omega) | simp | omega) hb)
  have hBa_ : wi.heap[w.heap.size]? = some (.cells #[.int .u64 a0, .int .u64 a1, .int .u64 a2, .int .u64 a3] 25 (0, 0)) := heap_keep' hb (by repeat (first | (with_reducible exact HBa.out) | (with_reducible exact set4 HBa.out _ _ _ _) | (with_reducible refine heap_new' ?_ _; simp; done) | (with_reducible refine keep4 ?_ (by omega) _ _ _ _) | (with_reducible refine heap_old ?_ _) | (with_reducible refine heap_drew ?_) | (with_reducible refine heap_set_ne ?_ (by simp <;> omega) _)))
  have hBs_ : wi.heap[wb.heap.size]? = some (.cells #[.int .u64 s0, .int .u64 s1, .int .u64 s2, .int .u64 s3] 25 (0, 0)) := heap_keep' hb (by repeat (first | (with_reducible exact HBs.out) | (with_reducible exact set4 HBs.out _ _ _ _) | (with_reducible refine heap_new' ?_ _; simp; done) | (with_reducible refine keep4 ?_ (by omega) _ _ _ _) | (with_reducible refine heap_old ?_ _) | (with_reducible refine heap_drew ?_) | (with_reducible refine heap_set_ne ?_ (by simp <;> omega) _)))
  have hBr_ : wi.heap[wc.heap.size]? = some (.cells #[.int .u64 r0, .int .u64 r1, .int .u64 r2, .int .u64 r3] 25 (0, 0)) := heap_keep' hb (by repeat (first | (with_reducible exact HBr.out) | (with_reducible exact set4 HBr.out _ _ _ _) | (with_reducible refine heap_new' ?_ _; simp; done) | (with_reducible refine keep4 ?_ (by omega) _ _ _ _) | (with_reducible refine heap_old ?_ _) | (with_reducible refine heap_drew ?_) | (with_reducible refine heap_set_ne ?_ (by simp <;> omega) _)))
  have hBx_ : wi.heap[we.heap.size]? = some (.cells #[.int .u64 x0, .int .u64 x1, .int .u64 x2, .int .u64 x3] 25 (0, 0)) := heap_keep' hb (by repeat (first | (with_reducible exact HBx.out) | (with_reducible exact set4 HBx.out _ _ _ _) | (with_reducible refine heap_new' ?_ _; simp; done) | (with_reducible refine keep4 ?_ (by omega) _ _ _ _) | (with_reducible refine heap_old ?_ _) | (with_reducible refine heap_drew ?_) | (with_reducible refine heap_set_ne ?_ (by simp <;> omega) _)))
  have hBq_ : wi.heap[wg.heap.size]? = some (.cells #[.int .u64 q0, .int .u64 q1, .int .u64 q2, .int .u64 q3] 25 (0, 0)) := heap_keep' hb (by repeat (first | (with_reducible exact HBq.out) | (with_reducible exact set4 HBq.out _ _ _ _) | (with_reducible refine heap_new' ?_ _; simp; done) | (with_reducible refine keep4 ?_ (by omega) _ _ _ _) | (with_reducible refine heap_old ?_ _) | (with_reducible refine heap_drew ?_) | (with_reducible refine heap_set_ne ?_ (by simp <;> omega) _)))
  have hBh_ : wi.heap[wh.heap.size]? = some (.cells #[.int .u64 18446744073709551606, .int .u64 18446744073709551615, .int .u64 18446744073709551615, .int .u64 4611686018427387903] 25 (0, 0)) := heap_keep' hb (by repeat (first | (with_reducible refine heap_new' ?_ _; simp; done) | (with_reducible refine keep4 ?_ (by omega) _ _ _ _) | (with_reducible refine heap_old ?_ _) | (with_reducible refine heap_drew ?_) | (with_reducible refine heap_set_ne ?_ (by simp <;> omega) _)))
  clear hb HB HBa cBa fBa zBa HBs cBs fBs zBs HBr cBr fBr zBr HBx cBx fBx zBx HBq cBq fBq zBq
  have HB := HBn; clear HBn
  have HBa := Lib.hid hBa_; have cBa := cells4 hBa_; have fBa := frozen_of hBa_; have zBa := lt_of_heap hBa_; clear hBa_
  have HBs := Lib.hid hBs_; have cBs := cells4 hBs_; have fBs := frozen_of hBs_; have zBs := lt_of_heap hBs_; clear hBs_
  have HBr := Lib.hid hBr_; have cBr := cells4 hBr_; have fBr := frozen_of hBr_; have zBr := lt_of_heap hBr_; clear hBr_
  have HBx := Lib.hid hBx_; have cBx := cells4 hBx_; have fBx := frozen_of hBx_; have zBx := lt_of_heap hBx_; clear hBx_
  have HBq := Lib.hid hBq_; have cBq := cells4 hBq_; have fBq := frozen_of hBq_; have zBq := lt_of_heap hBq_; clear hBq_
  have HBh := Lib.hid hBh_; have cBh := cells4 hBh_; have fBh := frozen_of hBh_; have zBh := lt_of_heap hBh_; clear hBh_
  go_wp2_with (fail)
  go_at_call 15
  refine (G9.out _).mono ?_
  rintro e wj ⟨rfl, hb⟩
  have HBn : Hid (Below w.heap.size w wj) := Lib.hid (below_call (by have hB0 := HB.out; have hS0 := hB0.size; first | exact hB0 | exact set4_below hB0 (by omega) _ _ _ _ | go_grown) (by have hB0 := HB.out; have hS0 := hB0.size; first | exact hS0 | (rw [size4]; exact hS0) | (simp; omega) | simp | omega) hb)
  have hBa_ : wj.heap[w.heap.size]? = some (.cells #[.int .u64 a0, .int .u64 a1, .int .u64 a2, .int .u64 a3] 25 (0, 0)) := heap_keep' hb (by repeat (first | (with_reducible exact HBa.out) | (with_reducible exact set4 HBa.out _ _ _ _) | (with_reducible refine heap_new' ?_ _; simp; done) | (with_reducible refine keep4 ?_ (by omega) _ _ _ _) | (with_reducible refine heap_old ?_ _) | (with_reducible refine heap_drew ?_) | (with_reducible refine heap_set_ne ?_ (by simp <;> omega) _)))
  have hBs_ : wj.heap[wb.heap.size]? = some (.cells #[.int .u64 s0, .int .u64 s1, .int .u64 s2, .int .u64 s3] 25 (0, 0)) := heap_keep' hb (by repeat (first | (with_reducible exact HBs.out) | (with_reducible exact set4 HBs.out _ _ _ _) | (with_reducible refine heap_new' ?_ _; simp; done) | (with_reducible refine keep4 ?_ (by omega) _ _ _ _) | (with_reducible refine heap_old ?_ _) | (with_reducible refine heap_drew ?_) | (with_reducible refine heap_set_ne ?_ (by simp <;> omega) _)))
  have hBr_ : wj.heap[wc.heap.size]? = some (.cells #[.int .u64 r0, .int .u64 r1, .int .u64 r2, .int .u64 r3] 25 (0, 0)) := heap_keep' hb (by repeat (first | (with_reducible exact HBr.out) | (with_reducible exact set4 HBr.out _ _ _ _) | (with_reducible refine heap_new' ?_ _; simp; done) | (with_reducible refine keep4 ?_ (by omega) _ _ _ _) | (with_reducible refine heap_old ?_ _) | (with_reducible refine heap_drew ?_) | (with_reducible refine heap_set_ne ?_ (by simp <;> omega) _)))
  have hBx_ : wj.heap[we.heap.size]? = some (.cells #[.int .u64 x0, .int .u64 x1, .int .u64 x2, .int .u64 x3] 25 (0, 0)) := heap_keep' hb (by repeat (first | (with_reducible exact HBx.out) | (with_reducible exact set4 HBx.out _ _ _ _) | (with_reducible refine heap_new' ?_ _; simp; done) | (with_reducible refine keep4 ?_ (by omega) _ _ _ _) | (with_reducible refine heap_old ?_ _) | (with_reducible refine heap_drew ?_) | (with_reducible refine heap_set_ne ?_ (by simp <;> omega) _)))
  have hBq_ : wj.heap[wg.heap.size]? = some (.cells #[.int .u64 q0, .int .u64 q1, .int .u64 q2, .int .u64 q3] 25 (0, 0)) := heap_keep' hb (by repeat (first | (with_reducible exact HBq.out) | (with_reducible exact set4 HBq.out _ _ _ _) | (with_reducible refine heap_new' ?_ _; simp; done) | (with_reducible refine keep4 ?_ (by omega) _ _ _ _) | (with_reducible refine heap_old ?_ _) | (with_reducible refine heap_drew ?_) | (with_reducible refine heap_set_ne ?_ (by simp <;> omega) _)))
  have hBh_ : wj.heap[wh.heap.size]? = some (.cells #[.int .u64 18446744073709551606, .int .u64 18446744073709551615, .int .u64 18446744073709551615, .int .u64 4611686018427387903] 25 (0, 0)) := heap_keep' hb (by repeat (first | (with_reducible exact HBh.out) | (with_reducible exact set4 HBh.out _ _ _ _) | (with_reducible refine heap_new' ?_ _; simp; done) | (with_reducible refine keep4 ?_ (by omega) _ _ _ _) | (with_reducible refine heap_old ?_ _) | (with_reducible refine heap_drew ?_) | (with_reducible refine heap_set_ne ?_ (by simp <;> omega) _)))
  clear hb HB HBa cBa fBa zBa HBs cBs fBs zBs HBr cBr fBr zBr HBx cBx fBx zBx HBq cBq fBq zBq HBh cBh fBh zBh
  have HB := HBn; clear HBn
  have HBa := Lib.hid hBa_; have cBa := cells4 hBa_; have fBa := frozen_of hBa_; have zBa := lt_of_heap hBa_; clear hBa_
  have HBs := Lib.hid hBs_; have cBs := cells4 hBs_; have fBs := frozen_of hBs_; have zBs := lt_of_heap hBs_; clear hBs_
  have HBr := Lib.hid hBr_; have cBr := cells4 hBr_; have fBr := frozen_of hBr_; have zBr := lt_of_heap hBr_; clear hBr_
  have HBx := Lib.hid hBx_; have cBx := cells4 hBx_; have fBx := frozen_of hBx_; have zBx := lt_of_heap hBx_; clear hBx_
  have HBq := Lib.hid hBq_; have cBq := cells4 hBq_; have fBq := frozen_of hBq_; have zBq := lt_of_heap hBq_; clear hBq_
  have HBh := Lib.hid hBh_; have cBh := cells4 hBh_; have fBh := frozen_of hBh_; have zBh := lt_of_heap hBh_; clear hBh_
  go_wp2
  refine Rg.region_ (n := 117) [0, 0, 3, 7, 15, 15, 63, 127, 255, 511, 1023, 2047, 4095, 8191, 16383, 32767, 65535, 131071, 262143, 262143, 1048575, 2097151, 262143, 4456447, 16777215, 33554431, 67108863, 134217727, 268435455, 536870911] [1, 1, 0, 0, 0, 0, 0, 0, 0, 0, 0, 0, 0, 0, 0, 0, 0, 0, 1, 1, 1, 1, 1, 1, 1, 0, 0, 0, 0, 0] [88, 89, 90, 91, 92, 93, 94, 95, 96, 97, 98, 99, 100, 101, 102, 103, 104, 105, 106, 107, 108, 109, 110, 111, 112, 113, 114, 115, 116, 2] [[(4, none)], [(6, none)], [(88, some 0), (89, some 1)], [(90, some 2)], [(8, none), (91, some 3)], [(11, none), (91, some 3)], [(92, some 4), (93, some 5), (91, some 3)], [(91, some 3), (94, some 6)], [(95, some 7)], [(8, none), (96, some 8)], [(97, some 9), (96, some 8)], [(98, some 10), (96, some 8)], [(7, none), (99, some 11)], [(100, some 12), (99, some 11)], [(99, some 11), (101, some 13), (96, some 8)], [(102, some 14), (96, some 8)], [(8, none), (103, some 15)], [(104, some 16), (103, some 15)], [(7, none), (105, some 17)], [(7, none), (105, some 17)], [(106, some 18), (107, some 19), (105, some 17)], [(108, some 20), (105, some 17)], [(1, none), (105, some 17)], [(110, some 22), (105, some 17)], [(111, some 23), (105, some 17)], [(109, some 21), (112, some 24), (105, some 17)], [(105, some 17), (113, some 25), (103, some 15)], [(103, some 15), (114, some 26), (96, some 8)], [(96, some 8), (115, some 27)], [(116, some 28)]] 30 (by kernel_rfl) (by kernel_rfl) (by rfl) ?_
  intro W hW
  have hBa_ : W.heap[w.heap.size]? = some (.cells #[.int .u64 a0, .int .u64 a1, .int .u64 a2, .int .u64 a3] 25 (0, 0)) := by rw [hW]; exact (by repeat (first | (with_reducible exact HBa.out) | (with_reducible exact set4 HBa.out _ _ _ _) | (with_reducible refine heap_new' ?_ _; simp; done) | (with_reducible refine keep4 ?_ (by omega) _ _ _ _) | (with_reducible refine heap_old ?_ _) | (with_reducible refine heap_drew ?_) | (with_reducible refine heap_set_ne ?_ (by simp <;> omega) _)))
  have hBs_ : W.heap[wb.heap.size]? = some (.cells #[.int .u64 s0, .int .u64 s1, .int .u64 s2, .int .u64 s3] 25 (0, 0)) := by rw [hW]; exact (by repeat (first | (with_reducible exact HBs.out) | (with_reducible exact set4 HBs.out _ _ _ _) | (with_reducible refine heap_new' ?_ _; simp; done) | (with_reducible refine keep4 ?_ (by omega) _ _ _ _) | (with_reducible refine heap_old ?_ _) | (with_reducible refine heap_drew ?_) | (with_reducible refine heap_set_ne ?_ (by simp <;> omega) _)))
  have hBr_ : W.heap[wc.heap.size]? = some (.cells #[.int .u64 r0, .int .u64 r1, .int .u64 r2, .int .u64 r3] 25 (0, 0)) := by rw [hW]; exact (by repeat (first | (with_reducible exact HBr.out) | (with_reducible exact set4 HBr.out _ _ _ _) | (with_reducible refine heap_new' ?_ _; simp; done) | (with_reducible refine keep4 ?_ (by omega) _ _ _ _) | (with_reducible refine heap_old ?_ _) | (with_reducible refine heap_drew ?_) | (with_reducible refine heap_set_ne ?_ (by simp <;> omega) _)))
  have hBx_ : W.heap[we.heap.size]? = some (.cells #[.int .u64 x0, .int .u64 x1, .int .u64 x2, .int .u64 x3] 25 (0, 0)) := by rw [hW]; exact (by repeat (first | (with_reducible exact HBx.out) | (with_reducible exact set4 HBx.out _ _ _ _) | (with_reducible refine heap_new' ?_ _; simp; done) | (with_reducible refine keep4 ?_ (by omega) _ _ _ _) | (with_reducible refine heap_old ?_ _) | (with_reducible refine heap_drew ?_) | (with_reducible refine heap_set_ne ?_ (by simp <;> omega) _)))
  have hBq_ : W.heap[wg.heap.size]? = some (.cells #[.int .u64 q0, .int .u64 q1, .int .u64 q2, .int .u64 q3] 25 (0, 0)) := by rw [hW]; exact (by repeat (first | (with_reducible exact HBq.out) | (with_reducible exact set4 HBq.out _ _ _ _) | (with_reducible refine heap_new' ?_ _; simp; done) | (with_reducible refine keep4 ?_ (by omega) _ _ _ _) | (with_reducible refine heap_old ?_ _) | (with_reducible refine heap_drew ?_) | (with_reducible refine heap_set_ne ?_ (by simp <;> omega) _)))
  have hBh_ : W.heap[wh.heap.size]? = some (.cells #[.int .u64 18446744073709551606, .int .u64 18446744073709551615, .int .u64 18446744073709551615, .int .u64 4611686018427387903] 25 (0, 0)) := by rw [hW]; exact (by repeat (first | (with_reducible exact HBh.out) | (with_reducible exact set4 HBh.out _ _ _ _) | (with_reducible refine heap_new' ?_ _; simp; done) | (with_reducible refine keep4 ?_ (by omega) _ _ _ _) | (with_reducible refine heap_old ?_ _) | (with_reducible refine heap_drew ?_) | (with_reducible refine heap_set_ne ?_ (by simp <;> omega) _)))
  have HB0 : Below w.heap.size w W := by rw [hW]; have hB0 := HB.out; have hS0 := hB0.size; first | exact hB0.drew | exact (set4_below hB0 (by omega) _ _ _ _).drew | go_grown
  change Rg.Chain' _ _ _ _ _ [(0, 1, 88, [(4, none)]), (1, 1, 89, [(6, none)]), (2, 0, 90, [(88, some 0), (89, some 1)]), (3, 0, 91, [(90, some 2)]), (4, 0, 92, [(8, none), (91, some 3)]), (5, 0, 93, [(11, none), (91, some 3)]), (6, 0, 94, [(92, some 4), (93, some 5), (91, some 3)]), (7, 0, 95, [(91, some 3), (94, some 6)]), (8, 0, 96, [(95, some 7)]), (9, 0, 97, [(8, none), (96, some 8)]), (10, 0, 98, [(97, some 9), (96, some 8)]), (11, 0, 99, [(98, some 10), (96, some 8)]), (12, 0, 100, [(7, none), (99, some 11)]), (13, 0, 101, [(100, some 12), (99, some 11)]), (14, 0, 102, [(99, some 11), (101, some 13), (96, some 8)]), (15, 0, 103, [(102, some 14), (96, some 8)]), (16, 0, 104, [(8, none), (103, some 15)]), (17, 0, 105, [(104, some 16), (103, some 15)]), (18, 1, 106, [(7, none), (105, some 17)]), (19, 1, 107, [(7, none), (105, some 17)]), (20, 1, 108, [(106, some 18), (107, some 19), (105, some 17)]), (21, 1, 109, [(108, some 20), (105, some 17)]), (22, 1, 110, [(1, none), (105, some 17)]), (23, 1, 111, [(110, some 22), (105, some 17)]), (24, 1, 112, [(111, some 23), (105, some 17)]), (25, 0, 113, [(109, some 21), (112, some 24), (105, some 17)]), (26, 0, 114, [(105, some 17), (113, some 25), (103, some 15)]), (27, 0, 115, [(103, some 15), (114, some 26), (96, some 8)]), (28, 0, 116, [(96, some 8), (115, some 27)]), (29, 0, 2, [(116, some 28)])] [(0, 1, 88, [(4, none)]), (1, 1, 89, [(6, none)]), (2, 0, 90, [(88, some 0), (89, some 1)]), (3, 0, 91, [(90, some 2)]), (4, 0, 92, [(8, none), (91, some 3)]), (5, 0, 93, [(11, none), (91, some 3)]), (6, 0, 94, [(92, some 4), (93, some 5), (91, some 3)]), (7, 0, 95, [(91, some 3), (94, some 6)]), (8, 0, 96, [(95, some 7)]), (9, 0, 97, [(8, none), (96, some 8)]), (10, 0, 98, [(97, some 9), (96, some 8)]), (11, 0, 99, [(98, some 10), (96, some 8)]), (12, 0, 100, [(7, none), (99, some 11)]), (13, 0, 101, [(100, some 12), (99, some 11)]), (14, 0, 102, [(99, some 11), (101, some 13), (96, some 8)]), (15, 0, 103, [(102, some 14), (96, some 8)]), (16, 0, 104, [(8, none), (103, some 15)]), (17, 0, 105, [(104, some 16), (103, some 15)]), (18, 1, 106, [(7, none), (105, some 17)]), (19, 1, 107, [(7, none), (105, some 17)]), (20, 1, 108, [(106, some 18), (107, some 19), (105, some 17)]), (21, 1, 109, [(108, some 20), (105, some 17)]), (22, 1, 110, [(1, none), (105, some 17)]), (23, 1, 111, [(110, some 22), (105, some 17)]), (24, 1, 112, [(111, some 23), (105, some 17)]), (25, 0, 113, [(109, some 21), (112, some 24), (105, some 17)]), (26, 0, 114, [(105, some 17), (113, some 25), (103, some 15)]), (27, 0, 115, [(103, some 15), (114, some 26), (96, some 8)]), (28, 0, 116, [(96, some 8), (115, some 27)]), (29, 0, 2, [(116, some 28)])] _
  apply Rg.ch_def (by rfl) (fun a w1 _ => Rg.wanted_none (by rfl))
  · rintro a w1 hb ⟨e4, -⟩
    conv at e4 => rhs; whnf
    have n4 := e4
    simp only [Act.eval, Array.getD_eq_getD_getElem?] at n4
    apply Rg.gives_value
    · conv => lhs; simp [go_sem, n4, cells4 (heap_keep' hb hBa_), cells4 (heap_keep' hb hBs_), cells4 (heap_keep' hb hBr_), cells4 (heap_keep' hb hBx_), cells4 (heap_keep' hb hBq_), cells4 (heap_keep' hb hBh_)]
    · exact ⟨rfl, Below.refl _ _⟩
  apply Rg.ch_def (by rfl) (fun a w1 _ => Rg.wanted_none (by rfl))
  · rintro a w1 hb ⟨e6, -⟩
    conv at e6 => rhs; whnf
    have n6 := e6
    simp only [Act.eval, Array.getD_eq_getD_getElem?] at n6
    apply Rg.gives_value
    · conv => lhs; simp [go_sem, n6, cells4 (heap_keep' hb hBa_), cells4 (heap_keep' hb hBs_), cells4 (heap_keep' hb hBr_), cells4 (heap_keep' hb hBx_), cells4 (heap_keep' hb hBq_), cells4 (heap_keep' hb hBh_)]
    · exact ⟨rfl, Below.refl _ _⟩
  apply Rg.ch_pure (by rfl)
  · rintro a w1 ⟨e88, e89, -⟩
    replace e88 : a.eval (.tmp 88) = _ := e88
    have n88 := e88
    simp only [Act.eval, Array.getD_eq_getD_getElem?] at n88
    replace e89 : a.eval (.tmp 89) = _ := e89
    have n89 := e89
    simp only [Act.eval, Array.getD_eq_getD_getElem?] at n89
    apply Rg.yields_run (Rg.wanted_none (by rfl))
    intro w2
    conv => lhs; simp [go_sem, n88, n89, E2, E4]
  apply Rg.ch_pure (by rfl)
  · rintro a w1 ⟨e90, -⟩
    replace e90 : a.eval (.tmp 90) = _ := e90
    have n90 := e90
    simp only [Act.eval, Array.getD_eq_getD_getElem?] at n90
    apply Rg.yields_run (Rg.wanted_none (by rfl))
    intro w2
    conv => lhs; simp [go_sem, n90, E2, E4]
  apply Rg.ch_pure (by rfl)
  · rintro a w1 ⟨e8, e91, -⟩
    conv at e8 => rhs; whnf
    have n8 := e8
    simp only [Act.eval, Array.getD_eq_getD_getElem?] at n8
    replace e91 : a.eval (.tmp 91) = _ := e91
    have n91 := e91
    simp only [Act.eval, Array.getD_eq_getD_getElem?] at n91
    apply Rg.yields_run (Rg.wanted_some (by rfl) (by rfl) e91)
    intro w2
    conv => lhs; simp [go_sem, n8, n91, E2, E4]
  apply Rg.ch_pure (by rfl)
  · rintro a w1 ⟨e11, e91, -⟩
    conv at e11 => rhs; whnf
    have n11 := e11
    simp only [Act.eval, Array.getD_eq_getD_getElem?] at n11
    replace e91 : a.eval (.tmp 91) = _ := e91
    have n91 := e91
    simp only [Act.eval, Array.getD_eq_getD_getElem?] at n91
    apply Rg.yields_run (Rg.wanted_some (by rfl) (by rfl) e91)
    intro w2
    conv => lhs; simp [go_sem, n11, n91, E2, E4]
  apply Rg.ch_pure (by rfl)
  · rintro a w1 ⟨e92, e93, e91, -⟩
    replace e92 : a.eval (.tmp 92) = _ := e92
    have n92 := e92
    simp only [Act.eval, Array.getD_eq_getD_getElem?] at n92
    replace e93 : a.eval (.tmp 93) = _ := e93
    have n93 := e93
    simp only [Act.eval, Array.getD_eq_getD_getElem?] at n93
    replace e91 : a.eval (.tmp 91) = _ := e91
    have n91 := e91
    simp only [Act.eval, Array.getD_eq_getD_getElem?] at n91
    apply Rg.yields_run (Rg.wanted_some (by rfl) (by rfl) e91)
    intro w2
    conv => lhs; simp [go_sem, n92, n93, n91, E2, E4]
  apply Rg.ch_pure (by rfl)
  · rintro a w1 ⟨e91, e94, -⟩
    replace e91 : a.eval (.tmp 91) = _ := e91
    have n91 := e91
    simp only [Act.eval, Array.getD_eq_getD_getElem?] at n91
    replace e94 : a.eval (.tmp 94) = _ := e94
    have n94 := e94
    simp only [Act.eval, Array.getD_eq_getD_getElem?] at n94
    apply Rg.yields_run (Rg.wanted_none (by rfl))
    intro w2
    conv => lhs; simp [go_sem, n91, n94, E2, E4]
  apply Rg.ch_pure (by rfl)
  · rintro a w1 ⟨e95, -⟩
    replace e95 : a.eval (.tmp 95) = _ := e95
    have n95 := e95
    simp only [Act.eval, Array.getD_eq_getD_getElem?] at n95
    apply Rg.yields_run (Rg.wanted_none (by rfl))
    intro w2
    conv => lhs; simp [go_sem, n95, E2, E4]
  apply Rg.ch_pure (by rfl)
  · rintro a w1 ⟨e8, e96, -⟩
    conv at e8 => rhs; whnf
    have n8 := e8
    simp only [Act.eval, Array.getD_eq_getD_getElem?] at n8
    replace e96 : a.eval (.tmp 96) = _ := e96
    have n96 := e96
    simp only [Act.eval, Array.getD_eq_getD_getElem?] at n96
    apply Rg.yields_run (Rg.wanted_some (by rfl) (by rfl) e96)
    intro w2
    conv => lhs; simp [go_sem, n8, n96, E2, E4]
  apply Rg.ch_pure (by rfl)
  · rintro a w1 ⟨e97, e96, -⟩
    replace e97 : a.eval (.tmp 97) = _ := e97
    have n97 := e97
    simp only [Act.eval, Array.getD_eq_getD_getElem?] at n97
    replace e96 : a.eval (.tmp 96) = _ := e96
    have n96 := e96
    simp only [Act.eval, Array.getD_eq_getD_getElem?] at n96
    apply Rg.yields_run (Rg.wanted_some (by rfl) (by rfl) e96)
    intro w2
    conv => lhs; simp [go_sem, n97, n96, E2, E4]
  apply Rg.ch_pure (by rfl)
  · rintro a w1 ⟨e98, e96, -⟩
    replace e98 : a.eval (.tmp 98) = _ := e98
    have n98 := e98
    simp only [Act.eval, Array.getD_eq_getD_getElem?] at n98
    replace e96 : a.eval (.tmp 96) = _ := e96
    have n96 := e96
    simp only [Act.eval, Array.getD_eq_getD_getElem?] at n96
    apply Rg.yields_run (Rg.wanted_some (by rfl) (by rfl) e96)
    intro w2
    conv => lhs; simp [go_sem, n98, n96, E2, E4]
  apply Rg.ch_pure (by rfl)
  · rintro a w1 ⟨e7, e99, -⟩
    conv at e7 => rhs; whnf
    have n7 := e7
    simp only [Act.eval, Array.getD_eq_getD_getElem?] at n7
    replace e99 : a.eval (.tmp 99) = _ := e99
    have n99 := e99
    simp only [Act.eval, Array.getD_eq_getD_getElem?] at n99
    first | exact Rg.yields_skip (Rg.wanted_not (by rfl) (by rfl) e99 (by decide)) | exact Rg.yields_skip (Rg.wanted_undef (by rfl) (by rfl) e99)
  apply Rg.ch_pure (by rfl)
  · rintro a w1 ⟨e100, e99, -⟩
    replace e100 : a.eval (.tmp 100) = _ := e100
    have n100 := e100
    simp only [Act.eval, Array.getD_eq_getD_getElem?] at n100
    replace e99 : a.eval (.tmp 99) = _ := e99
    have n99 := e99
    simp only [Act.eval, Array.getD_eq_getD_getElem?] at n99
    first | exact Rg.yields_skip (Rg.wanted_not (by rfl) (by rfl) e99 (by decide)) | exact Rg.yields_skip (Rg.wanted_undef (by rfl) (by rfl) e99)
  apply Rg.ch_pure (by rfl)
  · rintro a w1 ⟨e99, e101, e96, -⟩
    replace e99 : a.eval (.tmp 99) = _ := e99
    have n99 := e99
    simp only [Act.eval, Array.getD_eq_getD_getElem?] at n99
    replace e101 : a.eval (.tmp 101) = _ := e101
    have n101 := e101
    simp only [Act.eval, Array.getD_eq_getD_getElem?] at n101
    replace e96 : a.eval (.tmp 96) = _ := e96
    have n96 := e96
    simp only [Act.eval, Array.getD_eq_getD_getElem?] at n96
    apply Rg.yields_run (Rg.wanted_some (by rfl) (by rfl) e96)
    intro w2
    conv => lhs; simp [go_sem, n99, n101, n96, E2, E4]
  apply Rg.ch_pure (by rfl)
  · rintro a w1 ⟨e102, e96, -⟩
    replace e102 : a.eval (.tmp 102) = _ := e102
    have n102 := e102
    simp only [Act.eval, Array.getD_eq_getD_getElem?] at n102
    replace e96 : a.eval (.tmp 96) = _ := e96
    have n96 := e96
    simp only [Act.eval, Array.getD_eq_getD_getElem?] at n96
    apply Rg.yields_run (Rg.wanted_some (by rfl) (by rfl) e96)
    intro w2
    conv => lhs; simp [go_sem, n102, n96, E2, E4]
  apply Rg.ch_pure (by rfl)
  · rintro a w1 ⟨e8, e103, -⟩
    conv at e8 => rhs; whnf
    have n8 := e8
    simp only [Act.eval, Array.getD_eq_getD_getElem?] at n8
    replace e103 : a.eval (.tmp 103) = _ := e103
    have n103 := e103
    simp only [Act.eval, Array.getD_eq_getD_getElem?] at n103
    apply Rg.yields_run (Rg.wanted_some (by rfl) (by rfl) e103)
    intro w2
    conv => lhs; simp [go_sem, n8, n103, E2, E4]
  apply Rg.ch_pure (by rfl)
  · rintro a w1 ⟨e104, e103, -⟩
    replace e104 : a.eval (.tmp 104) = _ := e104
    have n104 := e104
    simp only [Act.eval, Array.getD_eq_getD_getElem?] at n104
    replace e103 : a.eval (.tmp 103) = _ := e103
    have n103 := e103
    simp only [Act.eval, Array.getD_eq_getD_getElem?] at n103
    apply Rg.yields_run (Rg.wanted_some (by rfl) (by rfl) e103)
    intro w2
    conv => lhs; simp [go_sem, n104, n103, E2, E4]
  apply Rg.ch_def (by rfl) (fun a w1 h => by obtain ⟨-, e105, -⟩ := h; exact Rg.wanted_some (by rfl) (by rfl) e105)
  · rintro a w1 hb ⟨e7, e105, -⟩
    conv at e7 => rhs; whnf
    have n7 := e7
    simp only [Act.eval, Array.getD_eq_getD_getElem?] at n7
    replace e105 : a.eval (.tmp 105) = _ := e105
    have n105 := e105
    simp only [Act.eval, Array.getD_eq_getD_getElem?] at n105
    apply Rg.gives_value
    · conv => lhs; simp [go_sem, n7, n105, cells4 (heap_keep' hb hBa_), cells4 (heap_keep' hb hBs_), cells4 (heap_keep' hb hBr_), cells4 (heap_keep' hb hBx_), cells4 (heap_keep' hb hBq_), cells4 (heap_keep' hb hBh_)]
    · exact ⟨rfl, Below.refl _ _⟩
  apply Rg.ch_def (by rfl) (fun a w1 h => by obtain ⟨-, e105, -⟩ := h; exact Rg.wanted_some (by rfl) (by rfl) e105)
  · rintro a w1 hb ⟨e7, e105, -⟩
    conv at e7 => rhs; whnf
    have n7 := e7
    simp only [Act.eval, Array.getD_eq_getD_getElem?] at n7
    replace e105 : a.eval (.tmp 105) = _ := e105
    have n105 := e105
    simp only [Act.eval, Array.getD_eq_getD_getElem?] at n105
    apply Rg.gives_value
    · conv => lhs; simp [go_sem, n7, n105, cells4 (heap_keep' hb hBa_), cells4 (heap_keep' hb hBs_), cells4 (heap_keep' hb hBr_), cells4 (heap_keep' hb hBx_), cells4 (heap_keep' hb hBq_), cells4 (heap_keep' hb hBh_)]
    · exact ⟨rfl, Below.refl _ _⟩
  apply Rg.ch_rel (Rg.Row W.heap.size 25 2 _) (Rg.stable_row _ _ _ _) (by rfl) (fun a w1 h => by obtain ⟨-, -, e105, -⟩ := h; exact Rg.wanted_some (by rfl) (by rfl) e105)
  · rintro a w1 hb ⟨e106, e107, e105, -⟩
    replace e106 : a.eval (.tmp 106) = _ := e106
    have n106 := e106
    simp only [Act.eval, Array.getD_eq_getD_getElem?] at n106
    replace e107 : a.eval (.tmp 107) = _ := e107
    have n107 := e107
    simp only [Act.eval, Array.getD_eq_getD_getElem?] at n107
    replace e105 : a.eval (.tmp 105) = _ := e105
    have n105 := e105
    simp only [Act.eval, Array.getD_eq_getD_getElem?] at n105
    apply Rg.gives_value
    · conv => lhs; simp [go_sem, n106, n107, n105]
    · exact ⟨⟨_, rfl, hb.size, heap_new _ _⟩, (Below.refl _ _).alloc (Nat.le_refl _) _⟩
  apply Rg.ch_def (by rfl) (fun a w1 h => by obtain ⟨-, e105, -⟩ := h; exact Rg.wanted_some (by rfl) (by rfl) e105)
  · rintro a w1 hb ⟨e108, e105, -⟩
    obtain ⟨b108, e108, g108, h108⟩ : ∃ b, a.eval (.tmp 108) = .slice (some ⟨b, 0, none⟩) 2 2 ∧ _ ≤ b ∧ w1.heap[b]? = _ := e108
    replace e105 : a.eval (.tmp 105) = _ := e105
    apply Rg.gives_enter
    · apply run_call Try.func25 (by kernel_rfl) rfl _ (by rfl)
      conv => lhs; simp only [List.map_toArray, List.map_cons, List.map_nil, eval_const_, eval_global_, e108]
    · refine (G11.out _ _ h108).mono ?_
      rintro e w2 ⟨rfl, hb2⟩
      exact ⟨_, rfl, rfl, hb2⟩
  apply Rg.ch_def (by rfl) (fun a w1 h => by obtain ⟨-, e105, -⟩ := h; exact Rg.wanted_some (by rfl) (by rfl) e105)
  · rintro a w1 hb ⟨e1, e105, -⟩
    conv at e1 => rhs; whnf
    have n1 := e1
    simp only [Act.eval, Array.getD_eq_getD_getElem?] at n1
    replace e105 : a.eval (.tmp 105) = _ := e105
    have n105 := e105
    simp only [Act.eval, Array.getD_eq_getD_getElem?] at n105
    apply Rg.gives_value
    · conv => lhs; simp [go_sem, n1, n105, cells4 (heap_keep' hb hBa_), cells4 (heap_keep' hb hBs_), cells4 (heap_keep' hb hBr_), cells4 (heap_keep' hb hBx_), cells4 (heap_keep' hb hBq_), cells4 (heap_keep' hb hBh_)]
    · exact ⟨rfl, Below.refl _ _⟩
  apply Rg.ch_rel (Rg.Row W.heap.size 25 1 _) (Rg.stable_row _ _ _ _) (by rfl) (fun a w1 h => by obtain ⟨-, e105, -⟩ := h; exact Rg.wanted_some (by rfl) (by rfl) e105)
  · rintro a w1 hb ⟨e110, e105, -⟩
    replace e110 : a.eval (.tmp 110) = _ := e110
    have n110 := e110
    simp only [Act.eval, Array.getD_eq_getD_getElem?] at n110
    replace e105 : a.eval (.tmp 105) = _ := e105
    have n105 := e105
    simp only [Act.eval, Array.getD_eq_getD_getElem?] at n105
    apply Rg.gives_value
    · conv => lhs; simp [go_sem, n110, n105]
    · exact ⟨⟨_, rfl, hb.size, heap_new _ _⟩, (Below.refl _ _).alloc (Nat.le_refl _) _⟩
  apply Rg.ch_def (by rfl) (fun a w1 h => by obtain ⟨-, e105, -⟩ := h; exact Rg.wanted_some (by rfl) (by rfl) e105)
  · rintro a w1 hb ⟨e111, e105, -⟩
    obtain ⟨b111, e111, g111, h111⟩ : ∃ b, a.eval (.tmp 111) = .slice (some ⟨b, 0, none⟩) 1 1 ∧ _ ≤ b ∧ w1.heap[b]? = _ := e111
    replace e105 : a.eval (.tmp 105) = _ := e105
    apply Rg.gives_enter
    · apply run_call Try.func23 (by kernel_rfl) rfl _ (by rfl)
      conv => lhs; simp only [List.map_toArray, List.map_cons, List.map_nil, eval_const_, eval_global_, e111]
    · refine (G6.out _ _ h111).mono ?_
      rintro e w2 ⟨rfl, hb2⟩
      exact ⟨_, rfl, rfl, hb2⟩
  apply Rg.ch_pure (by rfl)
  · rintro a w1 ⟨e109, e112, e105, -⟩
    replace e109 : a.eval (.tmp 109) = _ := e109
    have n109 := e109
    simp only [Act.eval, Array.getD_eq_getD_getElem?] at n109
    replace e112 : a.eval (.tmp 112) = _ := e112
    have n112 := e112
    simp only [Act.eval, Array.getD_eq_getD_getElem?] at n112
    replace e105 : a.eval (.tmp 105) = _ := e105
    have n105 := e105
    simp only [Act.eval, Array.getD_eq_getD_getElem?] at n105
    apply Rg.yields_run (Rg.wanted_some (by rfl) (by rfl) e105)
    intro w2
    conv => lhs; simp [go_sem, n109, n112, n105, E2, E4]
  apply Rg.ch_pure (by rfl)
  · rintro a w1 ⟨e105, e113, e103, -⟩
    replace e105 : a.eval (.tmp 105) = _ := e105
    have n105 := e105
    simp only [Act.eval, Array.getD_eq_getD_getElem?] at n105
    replace e113 : a.eval (.tmp 113) = _ := e113
    have n113 := e113
    simp only [Act.eval, Array.getD_eq_getD_getElem?] at n113
    replace e103 : a.eval (.tmp 103) = _ := e103
    have n103 := e103
    simp only [Act.eval, Array.getD_eq_getD_getElem?] at n103
    apply Rg.yields_run (Rg.wanted_some (by rfl) (by rfl) e103)
    intro w2
    conv => lhs; simp [go_sem, n105, n113, n103, E2, E4]
  apply Rg.ch_pure (by rfl)
  · rintro a w1 ⟨e103, e114, e96, -⟩
    replace e103 : a.eval (.tmp 103) = _ := e103
    have n103 := e103
    simp only [Act.eval, Array.getD_eq_getD_getElem?] at n103
    replace e114 : a.eval (.tmp 114) = _ := e114
    have n114 := e114
    simp only [Act.eval, Array.getD_eq_getD_getElem?] at n114
    replace e96 : a.eval (.tmp 96) = _ := e96
    have n96 := e96
    simp only [Act.eval, Array.getD_eq_getD_getElem?] at n96
    apply Rg.yields_run (Rg.wanted_some (by rfl) (by rfl) e96)
    intro w2
    conv => lhs; simp [go_sem, n103, n114, n96, E2, E4]
  apply Rg.ch_pure (by rfl)
  · rintro a w1 ⟨e96, e115, -⟩
    replace e96 : a.eval (.tmp 96) = _ := e96
    have n96 := e96
    simp only [Act.eval, Array.getD_eq_getD_getElem?] at n96
    replace e115 : a.eval (.tmp 115) = _ := e115
    have n115 := e115
    simp only [Act.eval, Array.getD_eq_getD_getElem?] at n115
    apply Rg.yields_run (Rg.wanted_none (by rfl))
    intro w2
    conv => lhs; simp [go_sem, n96, n115, E2, E4]
  apply Rg.ch_pure (by rfl)
  · rintro a w1 ⟨e116, -⟩
    replace e116 : a.eval (.tmp 116) = _ := e116
    have n116 := e116
    simp only [Act.eval, Array.getD_eq_getD_getElem?] at n116
    apply Rg.yields_run (Rg.wanted_none (by rfl))
    intro w2
    conv => lhs; simp [go_sem, n116, E2, E4]
  intro w1 hb1
  rintro _ rfl _ rfl _ rfl _ rfl _ rfl _ rfl _ rfl _ rfl _ rfl _ rfl _ rfl _ rfl _ rfl _ rfl _ rfl _ rfl _ rfl _ rfl _ rfl _ rfl v108 ⟨b108, rfl, ge108, hh108⟩ _ rfl _ rfl v111 ⟨b111, rfl, ge111, hh111⟩ _ rfl _ rfl _ rfl _ rfl _ rfl _ rfl
  change Go.wpList _ _ _ _ _ _
  set_option maxRecDepth 100000 in simp only [List.drop_succ_cons, List.drop_zero, List.drop_nil, Act.put, List.setIfInBounds_toArray, List.set_cons_succ, List.set_cons_zero]
  change Go.NoPanic _ _ _ _
  refine NoPanic.normal ?_
  have HBn : Hid (Below w.heap.size w w1) := Lib.hid (below_call HB0 HB0.size hb1)
  have hBa__ := heap_keep' hb1 hBa_
  have hBs__ := heap_keep' hb1 hBs_
  have hBr__ := heap_keep' hb1 hBr_
  have hBx__ := heap_keep' hb1 hBx_
  have hBq__ := heap_keep' hb1 hBq_
  have hBh__ := heap_keep' hb1 hBh_
  clear hb1 HB0 HB hBa_ HBa cBa fBa zBa hBs_ HBs cBs fBs zBs hBr_ HBr cBr fBr zBr hBx_ HBx cBx fBx zBx hBq_ HBq cBq fBq zBq hBh_ HBh cBh fBh zBh
  clear hW
  obtain ⟨wl, rfl⟩ : ∃ x : World, x = w1 := ⟨_, rfl⟩
  have HB := HBn; clear HBn
  have HBa := Lib.hid hBa__; have cBa := cells4 hBa__; have fBa := frozen_of hBa__; have zBa := lt_of_heap hBa__; clear hBa__
  have HBs := Lib.hid hBs__; have cBs := cells4 hBs__; have fBs := frozen_of hBs__; have zBs := lt_of_heap hBs__; clear hBs__
  have HBr := Lib.hid hBr__; have cBr := cells4 hBr__; have fBr := frozen_of hBr__; have zBr := lt_of_heap hBr__; clear hBr__
  have HBx := Lib.hid hBx__; have cBx := cells4 hBx__; have fBx := frozen_of hBx__; have zBx := lt_of_heap hBx__; clear hBx__
  have HBq := Lib.hid hBq__; have cBq := cells4 hBq__; have fBq := frozen_of hBq__; have zBq := lt_of_heap hBq__; clear hBq__
  have HBh := Lib.hid hBh__; have cBh := cells4 hBh__; have fBh := frozen_of hBh__; have zBh := lt_of_heap hBh__; clear hBh__
  go_wp2
  go_ret
  refine ⟨rfl, ?_⟩
  have hB0 := HB.out; have hS0 := hB0.size; first | exact hB0 | go_grown

end Go.Proofs.Ytldnjbpcdojffaa
