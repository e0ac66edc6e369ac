/- @@NUM 25 The walk of law 08's ResidueSquares. Conditions: words are below 2^64. -/
import Derived.Test.YtldnjbpcdojffaaR18
import Derived.Test.YtldnjbpcdojffaaRel2
namespace Go.Proofs.Ytldnjbpcdojffaa
set_option linter.unusedVariables false
set_option linter.unusedSimpArgs false
open Go Go.RowKit
open Pl (V V8 W4 T256 pP)
attribute [local go_sem ↓] eql_num neq_num

theorem square_root {a0 a1 a2 a3 s0 s1 s2 s3 r0 r1 r2 r3 : Nat} {ok : Bool} (hs : V s0 s1 s2 s3 = V a0 a1 a2 a3 * V a0 a1 a2 a3 % pP) (hR : Rooted r0 r1 r2 r3 ok (V s0 s1 s2 s3 % pP)) : ok = true ∧ W4 r0 r1 r2 r3 ∧ V r0 r1 r2 r3 < pP ∧ V r0 r1 r2 r3 % 2 = 0 ∧ V r0 r1 r2 r3 * V r0 r1 r2 r3 % pP = V s0 s1 s2 s3 := by
  have hsl : V s0 s1 s2 s3 % pP = V s0 s1 s2 s3 := by rw [hs, Nat.mod_mod]
  have hsq : V a0 a1 a2 a3 * V a0 a1 a2 a3 % pP = V s0 s1 s2 s3 % pP := by rw [hsl, hs]
  obtain rfl : ok = true := by
    cases ok
    · exact absurd hsq ((hR.2.2 rfl).2 (V a0 a1 a2 a3))
    · rfl
  obtain ⟨h1, h2, h3⟩ := hR.2.1 rfl
  exact ⟨rfl, hR.1, h1, h2, by rw [h3, hsl]⟩

theorem mod_sq {a b c d p : Nat} (h1 : a * a % p = c) (h2 : b * b % p = d) : (a * b % p) * (a * b % p) % p = c * d % p := by
  rw [← Nat.mul_mod, ← h1, ← h2, ← Nat.mul_mod]
  congr 1
  rw [Nat.mul_mul_mul_comm]

set_option maxHeartbeats 8000000 in
theorem squares_0 (a0 a1 a2 a3 b0 b1 b2 b3 x0 x1 x2 x3 y0 y1 y2 y3 p0 p1 p2 p3 q0 q1 q2 q3 m0 m1 m2 m3 r0 r1 r2 r3 s0 s1 s2 s3 t0 t1 t2 t3 : Nat) (k1 : V s0 s1 s2 s3 % 2 = 0) (hs : W4 s0 s1 s2 s3) (hr : W4 r0 r1 r2 r3) (hm : W4 m0 m1 m2 m3) (ht : W4 t0 t1 t2 t3) (hsl : V s0 s1 s2 s3 < pP) (hrl : V r0 r1 r2 r3 < pP) (hre : V r0 r1 r2 r3 % 2 = 0) (hrs : V r0 r1 r2 r3 * V r0 r1 r2 r3 % pP = V s0 s1 s2 s3 * V s0 s1 s2 s3 % pP) (htm : V t0 t1 t2 t3 = V m0 m1 m2 m3)
    (G1 : Hid (∀ (b : Nat) (w : World), w.heap[b]? = some (.cells #[.int .u64 a0, .int .u64 a1, .int .u64 a2, .int .u64 a3, .int .u64 a0, .int .u64 a1, .int .u64 a2, .int .u64 a3] 25 (0, 0)) → Calls Try.prog 25 #[.slice (some ⟨b, 0, none⟩) 2 2] w fun e w' => e = .returned (.agg #[.int .u64 x0, .int .u64 x1, .int .u64 x2, .int .u64 x3]) ∧ Below w.heap.size w w'))
    (G2 : Hid (∀ (b : Nat) (w : World), w.heap[b]? = some (.cells #[.int .u64 b0, .int .u64 b1, .int .u64 b2, .int .u64 b3, .int .u64 b0, .int .u64 b1, .int .u64 b2, .int .u64 b3] 25 (0, 0)) → Calls Try.prog 25 #[.slice (some ⟨b, 0, none⟩) 2 2] w fun e w' => e = .returned (.agg #[.int .u64 y0, .int .u64 y1, .int .u64 y2, .int .u64 y3]) ∧ Below w.heap.size w w'))
    (G3 : Hid (∀ w : World, Calls Try.prog 36 #[.agg #[.int .u64 x0, .int .u64 x1, .int .u64 x2, .int .u64 x3]] w fun e w' => e = .returned (.tuple #[.agg #[.int .u64 p0, .int .u64 p1, .int .u64 p2, .int .u64 p3], .bool true]) ∧ Below w.heap.size w w'))
    (G4 : Hid (∀ w : World, Calls Try.prog 36 #[.agg #[.int .u64 y0, .int .u64 y1, .int .u64 y2, .int .u64 y3]] w fun e w' => e = .returned (.tuple #[.agg #[.int .u64 q0, .int .u64 q1, .int .u64 q2, .int .u64 q3], .bool true]) ∧ Below w.heap.size w w'))
    (G5 : Hid (∀ (b : Nat) (w : World), w.heap[b]? = some (.cells #[.int .u64 x0, .int .u64 x1, .int .u64 x2, .int .u64 x3, .int .u64 y0, .int .u64 y1, .int .u64 y2, .int .u64 y3] 25 (0, 0)) → Calls Try.prog 25 #[.slice (some ⟨b, 0, none⟩) 2 2] w fun e w' => e = .returned (.agg #[.int .u64 m0, .int .u64 m1, .int .u64 m2, .int .u64 m3]) ∧ Below w.heap.size w w'))
    (G6 : Hid (∀ w : World, Calls Try.prog 36 #[.agg #[.int .u64 m0, .int .u64 m1, .int .u64 m2, .int .u64 m3]] w fun e w' => e = .returned (.tuple #[.agg #[.int .u64 r0, .int .u64 r1, .int .u64 r2, .int .u64 r3], .bool true]) ∧ Below w.heap.size w w'))
    (G7 : Hid (∀ (b : Nat) (w : World), w.heap[b]? = some (.cells #[.int .u64 p0, .int .u64 p1, .int .u64 p2, .int .u64 p3, .int .u64 q0, .int .u64 q1, .int .u64 q2, .int .u64 q3] 25 (0, 0)) → Calls Try.prog 25 #[.slice (some ⟨b, 0, none⟩) 2 2] w fun e w' => e = .returned (.agg #[.int .u64 s0, .int .u64 s1, .int .u64 s2, .int .u64 s3]) ∧ Below w.heap.size w w'))
    (G8 : Hid (∀ (b : Nat) (w : World), w.heap[b]? = some (.cells #[.int .u64 s0, .int .u64 s1, .int .u64 s2, .int .u64 s3, .int .u64 s0, .int .u64 s1, .int .u64 s2, .int .u64 s3] 25 (0, 0)) → Calls Try.prog 25 #[.slice (some ⟨b, 0, none⟩) 2 2] w fun e w' => e = .returned (.agg #[.int .u64 t0, .int .u64 t1, .int .u64 t2, .int .u64 t3]) ∧ Below w.heap.size w w')) (w : World) : Calls Try.prog 10 #[.agg #[.int .u64 a0, .int .u64 a1, .int .u64 a2, .int .u64 a3], .agg #[.int .u64 b0, .int .u64 b1, .int .u64 b2, .int .u64 b3]] w fun e w' => e = .returned (.bool true) ∧ Below w.heap.size w w' := by
  have H0 := Lib.hid awake_fact
  have E1 := eqL_true ht hm htm
  have E2 := eqL_true hr hs (Pl.same_root hrl hsl hre k1 hrs)
  clear k1 hs hr hm ht hsl hrl hre hrs htm
  go_enter Try.func10, Try.ntmps10
  go_wp2_with (fail)
  go_at_call 13
  refine (H0.out _).mono ?_
  rintro e wa ⟨rfl, hb⟩
  have HBn : Hid (Below w.heap.size w wa) := Lib.hid ((fun (h : Below _ _ _) => below_call h h.size hb) (by first | go_grown))
  have hBa_ : wa.heap[w.heap.size]? = some (.cells #[.int .u64 a0, .int .u64 a1, .int .u64 a2, .int .u64 a3] 25 (0, 0)) := heap_keep' hb (by repeat (first | (with_reducible refine heap_new' ?_ _; simp; done) | (with_reducible refine keep4 ?_ (by omega) _ _ _ _) | (with_reducible refine heap_old ?_ _) | (with_reducible refine heap_drew ?_) | (with_reducible refine heap_set_ne ?_ (by simp <;> omega) _)))
  have hBb_ : wa.heap[w.heap.size + 1]? = some (.cells #[.int .u64 b0, .int .u64 b1, .int .u64 b2, .int .u64 b3] 25 (0, 0)) := heap_keep' hb (by repeat (first | (with_reducible refine heap_new' ?_ _; simp; done) | (with_reducible refine keep4 ?_ (by omega) _ _ _ _) | (with_reducible refine heap_old ?_ _) | (with_reducible refine heap_drew ?_) | (with_reducible refine heap_set_ne ?_ (by simp <;> omega) _)))
  clear hb
  have HB := HBn; clear HBn
  have HBa := Lib.hid hBa_; have cBa := cells4 hBa_; have fBa := frozen_of hBa_; have zBa := lt_of_heap hBa_; clear hBa_
  have HBb := Lib.hid hBb_; have cBb := cells4 hBb_; have fBb := frozen_of hBb_; have zBb := lt_of_heap hBb_; clear hBb_
  go_wp2
  refine Rg.region2_ (n := 76) [0, 0, 3, 7, 0, 0, 48, 127, 0, 0, 1023, 2047] [1, 1, 1, 1, 1, 1, 1, 1, 1, 1, 2, 2] [16, 17, 18, 19, 20, 21, 22, 23, 5, 6, 0, 0] [[(2, none)], [(2, none)], [(16, some 0), (17, some 1)], [(18, some 2)], [(3, none)], [(3, none)], [(20, some 4), (21, some 5)], [(22, some 6)], [], [], [(5, some 8), (19, some 3)], [(6, some 9), (23, some 7)]] 10 (by kernel_rfl) (by kernel_rfl) (by rfl) ?_
  intro W hW
  have hBa_ : W.heap[w.heap.size]? = some (.cells #[.int .u64 a0, .int .u64 a1, .int .u64 a2, .int .u64 a3] 25 (0, 0)) := by rw [hW]; exact (by repeat (first | (with_reducible exact HBa.out) | (with_reducible exact set4 HBa.out _ _ _ _) | (with_reducible apply set4) | (with_reducible refine heap_new' ?_ _; simp; done) | (with_reducible refine keep4 ?_ (by omega) _ _ _ _) | (with_reducible refine heap_old ?_ _) | (with_reducible refine heap_drew ?_) | (with_reducible refine heap_set_ne ?_ (by simp <;> omega) _)))
  have hBb_ : W.heap[w.heap.size + 1]? = some (.cells #[.int .u64 b0, .int .u64 b1, .int .u64 b2, .int .u64 b3] 25 (0, 0)) := by rw [hW]; exact (by repeat (first | (with_reducible exact HBb.out) | (with_reducible exact set4 HBb.out _ _ _ _) | (with_reducible apply set4) | (with_reducible refine heap_new' ?_ _; simp; done) | (with_reducible refine keep4 ?_ (by omega) _ _ _ _) | (with_reducible refine heap_old ?_ _) | (with_reducible refine heap_drew ?_) | (with_reducible refine heap_set_ne ?_ (by simp <;> omega) _)))
  have HB0 : Below w.heap.size w W := by rw [hW]; have hB0 := HB.out; have hS0 := hB0.size; first | exact hB0.drew | exact (set4_below hB0 (by omega) _ _ _ _).drew | go_grown
  change Rg.Chain' _ _ _ _ _ [(0, 1, 16, [(2, none)]), (1, 1, 17, [(2, none)]), (2, 1, 18, [(16, some 0), (17, some 1)]), (3, 1, 19, [(18, some 2)]), (4, 1, 20, [(3, none)]), (5, 1, 21, [(3, none)]), (6, 1, 22, [(20, some 4), (21, some 5)]), (7, 1, 23, [(22, some 6)]), (8, 1, 5, []), (9, 1, 6, [])] [(0, 1, 16, [(2, none)]), (1, 1, 17, [(2, none)]), (2, 1, 18, [(16, some 0), (17, some 1)]), (3, 1, 19, [(18, some 2)]), (4, 1, 20, [(3, none)]), (5, 1, 21, [(3, none)]), (6, 1, 22, [(20, some 4), (21, some 5)]), (7, 1, 23, [(22, some 6)]), (8, 1, 5, []), (9, 1, 6, [])] _
  apply Rg.ch_def (by rfl) (fun a w1 _ => Rg.wanted_none (by rfl))
  · rintro a w1 hb ⟨e2, -⟩
    conv at e2 => rhs; whnf
    have n2 := e2
    simp only [Act.eval, Array.getD_eq_getD_getElem?] at n2
    apply Rg.gives_value
    · conv => lhs; simp [go_sem, n2, cells4 (heap_keep' hb hBa_), cells4 (heap_keep' hb hBb_)]
    · exact ⟨rfl, Below.refl _ _⟩
  apply Rg.ch_def (by rfl) (fun a w1 _ => Rg.wanted_none (by rfl))
  · rintro a w1 hb ⟨e2, -⟩
    conv at e2 => rhs; whnf
    have n2 := e2
    simp only [Act.eval, Array.getD_eq_getD_getElem?] at n2
    apply Rg.gives_value
    · conv => lhs; simp [go_sem, n2, cells4 (heap_keep' hb hBa_), cells4 (heap_keep' hb hBb_)]
    · exact ⟨rfl, Below.refl _ _⟩
  apply Rg.ch_rel (Rg.Row W.heap.size 25 2 _) (Rg.stable_row _ _ _ _) (by rfl) (fun a w1 _ => Rg.wanted_none (by rfl))
  · rintro a w1 hb ⟨e16, e17, -⟩
    replace e16 : a.eval (.tmp 16) = _ := e16
    have n16 := e16
    simp only [Act.eval, Array.getD_eq_getD_getElem?] at n16
    replace e17 : a.eval (.tmp 17) = _ := e17
    have n17 := e17
    simp only [Act.eval, Array.getD_eq_getD_getElem?] at n17
    apply Rg.gives_value
    · conv => lhs; simp [go_sem, n16, n17]
    · exact ⟨⟨_, rfl, hb.size, heap_new _ _⟩, (Below.refl _ _).alloc (Nat.le_refl _) _⟩
  apply Rg.ch_def (by rfl) (fun a w1 _ => Rg.wanted_none (by rfl))
  · rintro a w1 hb ⟨e18, -⟩
    obtain ⟨b18, e18, g18, h18⟩ : ∃ b, a.eval (.tmp 18) = .slice (some ⟨b, 0, none⟩) 2 2 ∧ _ ≤ b ∧ w1.heap[b]? = _ := e18
    apply Rg.gives_enter
    · apply run_call Try.func25 (by kernel_rfl) rfl _ (by rfl)
      conv => lhs; simp only [List.map_toArray, List.map_cons, List.map_nil, eval_const_, eval_global_, e18]
    · refine (G1.out _ _ h18).mono ?_
      rintro e w2 ⟨rfl, hb2⟩
      exact ⟨_, rfl, rfl, hb2⟩
  apply Rg.ch_def (by rfl) (fun a w1 _ => Rg.wanted_none (by rfl))
  · rintro a w1 hb ⟨e3, -⟩
    conv at e3 => rhs; whnf
    have n3 := e3
    simp only [Act.eval, Array.getD_eq_getD_getElem?] at n3
    apply Rg.gives_value
    · conv => lhs; simp [go_sem, n3, cells4 (heap_keep' hb hBa_), cells4 (heap_keep' hb hBb_)]
    · exact ⟨rfl, Below.refl _ _⟩
  apply Rg.ch_def (by rfl) (fun a w1 _ => Rg.wanted_none (by rfl))
  · rintro a w1 hb ⟨e3, -⟩
    conv at e3 => rhs; whnf
    have n3 := e3
    simp only [Act.eval, Array.getD_eq_getD_getElem?] at n3
    apply Rg.gives_value
    · conv => lhs; simp [go_sem, n3, cells4 (heap_keep' hb hBa_), cells4 (heap_keep' hb hBb_)]
    · exact ⟨rfl, Below.refl _ _⟩
  apply Rg.ch_rel (Rg.Row W.heap.size 25 2 _) (Rg.stable_row _ _ _ _) (by rfl) (fun a w1 _ => Rg.wanted_none (by rfl))
  · rintro a w1 hb ⟨e20, e21, -⟩
    replace e20 : a.eval (.tmp 20) = _ := e20
    have n20 := e20
    simp only [Act.eval, Array.getD_eq_getD_getElem?] at n20
    replace e21 : a.eval (.tmp 21) = _ := e21
    have n21 := e21
    simp only [Act.eval, Array.getD_eq_getD_getElem?] at n21
    apply Rg.gives_value
    · conv => lhs; simp [go_sem, n20, n21]
    · exact ⟨⟨_, rfl, hb.size, heap_new _ _⟩, (Below.refl _ _).alloc (Nat.le_refl _) _⟩
  apply Rg.ch_def (by rfl) (fun a w1 _ => Rg.wanted_none (by rfl))
  · rintro a w1 hb ⟨e22, -⟩
    obtain ⟨b22, e22, g22, h22⟩ : ∃ b, a.eval (.tmp 22) = .slice (some ⟨b, 0, none⟩) 2 2 ∧ _ ≤ b ∧ w1.heap[b]? = _ := e22
    apply Rg.gives_enter
    · apply run_call Try.func25 (by kernel_rfl) rfl _ (by rfl)
      conv => lhs; simp only [List.map_toArray, List.map_cons, List.map_nil, eval_const_, eval_global_, e22]
    · refine (G2.out _ _ h22).mono ?_
      rintro e w2 ⟨rfl, hb2⟩
      exact ⟨_, rfl, rfl, hb2⟩
  apply Rg.ch_rel (Rg.Box W.heap.size 25 _) (Rg.stable_box _ _ _) (by rfl) (fun a w1 _ => Rg.wanted_none (by rfl))
  · rintro a w1 hb -
    apply Rg.gives_value
    · conv => lhs; simp [go_sem]
    · exact ⟨⟨_, rfl, hb.size, heap_new _ _⟩, (Below.refl _ _).alloc (Nat.le_refl _) _⟩
  apply Rg.ch_rel (Rg.Box W.heap.size 25 _) (Rg.stable_box _ _ _) (by rfl) (fun a w1 _ => Rg.wanted_none (by rfl))
  · rintro a w1 hb -
    apply Rg.gives_value
    · conv => lhs; simp [go_sem]
    · exact ⟨⟨_, rfl, hb.size, heap_new _ _⟩, (Below.refl _ _).alloc (Nat.le_refl _) _⟩
  intro w1 hb1
  rintro _ rfl _ rfl v18 ⟨b18, rfl, ge18, hh18⟩ _ rfl _ rfl _ rfl v22 ⟨b22, rfl, ge22, hh22⟩ _ rfl v5 ⟨b5, rfl, ge5, hh5⟩ v6 ⟨b6, rfl, ge6, hh6⟩
  intro hDist
  simp only [Act.put, List.setIfInBounds_toArray, List.set_cons_succ, List.set_cons_zero] at hDist
  have ne_5_6 : b5 ≠ b6 := fun h => hDist 8 9 _ _ _ _ (by decide) rfl rfl rfl rfl rfl rfl (by subst h; rfl)
  clear hDist
  change Go.wpList _ _ _ _ _ _
  simp only [List.drop_succ_cons, List.drop_zero, List.drop_nil, Act.put, List.setIfInBounds_toArray, List.set_cons_succ, List.set_cons_zero]
  have HBn : Hid (Below w.heap.size w w1) := Lib.hid (below_call HB0 HB0.size hb1)
  have hBa__ := heap_keep' hb1 hBa_
  have hBb__ := heap_keep' hb1 hBb_
  have ltBa_wb := lt_of_heap hBa_
  have ltBb_wb := lt_of_heap hBb_
  clear hb1 HB0 HB hBa_ HBa cBa fBa zBa hBb_ HBb cBb fBb zBb
  clear hW
  obtain ⟨wb, rfl⟩ : ∃ x : World, x = w1 := ⟨_, rfl⟩
  have HB := HBn; clear HBn
  have HBa := Lib.hid hBa__; have cBa := cells4 hBa__; have fBa := frozen_of hBa__; have zBa := lt_of_heap hBa__; clear hBa__
  have HBb := Lib.hid hBb__; have cBb := cells4 hBb__; have fBb := frozen_of hBb__; have zBb := lt_of_heap hBb__; clear hBb__
  have HBx := Lib.hid hh5; have cBx := cells4 hh5; have fBx := frozen_of hh5; have zBx := lt_of_heap hh5; clear hh5
  have HBy := Lib.hid hh6; have cBy := cells4 hh6; have fBy := frozen_of hh6; have zBy := lt_of_heap hh6; clear hh6
  go_wp2
  refine NoPanic.normal ?_
  go_wp2_with (fail)
  go_at_call 36
  refine (G3.out _).mono ?_
  rintro e wc ⟨rfl, hb⟩
  have HBn : Hid (Below w.heap.size w wc) := Lib.hid ((fun (h : Below _ _ _) => below_call h h.size hb) (by have hB0 := HB.out; have hS0 := hB0.size; first | (with_reducible exact hB0) | (with_reducible exact set4_below hB0 (by omega) _ _ _ _) | (with_reducible exact set4_below (set4_below hB0 (by omega) _ _ _ _) (by omega) _ _ _ _) | (with_reducible exact set4_below (set4_below (set4_below (set4_below hB0 (by omega) _ _ _ _) (by omega) _ _ _ _) (by omega) _ _ _ _) (by omega) _ _ _ _) | go_grown))
  have hBa_ : wc.heap[w.heap.size]? = some (.cells #[.int .u64 a0, .int .u64 a1, .int .u64 a2, .int .u64 a3] 25 (0, 0)) := heap_keep' hb (by repeat (first | (with_reducible exact HBa.out) | (with_reducible exact set4 HBa.out _ _ _ _) | (with_reducible apply set4) | (with_reducible refine heap_new' ?_ _; simp; done) | (with_reducible refine keep4 ?_ (by omega) _ _ _ _) | (with_reducible refine heap_old ?_ _) | (with_reducible refine heap_drew ?_) | (with_reducible refine heap_set_ne ?_ (by simp <;> omega) _)))
  have hBb_ : wc.heap[w.heap.size + 1]? = some (.cells #[.int .u64 b0, .int .u64 b1, .int .u64 b2, .int .u64 b3] 25 (0, 0)) := heap_keep' hb (by repeat (first | (with_reducible exact HBb.out) | (with_reducible exact set4 HBb.out _ _ _ _) | (with_reducible apply set4) | (with_reducible refine heap_new' ?_ _; simp; done) | (with_reducible refine keep4 ?_ (by omega) _ _ _ _) | (with_reducible refine heap_old ?_ _) | (with_reducible refine heap_drew ?_) | (with_reducible refine heap_set_ne ?_ (by simp <;> omega) _)))
  have hBx_ : wc.heap[b5]? = some (.cells #[.int .u64 x0, .int .u64 x1, .int .u64 x2, .int .u64 x3] 25 (0, 0)) := heap_keep' hb (by repeat (first | (with_reducible exact HBx.out) | (with_reducible exact set4 HBx.out _ _ _ _) | (with_reducible apply set4) | (with_reducible refine heap_new' ?_ _; simp; done) | (with_reducible refine keep4 ?_ (by omega) _ _ _ _) | (with_reducible refine heap_old ?_ _) | (with_reducible refine heap_drew ?_) | (with_reducible refine heap_set_ne ?_ (by simp <;> omega) _)))
  have hBy_ : wc.heap[b6]? = some (.cells #[.int .u64 y0, .int .u64 y1, .int .u64 y2, .int .u64 y3] 25 (0, 0)) := heap_keep' hb (by repeat (first | (with_reducible exact HBy.out) | (with_reducible exact set4 HBy.out _ _ _ _) | (with_reducible apply set4) | (with_reducible refine heap_new' ?_ _; simp; done) | (with_reducible refine keep4 ?_ (by omega) _ _ _ _) | (with_reducible refine heap_old ?_ _) | (with_reducible refine heap_drew ?_) | (with_reducible refine heap_set_ne ?_ (by simp <;> omega) _)))
  clear hb HB HBa cBa fBa zBa HBb cBb fBb zBb HBx cBx fBx zBx HBy cBy fBy zBy
  have HB := HBn; clear HBn
  have HBa := Lib.hid hBa_; have cBa := cells4 hBa_; have fBa := frozen_of hBa_; have zBa := lt_of_heap hBa_; clear hBa_
  have HBb := Lib.hid hBb_; have cBb := cells4 hBb_; have fBb := frozen_of hBb_; have zBb := lt_of_heap hBb_; clear hBb_
  have HBx := Lib.hid hBx_; have cBx := cells4 hBx_; have fBx := frozen_of hBx_; have zBx := lt_of_heap hBx_; clear hBx_
  have HBy := Lib.hid hBy_; have cBy := cells4 hBy_; have fBy := frozen_of hBy_; have zBy := lt_of_heap hBy_; clear hBy_
  go_wp2_with (fail)
  go_at_call 36
  refine (G4.out _).mono ?_
  rintro e wd ⟨rfl, hb⟩
  have HBn : Hid (Below w.heap.size w wd) := Lib.hid ((fun (h : Below _ _ _) => below_call h h.size hb) (by have hB0 := HB.out; have hS0 := hB0.size; first | (with_reducible exact hB0) | (with_reducible exact set4_below hB0 (by omega) _ _ _ _) | (with_reducible exact set4_below (set4_below hB0 (by omega) _ _ _ _) (by omega) _ _ _ _) | (with_reducible exact set4_below (set4_below (set4_below (set4_below hB0 (by omega) _ _ _ _) (by omega) _ _ _ _) (by omega) _ _ _ _) (by omega) _ _ _ _) | go_grown))
  have hBa_ : wd.heap[w.heap.size]? = some (.cells #[.int .u64 a0, .int .u64 a1, .int .u64 a2, .int .u64 a3] 25 (0, 0)) := heap_keep' hb (by repeat (first | (with_reducible exact HBa.out) | (with_reducible exact set4 HBa.out _ _ _ _) | (with_reducible apply set4) | (with_reducible refine heap_new' ?_ _; simp; done) | (with_reducible refine keep4 ?_ (by omega) _ _ _ _) | (with_reducible refine heap_old ?_ _) | (with_reducible refine heap_drew ?_) | (with_reducible refine heap_set_ne ?_ (by simp <;> omega) _)))
  have hBb_ : wd.heap[w.heap.size + 1]? = some (.cells #[.int .u64 b0, .int .u64 b1, .int .u64 b2, .int .u64 b3] 25 (0, 0)) := heap_keep' hb (by repeat (first | (with_reducible exact HBb.out) | (with_reducible exact set4 HBb.out _ _ _ _) | (with_reducible apply set4) | (with_reducible refine heap_new' ?_ _; simp; done) | (with_reducible refine keep4 ?_ (by omega) _ _ _ _) | (with_reducible refine heap_old ?_ _) | (with_reducible refine heap_drew ?_) | (with_reducible refine heap_set_ne ?_ (by simp <;> omega) _)))
  have hBx_ : wd.heap[b5]? = some (.cells #[.int .u64 x0, .int .u64 x1, .int .u64 x2, .int .u64 x3] 25 (0, 0)) := heap_keep' hb (by repeat (first | (with_reducible exact HBx.out) | (with_reducible exact set4 HBx.out _ _ _ _) | (with_reducible apply set4) | (with_reducible refine heap_new' ?_ _; simp; done) | (with_reducible refine keep4 ?_ (by omega) _ _ _ _) | (with_reducible refine heap_old ?_ _) | (with_reducible refine heap_drew ?_) | (with_reducible refine heap_set_ne ?_ (by simp <;> omega) _)))
  have hBy_ : wd.heap[b6]? = some (.cells #[.int .u64 y0, .int .u64 y1, .int .u64 y2, .int .u64 y3] 25 (0, 0)) := heap_keep' hb (by repeat (first | (with_reducible exact HBy.out) | (with_reducible exact set4 HBy.out _ _ _ _) | (with_reducible apply set4) | (with_reducible refine heap_new' ?_ _; simp; done) | (with_reducible refine keep4 ?_ (by omega) _ _ _ _) | (with_reducible refine heap_old ?_ _) | (with_reducible refine heap_drew ?_) | (with_reducible refine heap_set_ne ?_ (by simp <;> omega) _)))
  have hBp_ : wd.heap[wc.heap.size]? = some (.cells #[.int .u64 p0, .int .u64 p1, .int .u64 p2, .int .u64 p3] 25 (0, 0)) := heap_keep' hb (by repeat (first | (with_reducible refine heap_new' ?_ _; simp; done) | (with_reducible refine keep4 ?_ (by omega) _ _ _ _) | (with_reducible refine heap_old ?_ _) | (with_reducible refine heap_drew ?_) | (with_reducible refine heap_set_ne ?_ (by simp <;> omega) _)))
  clear hb HB HBa cBa fBa zBa HBb cBb fBb zBb HBx cBx fBx zBx HBy cBy fBy zBy
  have HB := HBn; clear HBn
  have HBa := Lib.hid hBa_; have cBa := cells4 hBa_; have fBa := frozen_of hBa_; have zBa := lt_of_heap hBa_; clear hBa_
  have HBb := Lib.hid hBb_; have cBb := cells4 hBb_; have fBb := frozen_of hBb_; have zBb := lt_of_heap hBb_; clear hBb_
  have HBx := Lib.hid hBx_; have cBx := cells4 hBx_; have fBx := frozen_of hBx_; have zBx := lt_of_heap hBx_; clear hBx_
  have HBy := Lib.hid hBy_; have cBy := cells4 hBy_; have fBy := frozen_of hBy_; have zBy := lt_of_heap hBy_; clear hBy_
  have HBp := Lib.hid hBp_; have cBp := cells4 hBp_; have fBp := frozen_of hBp_; have zBp := lt_of_heap hBp_; clear hBp_
  go_wp2_with (fail)
  go_at_call 25
  refine (G5.out _ _ (heap_new' (by simp) _)).mono ?_
  rintro e we ⟨rfl, hb⟩
  have HBn : Hid (Below w.heap.size w we) := Lib.hid ((fun (h : Below _ _ _) => below_call h h.size hb) (by have hB0 := HB.out; have hS0 := hB0.size; first | (with_reducible exact hB0) | (with_reducible exact set4_below hB0 (by omega) _ _ _ _) | (with_reducible exact set4_below (set4_below hB0 (by omega) _ _ _ _) (by omega) _ _ _ _) | (with_reducible exact set4_below (set4_below (set4_below (set4_below hB0 (by omega) _ _ _ _) (by omega) _ _ _ _) (by omega) _ _ _ _) (by omega) _ _ _ _) | go_grown))
  have hBa_ : we.heap[w.heap.size]? = some (.cells #[.int .u64 a0, .int .u64 a1, .int .u64 a2, .int .u64 a3] 25 (0, 0)) := heap_keep' hb (by repeat (first | (with_reducible exact HBa.out) | (with_reducible exact set4 HBa.out _ _ _ _) | (with_reducible apply set4) | (with_reducible refine heap_new' ?_ _; simp; done) | (with_reducible refine keep4 ?_ (by omega) _ _ _ _) | (with_reducible refine heap_old ?_ _) | (with_reducible refine heap_drew ?_) | (with_reducible refine heap_set_ne ?_ (by simp <;> omega) _)))
  have hBb_ : we.heap[w.heap.size + 1]? = some (.cells #[.int .u64 b0, .int .u64 b1, .int .u64 b2, .int .u64 b3] 25 (0, 0)) := heap_keep' hb (by repeat (first | (with_reducible exact HBb.out) | (with_reducible exact set4 HBb.out _ _ _ _) | (with_reducible apply set4) | (with_reducible refine heap_new' ?_ _; simp; done) | (with_reducible refine keep4 ?_ (by omega) _ _ _ _) | (with_reducible refine heap_old ?_ _) | (with_reducible refine heap_drew ?_) | (with_reducible refine heap_set_ne ?_ (by simp <;> omega) _)))
  have hBx_ : we.heap[b5]? = some (.cells #[.int .u64 x0, .int .u64 x1, .int .u64 x2, .int .u64 x3] 25 (0, 0)) := heap_keep' hb (by repeat (first | (with_reducible exact HBx.out) | (with_reducible exact set4 HBx.out _ _ _ _) | (with_reducible apply set4) | (with_reducible refine heap_new' ?_ _; simp; done) | (with_reducible refine keep4 ?_ (by omega) _ _ _ _) | (with_reducible refine heap_old ?_ _) | (with_reducible refine heap_drew ?_) | (with_reducible refine heap_set_ne ?_ (by simp <;> omega) _)))
  have hBy_ : we.heap[b6]? = some (.cells #[.int .u64 y0, .int .u64 y1, .int .u64 y2, .int .u64 y3] 25 (0, 0)) := heap_keep' hb (by repeat (first | (with_reducible exact HBy.out) | (with_reducible exact set4 HBy.out _ _ _ _) | (with_reducible apply set4) | (with_reducible refine heap_new' ?_ _; simp; done) | (with_reducible refine keep4 ?_ (by omega) _ _ _ _) | (with_reducible refine heap_old ?_ _) | (with_reducible refine heap_drew ?_) | (with_reducible refine heap_set_ne ?_ (by simp <;> omega) _)))
  have hBp_ : we.heap[wc.heap.size]? = some (.cells #[.int .u64 p0, .int .u64 p1, .int .u64 p2, .int .u64 p3] 25 (0, 0)) := heap_keep' hb (by repeat (first | (with_reducible exact HBp.out) | (with_reducible exact set4 HBp.out _ _ _ _) | (with_reducible apply set4) | (with_reducible refine heap_new' ?_ _; simp; done) | (with_reducible refine keep4 ?_ (by omega) _ _ _ _) | (with_reducible refine heap_old ?_ _) | (with_reducible refine heap_drew ?_) | (with_reducible refine heap_set_ne ?_ (by simp <;> omega) _)))
  have hBq_ : we.heap[wd.heap.size]? = some (.cells #[.int .u64 q0, .int .u64 q1, .int .u64 q2, .int .u64 q3] 25 (0, 0)) := heap_keep' hb (by repeat (first | (with_reducible refine heap_new' ?_ _; simp; done) | (with_reducible refine keep4 ?_ (by omega) _ _ _ _) | (with_reducible refine heap_old ?_ _) | (with_reducible refine heap_drew ?_) | (with_reducible refine heap_set_ne ?_ (by simp <;> omega) _)))
  clear hb HB HBa cBa fBa zBa HBb cBb fBb zBb HBx cBx fBx zBx HBy cBy fBy zBy HBp cBp fBp zBp
  have HB := HBn; clear HBn
  have HBa := Lib.hid hBa_; have cBa := cells4 hBa_; have fBa := frozen_of hBa_; have zBa := lt_of_heap hBa_; clear hBa_
  have HBb := Lib.hid hBb_; have cBb := cells4 hBb_; have fBb := frozen_of hBb_; have zBb := lt_of_heap hBb_; clear hBb_
  have HBx := Lib.hid hBx_; have cBx := cells4 hBx_; have fBx := frozen_of hBx_; have zBx := lt_of_heap hBx_; clear hBx_
  have HBy := Lib.hid hBy_; have cBy := cells4 hBy_; have fBy := frozen_of hBy_; have zBy := lt_of_heap hBy_; clear hBy_
  have HBp := Lib.hid hBp_; have cBp := cells4 hBp_; have fBp := frozen_of hBp_; have zBp := lt_of_heap hBp_; clear hBp_
  have HBq := Lib.hid hBq_; have cBq := cells4 hBq_; have fBq := frozen_of hBq_; have zBq := lt_of_heap hBq_; clear hBq_
  go_wp2_with (fail)
  go_at_call 36
  refine (G6.out _).mono ?_
  rintro e wf ⟨rfl, hb⟩
  have HBn : Hid (Below w.heap.size w wf) := Lib.hid ((fun (h : Below _ _ _) => below_call h h.size hb) (by have hB0 := HB.out; have hS0 := hB0.size; first | (with_reducible exact hB0) | (with_reducible exact set4_below hB0 (by omega) _ _ _ _) | (with_reducible exact set4_below (set4_below hB0 (by omega) _ _ _ _) (by omega) _ _ _ _) | (with_reducible exact set4_below (set4_below (set4_below (set4_below hB0 (by omega) _ _ _ _) (by omega) _ _ _ _) (by omega) _ _ _ _) (by omega) _ _ _ _) | go_grown))
  have hBa_ : wf.heap[w.heap.size]? = some (.cells #[.int .u64 a0, .int .u64 a1, .int .u64 a2, .int .u64 a3] 25 (0, 0)) := heap_keep' hb (by repeat (first | (with_reducible exact HBa.out) | (with_reducible exact set4 HBa.out _ _ _ _) | (with_reducible apply set4) | (with_reducible refine heap_new' ?_ _; simp; done) | (with_reducible refine keep4 ?_ (by omega) _ _ _ _) | (with_reducible refine heap_old ?_ _) | (with_reducible refine heap_drew ?_) | (with_reducible refine heap_set_ne ?_ (by simp <;> omega) _)))
  have hBb_ : wf.heap[w.heap.size + 1]? = some (.cells #[.int .u64 b0, .int .u64 b1, .int .u64 b2, .int .u64 b3] 25 (0, 0)) := heap_keep' hb (by repeat (first | (with_reducible exact HBb.out) | (with_reducible exact set4 HBb.out _ _ _ _) | (with_reducible apply set4) | (with_reducible refine heap_new' ?_ _; simp; done) | (with_reducible refine keep4 ?_ (by omega) _ _ _ _) | (with_reducible refine heap_old ?_ _) | (with_reducible refine heap_drew ?_) | (with_reducible refine heap_set_ne ?_ (by simp <;> omega) _)))
  have hBx_ : wf.heap[b5]? = some (.cells #[.int .u64 x0, .int .u64 x1, .int .u64 x2, .int .u64 x3] 25 (0, 0)) := heap_keep' hb (by repeat (first | (with_reducible exact HBx.out) | (with_reducible exact set4 HBx.out _ _ _ _) | (with_reducible apply set4) | (with_reducible refine heap_new' ?_ _; simp; done) | (with_reducible refine keep4 ?_ (by omega) _ _ _ _) | (with_reducible refine heap_old ?_ _) | (with_reducible refine heap_drew ?_) | (with_reducible refine heap_set_ne ?_ (by simp <;> omega) _)))
  have hBy_ : wf.heap[b6]? = some (.cells #[.int .u64 y0, .int .u64 y1, .int .u64 y2, .int .u64 y3] 25 (0, 0)) := heap_keep' hb (by repeat (first | (with_reducible exact HBy.out) | (with_reducible exact set4 HBy.out _ _ _ _) | (with_reducible apply set4) | (with_reducible refine heap_new' ?_ _; simp; done) | (with_reducible refine keep4 ?_ (by omega) _ _ _ _) | (with_reducible refine heap_old ?_ _) | (with_reducible refine heap_drew ?_) | (with_reducible refine heap_set_ne ?_ (by simp <;> omega) _)))
  have hBp_ : wf.heap[wc.heap.size]? = some (.cells #[.int .u64 p0, .int .u64 p1, .int .u64 p2, .int .u64 p3] 25 (0, 0)) := heap_keep' hb (by repeat (first | (with_reducible exact HBp.out) | (with_reducible exact set4 HBp.out _ _ _ _) | (with_reducible apply set4) | (with_reducible refine heap_new' ?_ _; simp; done) | (with_reducible refine keep4 ?_ (by omega) _ _ _ _) | (with_reducible refine heap_old ?_ _) | (with_reducible refine heap_drew ?_) | (with_reducible refine heap_set_ne ?_ (by simp <;> omega) _)))
  have hBq_ : wf.heap[wd.heap.size]? = some (.cells #[.int .u64 q0, .int .u64 q1, .int .u64 q2, .int .u64 q3] 25 (0, 0)) := heap_keep' hb (by repeat (first | (with_reducible exact HBq.out) | (with_reducible exact set4 HBq.out _ _ _ _) | (with_reducible apply set4) | (with_reducible refine heap_new' ?_ _; simp; done) | (with_reducible refine keep4 ?_ (by omega) _ _ _ _) | (with_reducible refine heap_old ?_ _) | (with_reducible refine heap_drew ?_) | (with_reducible refine heap_set_ne ?_ (by simp <;> omega) _)))
  clear hb HB HBa cBa fBa zBa HBb cBb fBb zBb HBx cBx fBx zBx HBy cBy fBy zBy HBp cBp fBp zBp HBq cBq fBq zBq
  have HB := HBn; clear HBn
  have HBa := Lib.hid hBa_; have cBa := cells4 hBa_; have fBa := frozen_of hBa_; have zBa := lt_of_heap hBa_; clear hBa_
  have HBb := Lib.hid hBb_; have cBb := cells4 hBb_; have fBb := frozen_of hBb_; have zBb := lt_of_heap hBb_; clear hBb_
  have HBx := Lib.hid hBx_; have cBx := cells4 hBx_; have fBx := frozen_of hBx_; have zBx := lt_of_heap hBx_; clear hBx_
  have HBy := Lib.hid hBy_; have cBy := cells4 hBy_; have fBy := frozen_of hBy_; have zBy := lt_of_heap hBy_; clear hBy_
  have HBp := Lib.hid hBp_; have cBp := cells4 hBp_; have fBp := frozen_of hBp_; have zBp := lt_of_heap hBp_; clear hBp_
  have HBq := Lib.hid hBq_; have cBq := cells4 hBq_; have fBq := frozen_of hBq_; have zBq := lt_of_heap hBq_; clear hBq_
  go_wp2_with (fail)
  go_at_call 25
  refine (G7.out _ _ (heap_new' (by simp) _)).mono ?_
  rintro e wg ⟨rfl, hb⟩
  have HBn : Hid (Below w.heap.size w wg) := Lib.hid ((fun (h : Below _ _ _) => below_call h h.size hb) (by have hB0 := HB.out; have hS0 := hB0.size; first | (with_reducible exact hB0) | (with_reducible exact set4_below hB0 (by omega) _ _ _ _) | (with_reducible exact set4_below (set4_below hB0 (by omega) _ _ _ _) (by omega) _ _ _ _) | (with_reducible exact set4_below (set4_below (set4_below (set4_below hB0 (by omega) _ _ _ _) (by omega) _ _ _ _) (by omega) _ _ _ _) (by omega) _ _ _ _) | go_grown))
  have hBa_ : wg.heap[w.heap.size]? = some (.cells #[.int .u64 a0, .int .u64 a1, .int .u64 a2, .int .u64 a3] 25 (0, 0)) := heap_keep' hb (by repeat (first | (with_reducible exact HBa.out) | (with_reducible exact set4 HBa.out _ _ _ _) | (with_reducible apply set4) | (with_reducible refine heap_new' ?_ _; simp; done) | (with_reducible refine keep4 ?_ (by omega) _ _ _ _) | (with_reducible refine heap_old ?_ _) | (with_reducible refine heap_drew ?_) | (with_reducible refine heap_set_ne ?_ (by simp <;> omega) _)))
  have hBb_ : wg.heap[w.heap.size + 1]? = some (.cells #[.int .u64 b0, .int .u64 b1, .int .u64 b2, .int .u64 b3] 25 (0, 0)) := heap_keep' hb (by repeat (first | (with_reducible exact HBb.out) | (with_reducible exact set4 HBb.out _ _ _ _) | (with_reducible apply set4) | (with_reducible refine heap_new' ?_ _; simp; done) | (with_reducible refine keep4 ?_ (by omega) _ _ _ _) | (with_reducible refine heap_old ?_ _) | (with_reducible refine heap_drew ?_) | (with_reducible refine heap_set_ne ?_ (by simp <;> omega) _)))
  have hBx_ : wg.heap[b5]? = some (.cells #[.int .u64 x0, .int .u64 x1, .int .u64 x2, .int .u64 x3] 25 (0, 0)) := heap_keep' hb (by repeat (first | (with_reducible exact HBx.out) | (with_reducible exact set4 HBx.out _ _ _ _) | (with_reducible apply set4) | (with_reducible refine heap_new' ?_ _; simp; done) | (with_reducible refine keep4 ?_ (by omega) _ _ _ _) | (with_reducible refine heap_old ?_ _) | (with_reducible refine heap_drew ?_) | (with_reducible refine heap_set_ne ?_ (by simp <;> omega) _)))
  have hBy_ : wg.heap[b6]? = some (.cells #[.int .u64 y0, .int .u64 y1, .int .u64 y2, .int .u64 y3] 25 (0, 0)) := heap_keep' hb (by repeat (first | (with_reducible exact HBy.out) | (with_reducible exact set4 HBy.out _ _ _ _) | (with_reducible apply set4) | (with_reducible refine heap_new' ?_ _; simp; done) | (with_reducible refine keep4 ?_ (by omega) _ _ _ _) | (with_reducible refine heap_old ?_ _) | (with_reducible refine heap_drew ?_) | (with_reducible refine heap_set_ne ?_ (by simp <;> omega) _)))
  have hBp_ : wg.heap[wc.heap.size]? = some (.cells #[.int .u64 p0, .int .u64 p1, .int .u64 p2, .int .u64 p3] 25 (0, 0)) := heap_keep' hb (by repeat (first | (with_reducible exact HBp.out) | (with_reducible exact set4 HBp.out _ _ _ _) | (with_reducible apply set4) | (with_reducible refine heap_new' ?_ _; simp; done) | (with_reducible refine keep4 ?_ (by omega) _ _ _ _) | (with_reducible refine heap_old ?_ _) | (with_reducible refine heap_drew ?_) | (with_reducible refine heap_set_ne ?_ (by simp <;> omega) _)))
  have hBq_ : wg.heap[wd.heap.size]? = some (.cells #[.int .u64 q0, .int .u64 q1, .int .u64 q2, .int .u64 q3] 25 (0, 0)) := heap_keep' hb (by repeat (first | (with_reducible exact HBq.out) | (with_reducible exact set4 HBq.out _ _ _ _) | (with_reducible apply set4) | (with_reducible refine heap_new' ?_ _; simp; done) | (with_reducible refine keep4 ?_ (by omega) _ _ _ _) | (with_reducible refine heap_old ?_ _) | (with_reducible refine heap_drew ?_) | (with_reducible refine heap_set_ne ?_ (by simp <;> omega) _)))
  have hBr_ : wg.heap[wf.heap.size]? = some (.cells #[.int .u64 r0, .int .u64 r1, .int .u64 r2, .int .u64 r3] 25 (0, 0)) := heap_keep' hb (by repeat (first | (with_reducible refine heap_new' ?_ _; simp; done) | (with_reducible refine keep4 ?_ (by omega) _ _ _ _) | (with_reducible refine heap_old ?_ _) | (with_reducible refine heap_drew ?_) | (with_reducible refine heap_set_ne ?_ (by simp <;> omega) _)))
  clear hb HB HBa cBa fBa zBa HBb cBb fBb zBb HBx cBx fBx zBx HBy cBy fBy zBy HBp cBp fBp zBp HBq cBq fBq zBq
  have HB := HBn; clear HBn
  have HBa := Lib.hid hBa_; have cBa := cells4 hBa_; have fBa := frozen_of hBa_; have zBa := lt_of_heap hBa_; clear hBa_
  have HBb := Lib.hid hBb_; have cBb := cells4 hBb_; have fBb := frozen_of hBb_; have zBb := lt_of_heap hBb_; clear hBb_
  have HBx := Lib.hid hBx_; have cBx := cells4 hBx_; have fBx := frozen_of hBx_; have zBx := lt_of_heap hBx_; clear hBx_
  have HBy := Lib.hid hBy_; have cBy := cells4 hBy_; have fBy := frozen_of hBy_; have zBy := lt_of_heap hBy_; clear hBy_
  have HBp := Lib.hid hBp_; have cBp := cells4 hBp_; have fBp := frozen_of hBp_; have zBp := lt_of_heap hBp_; clear hBp_
  have HBq := Lib.hid hBq_; have cBq := cells4 hBq_; have fBq := frozen_of hBq_; have zBq := lt_of_heap hBq_; clear hBq_
  have HBr := Lib.hid hBr_; have cBr := cells4 hBr_; have fBr := frozen_of hBr_; have zBr := lt_of_heap hBr_; clear hBr_
  go_wp2
  refine Rg.region_ (n := 76) [0, 1, 3, 7, 15, 31, 63, 127, 255, 255, 1023, 2047, 255, 255, 12543, 32767, 65535, 131071, 262143, 524287, 524287, 2097151, 4194303, 8388607, 8388607, 8388607, 58720255, 134217727, 268435455, 536870911, 1073741823] [0, 0, 0, 0, 0, 0, 0, 0, 1, 1, 1, 1, 1, 1, 1, 1, 0, 0, 0, 1, 1, 0, 0, 0, 0, 0, 0, 0, 0, 0, 0] [46, 47, 48, 49, 50, 51, 52, 53, 54, 55, 56, 57, 58, 59, 60, 61, 62, 63, 64, 65, 66, 67, 68, 69, 70, 71, 72, 73, 74, 75, 4] [[(8, none)], [(46, some 0)], [(10, none), (47, some 1)], [(47, some 1), (48, some 2)], [(49, some 3)], [(12, none), (50, some 4)], [(50, some 4), (51, some 5)], [(52, some 6)], [(13, none), (53, some 7)], [(13, none), (53, some 7)], [(54, some 8), (55, some 9), (53, some 7)], [(56, some 10), (53, some 7)], [(5, none), (53, some 7)], [(6, none), (53, some 7)], [(58, some 12), (59, some 13), (53, some 7)], [(60, some 14), (53, some 7)], [(57, some 11), (61, some 15), (53, some 7)], [(53, some 7), (62, some 16)], [(63, some 17)], [(11, none), (64, some 18)], [(13, none), (64, some 18)], [(65, some 19), (66, some 20), (64, some 18)], [(67, some 21), (64, some 18)], [(11, none), (68, some 22)], [(68, some 22)], [(13, none), (68, some 22)], [(70, some 24), (71, some 25), (68, some 22)], [(69, some 23), (72, some 26), (68, some 22)], [(68, some 22), (73, some 27), (64, some 18)], [(64, some 18), (74, some 28)], [(75, some 29)]] 31 (by kernel_rfl) (by kernel_rfl) (by rfl) ?_
  intro W hW
  have hBa_ : W.heap[w.heap.size]? = some (.cells #[.int .u64 a0, .int .u64 a1, .int .u64 a2, .int .u64 a3] 25 (0, 0)) := by rw [hW]; exact (by repeat (first | (with_reducible exact HBa.out) | (with_reducible exact set4 HBa.out _ _ _ _) | (with_reducible apply set4) | (with_reducible refine heap_new' ?_ _; simp; done) | (with_reducible refine keep4 ?_ (by omega) _ _ _ _) | (with_reducible refine heap_old ?_ _) | (with_reducible refine heap_drew ?_) | (with_reducible refine heap_set_ne ?_ (by simp <;> omega) _)))
  have hBb_ : W.heap[w.heap.size + 1]? = some (.cells #[.int .u64 b0, .int .u64 b1, .int .u64 b2, .int .u64 b3] 25 (0, 0)) := by rw [hW]; exact (by repeat (first | (with_reducible exact HBb.out) | (with_reducible exact set4 HBb.out _ _ _ _) | (with_reducible apply set4) | (with_reducible refine heap_new' ?_ _; simp; done) | (with_reducible refine keep4 ?_ (by omega) _ _ _ _) | (with_reducible refine heap_old ?_ _) | (with_reducible refine heap_drew ?_) | (with_reducible refine heap_set_ne ?_ (by simp <;> omega) _)))
  have hBx_ : W.heap[b5]? = some (.cells #[.int .u64 x0, .int .u64 x1, .int .u64 x2, .int .u64 x3] 25 (0, 0)) := by rw [hW]; exact (by repeat (first | (with_reducible exact HBx.out) | (with_reducible exact set4 HBx.out _ _ _ _) | (with_reducible apply set4) | (with_reducible refine heap_new' ?_ _; simp; done) | (with_reducible refine keep4 ?_ (by omega) _ _ _ _) | (with_reducible refine heap_old ?_ _) | (with_reducible refine heap_drew ?_) | (with_reducible refine heap_set_ne ?_ (by simp <;> omega) _)))
  have hBy_ : W.heap[b6]? = some (.cells #[.int .u64 y0, .int .u64 y1, .int .u64 y2, .int .u64 y3] 25 (0, 0)) := by rw [hW]; exact (by repeat (first | (with_reducible exact HBy.out) | (with_reducible exact set4 HBy.out _ _ _ _) | (with_reducible apply set4) | (with_reducible refine heap_new' ?_ _; simp; done) | (with_reducible refine keep4 ?_ (by omega) _ _ _ _) | (with_reducible refine heap_old ?_ _) | (with_reducible refine heap_drew ?_) | (with_reducible refine heap_set_ne ?_ (by simp <;> omega) _)))
  have hBp_ : W.heap[wc.heap.size]? = some (.cells #[.int .u64 p0, .int .u64 p1, .int .u64 p2, .int .u64 p3] 25 (0, 0)) := by rw [hW]; exact (by repeat (first | (with_reducible exact HBp.out) | (with_reducible exact set4 HBp.out _ _ _ _) | (with_reducible apply set4) | (with_reducible refine heap_new' ?_ _; simp; done) | (with_reducible refine keep4 ?_ (by omega) _ _ _ _) | (with_reducible refine heap_old ?_ _) | (with_reducible refine heap_drew ?_) | (with_reducible refine heap_set_ne ?_ (by simp <;> omega) _)))
  have hBq_ : W.heap[wd.heap.size]? = some (.cells #[.int .u64 q0, .int .u64 q1, .int .u64 q2, .int .u64 q3] 25 (0, 0)) := by rw [hW]; exact (by repeat (first | (with_reducible exact HBq.out) | (with_reducible exact set4 HBq.out _ _ _ _) | (with_reducible apply set4) | (with_reducible refine heap_new' ?_ _; simp; done) | (with_reducible refine keep4 ?_ (by omega) _ _ _ _) | (with_reducible refine heap_old ?_ _) | (with_reducible refine heap_drew ?_) | (with_reducible refine heap_set_ne ?_ (by simp <;> omega) _)))
  have hBr_ : W.heap[wf.heap.size]? = some (.cells #[.int .u64 r0, .int .u64 r1, .int .u64 r2, .int .u64 r3] 25 (0, 0)) := by rw [hW]; exact (by repeat (first | (with_reducible exact HBr.out) | (with_reducible exact set4 HBr.out _ _ _ _) | (with_reducible apply set4) | (with_reducible refine heap_new' ?_ _; simp; done) | (with_reducible refine keep4 ?_ (by omega) _ _ _ _) | (with_reducible refine heap_old ?_ _) | (with_reducible refine heap_drew ?_) | (with_reducible refine heap_set_ne ?_ (by simp <;> omega) _)))
  have hBs_ : W.heap[wg.heap.size]? = some (.cells #[.int .u64 s0, .int .u64 s1, .int .u64 s2, .int .u64 s3] 25 (0, 0)) := by rw [hW]; exact (by repeat (first | (with_reducible refine heap_new' ?_ _; simp; done) | (with_reducible refine keep4 ?_ (by omega) _ _ _ _) | (with_reducible refine heap_old ?_ _) | (with_reducible refine heap_drew ?_) | (with_reducible refine heap_set_ne ?_ (by simp <;> omega) _)))
  have HB0 : Below w.heap.size w W := by rw [hW]; have hB0 := HB.out; have hS0 := hB0.size; first | exact hB0.drew | exact (set4_below hB0 (by omega) _ _ _ _).drew | go_grown
  change Rg.Chain' _ _ _ _ _ [(0, 0, 46, [(8, none)]), (1, 0, 47, [(46, some 0)]), (2, 0, 48, [(10, none), (47, some 1)]), (3, 0, 49, [(47, some 1), (48, some 2)]), (4, 0, 50, [(49, some 3)]), (5, 0, 51, [(12, none), (50, some 4)]), (6, 0, 52, [(50, some 4), (51, some 5)]), (7, 0, 53, [(52, some 6)]), (8, 1, 54, [(13, none), (53, some 7)]), (9, 1, 55, [(13, none), (53, some 7)]), (10, 1, 56, [(54, some 8), (55, some 9), (53, some 7)]), (11, 1, 57, [(56, some 10), (53, some 7)]), (12, 1, 58, [(5, none), (53, some 7)]), (13, 1, 59, [(6, none), (53, some 7)]), (14, 1, 60, [(58, some 12), (59, some 13), (53, some 7)]), (15, 1, 61, [(60, some 14), (53, some 7)]), (16, 0, 62, [(57, some 11), (61, some 15), (53, some 7)]), (17, 0, 63, [(53, some 7), (62, some 16)]), (18, 0, 64, [(63, some 17)]), (19, 1, 65, [(11, none), (64, some 18)]), (20, 1, 66, [(13, none), (64, some 18)]), (21, 0, 67, [(65, some 19), (66, some 20), (64, some 18)]), (22, 0, 68, [(67, some 21), (64, some 18)]), (23, 0, 69, [(11, none), (68, some 22)]), (24, 0, 70, [(68, some 22)]), (25, 0, 71, [(13, none), (68, some 22)]), (26, 0, 72, [(70, some 24), (71, some 25), (68, some 22)]), (27, 0, 73, [(69, some 23), (72, some 26), (68, some 22)]), (28, 0, 74, [(68, some 22), (73, some 27), (64, some 18)]), (29, 0, 75, [(64, some 18), (74, some 28)]), (30, 0, 4, [(75, some 29)])] [(0, 0, 46, [(8, none)]), (1, 0, 47, [(46, some 0)]), (2, 0, 48, [(10, none), (47, some 1)]), (3, 0, 49, [(47, some 1), (48, some 2)]), (4, 0, 50, [(49, some 3)]), (5, 0, 51, [(12, none), (50, some 4)]), (6, 0, 52, [(50, some 4), (51, some 5)]), (7, 0, 53, [(52, some 6)]), (8, 1, 54, [(13, none), (53, some 7)]), (9, 1, 55, [(13, none), (53, some 7)]), (10, 1, 56, [(54, some 8), (55, some 9), (53, some 7)]), (11, 1, 57, [(56, some 10), (53, some 7)]), (12, 1, 58, [(5, none), (53, some 7)]), (13, 1, 59, [(6, none), (53, some 7)]), (14, 1, 60, [(58, some 12), (59, some 13), (53, some 7)]), (15, 1, 61, [(60, some 14), (53, some 7)]), (16, 0, 62, [(57, some 11), (61, some 15), (53, some 7)]), (17, 0, 63, [(53, some 7), (62, some 16)]), (18, 0, 64, [(63, some 17)]), (19, 1, 65, [(11, none), (64, some 18)]), (20, 1, 66, [(13, none), (64, some 18)]), (21, 0, 67, [(65, some 19), (66, some 20), (64, some 18)]), (22, 0, 68, [(67, some 21), (64, some 18)]), (23, 0, 69, [(11, none), (68, some 22)]), (24, 0, 70, [(68, some 22)]), (25, 0, 71, [(13, none), (68, some 22)]), (26, 0, 72, [(70, some 24), (71, some 25), (68, some 22)]), (27, 0, 73, [(69, some 23), (72, some 26), (68, some 22)]), (28, 0, 74, [(68, some 22), (73, some 27), (64, some 18)]), (29, 0, 75, [(64, some 18), (74, some 28)]), (30, 0, 4, [(75, some 29)])] _
  apply Rg.ch_pure (by rfl)
  · rintro a w1 ⟨e8, -⟩
    conv at e8 => rhs; whnf
    have n8 := e8
    simp only [Act.eval, Array.getD_eq_getD_getElem?] at n8
    apply Rg.yields_run (Rg.wanted_none (by rfl))
    intro w2
    conv => lhs; simp [go_sem, n8, E1, E2]
  apply Rg.ch_pure (by rfl)
  · rintro a w1 ⟨e46, -⟩
    replace e46 : a.eval (.tmp 46) = _ := e46
    have n46 := e46
    simp only [Act.eval, Array.getD_eq_getD_getElem?] at n46
    apply Rg.yields_run (Rg.wanted_none (by rfl))
    intro w2
    conv => lhs; simp [go_sem, n46, E1, E2]
  apply Rg.ch_pure (by rfl)
  · rintro a w1 ⟨e10, e47, -⟩
    conv at e10 => rhs; whnf
    have n10 := e10
    simp only [Act.eval, Array.getD_eq_getD_getElem?] at n10
    replace e47 : a.eval (.tmp 47) = _ := e47
    have n47 := e47
    simp only [Act.eval, Array.getD_eq_getD_getElem?] at n47
    apply Rg.yields_run (Rg.wanted_some (by rfl) (by rfl) e47)
    intro w2
    conv => lhs; simp [go_sem, n10, n47, E1, E2]
  apply Rg.ch_pure (by rfl)
  · rintro a w1 ⟨e47, e48, -⟩
    replace e47 : a.eval (.tmp 47) = _ := e47
    have n47 := e47
    simp only [Act.eval, Array.getD_eq_getD_getElem?] at n47
    replace e48 : a.eval (.tmp 48) = _ := e48
    have n48 := e48
    simp only [Act.eval, Array.getD_eq_getD_getElem?] at n48
    apply Rg.yields_run (Rg.wanted_none (by rfl))
    intro w2
    conv => lhs; simp [go_sem, n47, n48, E1, E2]
  apply Rg.ch_pure (by rfl)
  · rintro a w1 ⟨e49, -⟩
    replace e49 : a.eval (.tmp 49) = _ := e49
    have n49 := e49
    simp only [Act.eval, Array.getD_eq_getD_getElem?] at n49
    apply Rg.yields_run (Rg.wanted_none (by rfl))
    intro w2
    conv => lhs; simp [go_sem, n49, E1, E2]
  apply Rg.ch_pure (by rfl)
  · rintro a w1 ⟨e12, e50, -⟩
    conv at e12 => rhs; whnf
    have n12 := e12
    simp only [Act.eval, Array.getD_eq_getD_getElem?] at n12
    replace e50 : a.eval (.tmp 50) = _ := e50
    have n50 := e50
    simp only [Act.eval, Array.getD_eq_getD_getElem?] at n50
    apply Rg.yields_run (Rg.wanted_some (by rfl) (by rfl) e50)
    intro w2
    conv => lhs; simp [go_sem, n12, n50, E1, E2]
  apply Rg.ch_pure (by rfl)
  · rintro a w1 ⟨e50, e51, -⟩
    replace e50 : a.eval (.tmp 50) = _ := e50
    have n50 := e50
    simp only [Act.eval, Array.getD_eq_getD_getElem?] at n50
    replace e51 : a.eval (.tmp 51) = _ := e51
    have n51 := e51
    simp only [Act.eval, Array.getD_eq_getD_getElem?] at n51
    apply Rg.yields_run (Rg.wanted_none (by rfl))
    intro w2
    conv => lhs; simp [go_sem, n50, n51, E1, E2]
  apply Rg.ch_pure (by rfl)
  · rintro a w1 ⟨e52, -⟩
    replace e52 : a.eval (.tmp 52) = _ := e52
    have n52 := e52
    simp only [Act.eval, Array.getD_eq_getD_getElem?] at n52
    apply Rg.yields_run (Rg.wanted_none (by rfl))
    intro w2
    conv => lhs; simp [go_sem, n52, E1, E2]
  apply Rg.ch_def (by rfl) (fun a w1 h => by obtain ⟨-, e53, -⟩ := h; exact Rg.wanted_some (by rfl) (by rfl) e53)
  · rintro a w1 hb ⟨e13, e53, -⟩
    conv at e13 => rhs; whnf
    have n13 := e13
    simp only [Act.eval, Array.getD_eq_getD_getElem?] at n13
    replace e53 : a.eval (.tmp 53) = _ := e53
    have n53 := e53
    simp only [Act.eval, Array.getD_eq_getD_getElem?] at n53
    apply Rg.gives_value
    · conv => lhs; simp [go_sem, n13, n53, cells4 (heap_keep' hb hBa_), cells4 (heap_keep' hb hBb_), cells4 (heap_keep' hb hBx_), cells4 (heap_keep' hb hBy_), cells4 (heap_keep' hb hBp_), cells4 (heap_keep' hb hBq_), cells4 (heap_keep' hb hBr_), cells4 (heap_keep' hb hBs_)]
    · exact ⟨rfl, Below.refl _ _⟩
  apply Rg.ch_def (by rfl) (fun a w1 h => by obtain ⟨-, e53, -⟩ := h; exact Rg.wanted_some (by rfl) (by rfl) e53)
  · rintro a w1 hb ⟨e13, e53, -⟩
    conv at e13 => rhs; whnf
    have n13 := e13
    simp only [Act.eval, Array.getD_eq_getD_getElem?] at n13
    replace e53 : a.eval (.tmp 53) = _ := e53
    have n53 := e53
    simp only [Act.eval, Array.getD_eq_getD_getElem?] at n53
    apply Rg.gives_value
    · conv => lhs; simp [go_sem, n13, n53, cells4 (heap_keep' hb hBa_), cells4 (heap_keep' hb hBb_), cells4 (heap_keep' hb hBx_), cells4 (heap_keep' hb hBy_), cells4 (heap_keep' hb hBp_), cells4 (heap_keep' hb hBq_), cells4 (heap_keep' hb hBr_), cells4 (heap_keep' hb hBs_)]
    · exact ⟨rfl, Below.refl _ _⟩
  apply Rg.ch_rel (Rg.Row W.heap.size 25 2 _) (Rg.stable_row _ _ _ _) (by rfl) (fun a w1 h => by obtain ⟨-, -, e53, -⟩ := h; exact Rg.wanted_some (by rfl) (by rfl) e53)
  · rintro a w1 hb ⟨e54, e55, e53, -⟩
    replace e54 : a.eval (.tmp 54) = _ := e54
    have n54 := e54
    simp only [Act.eval, Array.getD_eq_getD_getElem?] at n54
    replace e55 : a.eval (.tmp 55) = _ := e55
    have n55 := e55
    simp only [Act.eval, Array.getD_eq_getD_getElem?] at n55
    replace e53 : a.eval (.tmp 53) = _ := e53
    have n53 := e53
    simp only [Act.eval, Array.getD_eq_getD_getElem?] at n53
    apply Rg.gives_value
    · conv => lhs; simp [go_sem, n54, n55, n53]
    · exact ⟨⟨_, rfl, hb.size, heap_new _ _⟩, (Below.refl _ _).alloc (Nat.le_refl _) _⟩
  apply Rg.ch_def (by rfl) (fun a w1 h => by obtain ⟨-, e53, -⟩ := h; exact Rg.wanted_some (by rfl) (by rfl) e53)
  · rintro a w1 hb ⟨e56, e53, -⟩
    obtain ⟨b56, e56, g56, h56⟩ : ∃ b, a.eval (.tmp 56) = .slice (some ⟨b, 0, none⟩) 2 2 ∧ _ ≤ b ∧ w1.heap[b]? = _ := e56
    replace e53 : a.eval (.tmp 53) = _ := e53
    apply Rg.gives_enter
    · apply run_call Try.func25 (by kernel_rfl) rfl _ (by rfl)
      conv => lhs; simp only [List.map_toArray, List.map_cons, List.map_nil, eval_const_, eval_global_, e56]
    · refine (G8.out _ _ h56).mono ?_
      rintro e w2 ⟨rfl, hb2⟩
      exact ⟨_, rfl, rfl, hb2⟩
  apply Rg.ch_def (by rfl) (fun a w1 h => by obtain ⟨-, e53, -⟩ := h; exact Rg.wanted_some (by rfl) (by rfl) e53)
  · rintro a w1 hb ⟨e5, e53, -⟩
    conv at e5 => rhs; whnf
    have n5 := e5
    simp only [Act.eval, Array.getD_eq_getD_getElem?] at n5
    replace e53 : a.eval (.tmp 53) = _ := e53
    have n53 := e53
    simp only [Act.eval, Array.getD_eq_getD_getElem?] at n53
    apply Rg.gives_value
    · conv => lhs; simp [go_sem, n5, n53, cells4 (heap_keep' hb hBa_), cells4 (heap_keep' hb hBb_), cells4 (heap_keep' hb hBx_), cells4 (heap_keep' hb hBy_), cells4 (heap_keep' hb hBp_), cells4 (heap_keep' hb hBq_), cells4 (heap_keep' hb hBr_), cells4 (heap_keep' hb hBs_)]
    · exact ⟨rfl, Below.refl _ _⟩
  apply Rg.ch_def (by rfl) (fun a w1 h => by obtain ⟨-, e53, -⟩ := h; exact Rg.wanted_some (by rfl) (by rfl) e53)
  · rintro a w1 hb ⟨e6, e53, -⟩
    conv at e6 => rhs; whnf
    have n6 := e6
    simp only [Act.eval, Array.getD_eq_getD_getElem?] at n6
    replace e53 : a.eval (.tmp 53) = _ := e53
    have n53 := e53
    simp only [Act.eval, Array.getD_eq_getD_getElem?] at n53
    apply Rg.gives_value
    · conv => lhs; simp [go_sem, n6, n53, cells4 (heap_keep' hb hBa_), cells4 (heap_keep' hb hBb_), cells4 (heap_keep' hb hBx_), cells4 (heap_keep' hb hBy_), cells4 (heap_keep' hb hBp_), cells4 (heap_keep' hb hBq_), cells4 (heap_keep' hb hBr_), cells4 (heap_keep' hb hBs_)]
    · exact ⟨rfl, Below.refl _ _⟩
  apply Rg.ch_rel (Rg.Row W.heap.size 25 2 _) (Rg.stable_row _ _ _ _) (by rfl) (fun a w1 h => by obtain ⟨-, -, e53, -⟩ := h; exact Rg.wanted_some (by rfl) (by rfl) e53)
  · rintro a w1 hb ⟨e58, e59, e53, -⟩
    replace e58 : a.eval (.tmp 58) = _ := e58
    have n58 := e58
    simp only [Act.eval, Array.getD_eq_getD_getElem?] at n58
    replace e59 : a.eval (.tmp 59) = _ := e59
    have n59 := e59
    simp only [Act.eval, Array.getD_eq_getD_getElem?] at n59
    replace e53 : a.eval (.tmp 53) = _ := e53
    have n53 := e53
    simp only [Act.eval, Array.getD_eq_getD_getElem?] at n53
    apply Rg.gives_value
    · conv => lhs; simp [go_sem, n58, n59, n53]
    · exact ⟨⟨_, rfl, hb.size, heap_new _ _⟩, (Below.refl _ _).alloc (Nat.le_refl _) _⟩
  apply Rg.ch_def (by rfl) (fun a w1 h => by obtain ⟨-, e53, -⟩ := h; exact Rg.wanted_some (by rfl) (by rfl) e53)
  · rintro a w1 hb ⟨e60, e53, -⟩
    obtain ⟨b60, e60, g60, h60⟩ : ∃ b, a.eval (.tmp 60) = .slice (some ⟨b, 0, none⟩) 2 2 ∧ _ ≤ b ∧ w1.heap[b]? = _ := e60
    replace e53 : a.eval (.tmp 53) = _ := e53
    apply Rg.gives_enter
    · apply run_call Try.func25 (by kernel_rfl) rfl _ (by rfl)
      conv => lhs; simp only [List.map_toArray, List.map_cons, List.map_nil, eval_const_, eval_global_, e60]
    · refine (G5.out _ _ h60).mono ?_
      rintro e w2 ⟨rfl, hb2⟩
      exact ⟨_, rfl, rfl, hb2⟩
  apply Rg.ch_pure (by rfl)
  · rintro a w1 ⟨e57, e61, e53, -⟩
    replace e57 : a.eval (.tmp 57) = _ := e57
    have n57 := e57
    simp only [Act.eval, Array.getD_eq_getD_getElem?] at n57
    replace e61 : a.eval (.tmp 61) = _ := e61
    have n61 := e61
    simp only [Act.eval, Array.getD_eq_getD_getElem?] at n61
    replace e53 : a.eval (.tmp 53) = _ := e53
    have n53 := e53
    simp only [Act.eval, Array.getD_eq_getD_getElem?] at n53
    apply Rg.yields_run (Rg.wanted_some (by rfl) (by rfl) e53)
    intro w2
    conv => lhs; simp [go_sem, n57, n61, n53, E1, E2]
  apply Rg.ch_pure (by rfl)
  · rintro a w1 ⟨e53, e62, -⟩
    replace e53 : a.eval (.tmp 53) = _ := e53
    have n53 := e53
    simp only [Act.eval, Array.getD_eq_getD_getElem?] at n53
    replace e62 : a.eval (.tmp 62) = _ := e62
    have n62 := e62
    simp only [Act.eval, Array.getD_eq_getD_getElem?] at n62
    apply Rg.yields_run (Rg.wanted_none (by rfl))
    intro w2
    conv => lhs; simp [go_sem, n53, n62, E1, E2]
  apply Rg.ch_pure (by rfl)
  · rintro a w1 ⟨e63, -⟩
    replace e63 : a.eval (.tmp 63) = _ := e63
    have n63 := e63
    simp only [Act.eval, Array.getD_eq_getD_getElem?] at n63
    apply Rg.yields_run (Rg.wanted_none (by rfl))
    intro w2
    conv => lhs; simp [go_sem, n63, E1, E2]
  apply Rg.ch_def (by rfl) (fun a w1 h => by obtain ⟨-, e64, -⟩ := h; exact Rg.wanted_some (by rfl) (by rfl) e64)
  · rintro a w1 hb ⟨e11, e64, -⟩
    conv at e11 => rhs; whnf
    have n11 := e11
    simp only [Act.eval, Array.getD_eq_getD_getElem?] at n11
    replace e64 : a.eval (.tmp 64) = _ := e64
    have n64 := e64
    simp only [Act.eval, Array.getD_eq_getD_getElem?] at n64
    apply Rg.gives_value
    · conv => lhs; simp [go_sem, n11, n64, cells4 (heap_keep' hb hBa_), cells4 (heap_keep' hb hBb_), cells4 (heap_keep' hb hBx_), cells4 (heap_keep' hb hBy_), cells4 (heap_keep' hb hBp_), cells4 (heap_keep' hb hBq_), cells4 (heap_keep' hb hBr_), cells4 (heap_keep' hb hBs_)]
    · exact ⟨rfl, Below.refl _ _⟩
  apply Rg.ch_def (by rfl) (fun a w1 h => by obtain ⟨-, e64, -⟩ := h; exact Rg.wanted_some (by rfl) (by rfl) e64)
  · rintro a w1 hb ⟨e13, e64, -⟩
    conv at e13 => rhs; whnf
    have n13 := e13
    simp only [Act.eval, Array.getD_eq_getD_getElem?] at n13
    replace e64 : a.eval (.tmp 64) = _ := e64
    have n64 := e64
    simp only [Act.eval, Array.getD_eq_getD_getElem?] at n64
    apply Rg.gives_value
    · conv => lhs; simp [go_sem, n13, n64, cells4 (heap_keep' hb hBa_), cells4 (heap_keep' hb hBb_), cells4 (heap_keep' hb hBx_), cells4 (heap_keep' hb hBy_), cells4 (heap_keep' hb hBp_), cells4 (heap_keep' hb hBq_), cells4 (heap_keep' hb hBr_), cells4 (heap_keep' hb hBs_)]
    · exact ⟨rfl, Below.refl _ _⟩
  apply Rg.ch_pure (by rfl)
  · rintro a w1 ⟨e65, e66, e64, -⟩
    replace e65 : a.eval (.tmp 65) = _ := e65
    have n65 := e65
    simp only [Act.eval, Array.getD_eq_getD_getElem?] at n65
    replace e66 : a.eval (.tmp 66) = _ := e66
    have n66 := e66
    simp only [Act.eval, Array.getD_eq_getD_getElem?] at n66
    replace e64 : a.eval (.tmp 64) = _ := e64
    have n64 := e64
    simp only [Act.eval, Array.getD_eq_getD_getElem?] at n64
    apply Rg.yields_run (Rg.wanted_some (by rfl) (by rfl) e64)
    intro w2
    conv => lhs; simp [go_sem, n65, n66, n64, E1, E2]
  apply Rg.ch_pure (by rfl)
  · rintro a w1 ⟨e67, e64, -⟩
    replace e67 : a.eval (.tmp 67) = _ := e67
    have n67 := e67
    simp only [Act.eval, Array.getD_eq_getD_getElem?] at n67
    replace e64 : a.eval (.tmp 64) = _ := e64
    have n64 := e64
    simp only [Act.eval, Array.getD_eq_getD_getElem?] at n64
    apply Rg.yields_run (Rg.wanted_some (by rfl) (by rfl) e64)
    intro w2
    conv => lhs; simp [go_sem, n67, n64, E1, E2]
  apply Rg.ch_pure (by rfl)
  · rintro a w1 ⟨e11, e68, -⟩
    conv at e11 => rhs; whnf
    have n11 := e11
    simp only [Act.eval, Array.getD_eq_getD_getElem?] at n11
    replace e68 : a.eval (.tmp 68) = _ := e68
    have n68 := e68
    simp only [Act.eval, Array.getD_eq_getD_getElem?] at n68
    first | exact Rg.yields_skip (Rg.wanted_not (by rfl) (by rfl) e68 (by decide)) | exact Rg.yields_skip (Rg.wanted_undef (by rfl) (by rfl) e68)
  apply Rg.ch_pure (by rfl)
  · rintro a w1 ⟨e68, -⟩
    replace e68 : a.eval (.tmp 68) = _ := e68
    have n68 := e68
    simp only [Act.eval, Array.getD_eq_getD_getElem?] at n68
    first | exact Rg.yields_skip (Rg.wanted_not (by rfl) (by rfl) e68 (by decide)) | exact Rg.yields_skip (Rg.wanted_undef (by rfl) (by rfl) e68)
  apply Rg.ch_pure (by rfl)
  · rintro a w1 ⟨e13, e68, -⟩
    conv at e13 => rhs; whnf
    have n13 := e13
    simp only [Act.eval, Array.getD_eq_getD_getElem?] at n13
    replace e68 : a.eval (.tmp 68) = _ := e68
    have n68 := e68
    simp only [Act.eval, Array.getD_eq_getD_getElem?] at n68
    first | exact Rg.yields_skip (Rg.wanted_not (by rfl) (by rfl) e68 (by decide)) | exact Rg.yields_skip (Rg.wanted_undef (by rfl) (by rfl) e68)
  apply Rg.ch_pure (by rfl)
  · rintro a w1 ⟨e70, e71, e68, -⟩
    replace e70 : a.eval (.tmp 70) = _ := e70
    have n70 := e70
    simp only [Act.eval, Array.getD_eq_getD_getElem?] at n70
    replace e71 : a.eval (.tmp 71) = _ := e71
    have n71 := e71
    simp only [Act.eval, Array.getD_eq_getD_getElem?] at n71
    replace e68 : a.eval (.tmp 68) = _ := e68
    have n68 := e68
    simp only [Act.eval, Array.getD_eq_getD_getElem?] at n68
    first | exact Rg.yields_skip (Rg.wanted_not (by rfl) (by rfl) e68 (by decide)) | exact Rg.yields_skip (Rg.wanted_undef (by rfl) (by rfl) e68)
  apply Rg.ch_pure (by rfl)
  · rintro a w1 ⟨e69, e72, e68, -⟩
    replace e69 : a.eval (.tmp 69) = _ := e69
    have n69 := e69
    simp only [Act.eval, Array.getD_eq_getD_getElem?] at n69
    replace e72 : a.eval (.tmp 72) = _ := e72
    have n72 := e72
    simp only [Act.eval, Array.getD_eq_getD_getElem?] at n72
    replace e68 : a.eval (.tmp 68) = _ := e68
    have n68 := e68
    simp only [Act.eval, Array.getD_eq_getD_getElem?] at n68
    first | exact Rg.yields_skip (Rg.wanted_not (by rfl) (by rfl) e68 (by decide)) | exact Rg.yields_skip (Rg.wanted_undef (by rfl) (by rfl) e68)
  apply Rg.ch_pure (by rfl)
  · rintro a w1 ⟨e68, e73, e64, -⟩
    replace e68 : a.eval (.tmp 68) = _ := e68
    have n68 := e68
    simp only [Act.eval, Array.getD_eq_getD_getElem?] at n68
    replace e73 : a.eval (.tmp 73) = _ := e73
    have n73 := e73
    simp only [Act.eval, Array.getD_eq_getD_getElem?] at n73
    replace e64 : a.eval (.tmp 64) = _ := e64
    have n64 := e64
    simp only [Act.eval, Array.getD_eq_getD_getElem?] at n64
    apply Rg.yields_run (Rg.wanted_some (by rfl) (by rfl) e64)
    intro w2
    conv => lhs; simp [go_sem, n68, n73, n64, E1, E2]
  apply Rg.ch_pure (by rfl)
  · rintro a w1 ⟨e64, e74, -⟩
    replace e64 : a.eval (.tmp 64) = _ := e64
    have n64 := e64
    simp only [Act.eval, Array.getD_eq_getD_getElem?] at n64
    replace e74 : a.eval (.tmp 74) = _ := e74
    have n74 := e74
    simp only [Act.eval, Array.getD_eq_getD_getElem?] at n74
    apply Rg.yields_run (Rg.wanted_none (by rfl))
    intro w2
    conv => lhs; simp [go_sem, n64, n74, E1, E2]
  apply Rg.ch_pure (by rfl)
  · rintro a w1 ⟨e75, -⟩
    replace e75 : a.eval (.tmp 75) = _ := e75
    have n75 := e75
    simp only [Act.eval, Array.getD_eq_getD_getElem?] at n75
    apply Rg.yields_run (Rg.wanted_none (by rfl))
    intro w2
    conv => lhs; simp [go_sem, n75, E1, E2]
  intro w1 hb1
  rintro _ rfl _ rfl _ rfl _ rfl _ rfl _ rfl _ rfl _ rfl _ rfl _ rfl v56 ⟨b56, rfl, ge56, hh56⟩ _ rfl _ rfl _ rfl v60 ⟨b60, rfl, ge60, hh60⟩ _ rfl _ rfl _ rfl _ rfl _ rfl _ rfl _ rfl _ rfl _ rfl _ rfl _ rfl _ rfl _ rfl _ rfl _ rfl _ rfl
  change Go.wpList _ _ _ _ _ _
  set_option maxRecDepth 100000 in simp only [List.drop_succ_cons, List.drop_zero, List.drop_nil, Act.put, List.setIfInBounds_toArray, List.set_cons_succ, List.set_cons_zero]
  change Go.NoPanic _ _ _ _
  refine NoPanic.normal ?_
  have HBn : Hid (Below w.heap.size w w1) := Lib.hid (below_call HB0 HB0.size hb1)
  have hBa__ := heap_keep' hb1 hBa_
  have hBb__ := heap_keep' hb1 hBb_
  have hBx__ := heap_keep' hb1 hBx_
  have hBy__ := heap_keep' hb1 hBy_
  have hBp__ := heap_keep' hb1 hBp_
  have hBq__ := heap_keep' hb1 hBq_
  have hBr__ := heap_keep' hb1 hBr_
  have hBs__ := heap_keep' hb1 hBs_
  clear hb1 HB0 HB hBa_ HBa cBa fBa zBa hBb_ HBb cBb fBb zBb hBx_ HBx cBx fBx zBx hBy_ HBy cBy fBy zBy hBp_ HBp cBp fBp zBp hBq_ HBq cBq fBq zBq hBr_ HBr cBr fBr zBr hBs_
  clear hW
  obtain ⟨wh, rfl⟩ : ∃ x : World, x = w1 := ⟨_, rfl⟩
  have HB := HBn; clear HBn
  have HBa := Lib.hid hBa__; have cBa := cells4 hBa__; have fBa := frozen_of hBa__; have zBa := lt_of_heap hBa__; clear hBa__
  have HBb := Lib.hid hBb__; have cBb := cells4 hBb__; have fBb := frozen_of hBb__; have zBb := lt_of_heap hBb__; clear hBb__
  have HBx := Lib.hid hBx__; have cBx := cells4 hBx__; have fBx := frozen_of hBx__; have zBx := lt_of_heap hBx__; clear hBx__
  have HBy := Lib.hid hBy__; have cBy := cells4 hBy__; have fBy := frozen_of hBy__; have zBy := lt_of_heap hBy__; clear hBy__
  have HBp := Lib.hid hBp__; have cBp := cells4 hBp__; have fBp := frozen_of hBp__; have zBp := lt_of_heap hBp__; clear hBp__
  have HBq := Lib.hid hBq__; have cBq := cells4 hBq__; have fBq := frozen_of hBq__; have zBq := lt_of_heap hBq__; clear hBq__
  have HBr := Lib.hid hBr__; have cBr := cells4 hBr__; have fBr := frozen_of hBr__; have zBr := lt_of_heap hBr__; clear hBr__
  have HBs := Lib.hid hBs__; have cBs := cells4 hBs__; have fBs := frozen_of hBs__; have zBs := lt_of_heap hBs__; clear hBs__
  go_wp2
  go_ret
  refine ⟨rfl, ?_⟩
  have hB0 := HB.out; have hS0 := hB0.size; first | exact hB0 | go_grown

set_option maxHeartbeats 8000000 in
theorem squares_1 (a0 a1 a2 a3 b0 b1 b2 b3 x0 x1 x2 x3 y0 y1 y2 y3 p0 p1 p2 p3 q0 q1 q2 q3 m0 m1 m2 m3 r0 r1 r2 r3 s0 s1 s2 s3 t0 t1 t2 t3 : Nat) (k1 : V s0 s1 s2 s3 % 2 = 1) (hs : W4 s0 s1 s2 s3) (hr : W4 r0 r1 r2 r3) (hm : W4 m0 m1 m2 m3) (ht : W4 t0 t1 t2 t3) (hsl : V s0 s1 s2 s3 < pP) (hrl : V r0 r1 r2 r3 < pP) (hre : V r0 r1 r2 r3 % 2 = 0) (hrs : V r0 r1 r2 r3 * V r0 r1 r2 r3 % pP = V s0 s1 s2 s3 * V s0 s1 s2 s3 % pP) (htm : V t0 t1 t2 t3 = V m0 m1 m2 m3)
    (G1 : Hid (∀ (b : Nat) (w : World), w.heap[b]? = some (.cells #[.int .u64 a0, .int .u64 a1, .int .u64 a2, .int .u64 a3, .int .u64 a0, .int .u64 a1, .int .u64 a2, .int .u64 a3] 25 (0, 0)) → Calls Try.prog 25 #[.slice (some ⟨b, 0, none⟩) 2 2] w fun e w' => e = .returned (.agg #[.int .u64 x0, .int .u64 x1, .int .u64 x2, .int .u64 x3]) ∧ Below w.heap.size w w'))
    (G2 : Hid (∀ (b : Nat) (w : World), w.heap[b]? = some (.cells #[.int .u64 b0, .int .u64 b1, .int .u64 b2, .int .u64 b3, .int .u64 b0, .int .u64 b1, .int .u64 b2, .int .u64 b3] 25 (0, 0)) → Calls Try.prog 25 #[.slice (some ⟨b, 0, none⟩) 2 2] w fun e w' => e = .returned (.agg #[.int .u64 y0, .int .u64 y1, .int .u64 y2, .int .u64 y3]) ∧ Below w.heap.size w w'))
    (G3 : Hid (∀ w : World, Calls Try.prog 36 #[.agg #[.int .u64 x0, .int .u64 x1, .int .u64 x2, .int .u64 x3]] w fun e w' => e = .returned (.tuple #[.agg #[.int .u64 p0, .int .u64 p1, .int .u64 p2, .int .u64 p3], .bool true]) ∧ Below w.heap.size w w'))
    (G4 : Hid (∀ w : World, Calls Try.prog 36 #[.agg #[.int .u64 y0, .int .u64 y1, .int .u64 y2, .int .u64 y3]] w fun e w' => e = .returned (.tuple #[.agg #[.int .u64 q0, .int .u64 q1, .int .u64 q2, .int .u64 q3], .bool true]) ∧ Below w.heap.size w w'))
    (G5 : Hid (∀ (b : Nat) (w : World), w.heap[b]? = some (.cells #[.int .u64 x0, .int .u64 x1, .int .u64 x2, .int .u64 x3, .int .u64 y0, .int .u64 y1, .int .u64 y2, .int .u64 y3] 25 (0, 0)) → Calls Try.prog 25 #[.slice (some ⟨b, 0, none⟩) 2 2] w fun e w' => e = .returned (.agg #[.int .u64 m0, .int .u64 m1, .int .u64 m2, .int .u64 m3]) ∧ Below w.heap.size w w'))
    (G6 : Hid (∀ w : World, Calls Try.prog 36 #[.agg #[.int .u64 m0, .int .u64 m1, .int .u64 m2, .int .u64 m3]] w fun e w' => e = .returned (.tuple #[.agg #[.int .u64 r0, .int .u64 r1, .int .u64 r2, .int .u64 r3], .bool true]) ∧ Below w.heap.size w w'))
    (G7 : Hid (∀ (b : Nat) (w : World), w.heap[b]? = some (.cells #[.int .u64 p0, .int .u64 p1, .int .u64 p2, .int .u64 p3, .int .u64 q0, .int .u64 q1, .int .u64 q2, .int .u64 q3] 25 (0, 0)) → Calls Try.prog 25 #[.slice (some ⟨b, 0, none⟩) 2 2] w fun e w' => e = .returned (.agg #[.int .u64 s0, .int .u64 s1, .int .u64 s2, .int .u64 s3]) ∧ Below w.heap.size w w'))
    (G8 : Hid (∀ (b : Nat) (w : World), w.heap[b]? = some (.cells #[.int .u64 s0, .int .u64 s1, .int .u64 s2, .int .u64 s3, .int .u64 s0, .int .u64 s1, .int .u64 s2, .int .u64 s3] 25 (0, 0)) → Calls Try.prog 25 #[.slice (some ⟨b, 0, none⟩) 2 2] w fun e w' => e = .returned (.agg #[.int .u64 t0, .int .u64 t1, .int .u64 t2, .int .u64 t3]) ∧ Below w.heap.size w w')) (w : World) : Calls Try.prog 10 #[.agg #[.int .u64 a0, .int .u64 a1, .int .u64 a2, .int .u64 a3], .agg #[.int .u64 b0, .int .u64 b1, .int .u64 b2, .int .u64 b3]] w fun e w' => e = .returned (.bool true) ∧ Below w.heap.size w w' := by
  have H0 := Lib.hid awake_fact
  have E1 := eqL_true ht hm htm
  obtain ⟨n0, n1, n2, n3, ⟨hn, hnv⟩, F9⟩ := Sub_fact 0 0 0 0 s0 s1 s2 s3 zero4 hs
  have G9 := Lib.hid F9
  have hz := Pl.neg_root hsl k1
  rw [V_zero4, hz.1] at hnv
  have E2 := eqL_false hr hs (fun h => by rw [h, k1] at hre; cases hre)
  have E3 := eqL_true hr hn (by rw [hnv]; exact Pl.same_root hrl hz.2.2.1 hre hz.2.1 (by rw [hz.2.2.2, hrs]))
  clear F9 hnv hz hn
  clear k1 hs hr hm ht hsl hrl hre hrs htm
  go_enter Try.func10, Try.ntmps10
  go_wp2_with (fail)
  go_at_call 13
  refine (H0.out _).mono ?_
  rintro e wa ⟨rfl, hb⟩
  have HBn : Hid (Below w.heap.size w wa) := Lib.hid ((fun (h : Below _ _ _) => below_call h h.size hb) (by first | go_grown))
  have hBa_ : wa.heap[w.heap.size]? = some (.cells #[.int .u64 a0, .int .u64 a1, .int .u64 a2, .int .u64 a3] 25 (0, 0)) := heap_keep' hb (by repeat (first | (with_reducible refine heap_new' ?_ _; simp; done) | (with_reducible refine keep4 ?_ (by omega) _ _ _ _) | (with_reducible refine heap_old ?_ _) | (with_reducible refine heap_drew ?_) | (with_reducible refine heap_set_ne ?_ (by simp <;> omega) _)))
  have hBb_ : wa.heap[w.heap.size + 1]? = some (.cells #[.int .u64 b0, .int .u64 b1, .int .u64 b2, .int .u64 b3] 25 (0, 0)) := heap_keep' hb (by repeat (first | (with_reducible refine heap_new' ?_ _; simp; done) | (with_reducible refine keep4 ?_ (by omega) _ _ _ _) | (with_reducible refine heap_old ?_ _) | (with_reducible refine heap_drew ?_) | (with_reducible refine heap_set_ne ?_ (by simp <;> omega) _)))
  clear hb
  have HB := HBn; clear HBn
  have HBa := Lib.hid hBa_; have cBa := cells4 hBa_; have fBa := frozen_of hBa_; have zBa := lt_of_heap hBa_; clear hBa_
  have HBb := Lib.hid hBb_; have cBb := cells4 hBb_; have fBb := frozen_of hBb_; have zBb := lt_of_heap hBb_; clear hBb_
  go_wp2
  refine Rg.region2_ (n := 76) [0, 0, 3, 7, 0, 0, 48, 127, 0, 0, 1023, 2047] [1, 1, 1, 1, 1, 1, 1, 1, 1, 1, 2, 2] [16, 17, 18, 19, 20, 21, 22, 23, 5, 6, 0, 0] [[(2, none)], [(2, none)], [(16, some 0), (17, some 1)], [(18, some 2)], [(3, none)], [(3, none)], [(20, some 4), (21, some 5)], [(22, some 6)], [], [], [(5, some 8), (19, some 3)], [(6, some 9), (23, some 7)]] 10 (by kernel_rfl) (by kernel_rfl) (by rfl) ?_
  intro W hW
  have hBa_ : W.heap[w.heap.size]? = some (.cells #[.int .u64 a0, .int .u64 a1, .int .u64 a2, .int .u64 a3] 25 (0, 0)) := by rw [hW]; exact (by repeat (first | (with_reducible exact HBa.out) | (with_reducible exact set4 HBa.out _ _ _ _) | (with_reducible apply set4) | (with_reducible refine heap_new' ?_ _; simp; done) | (with_reducible refine keep4 ?_ (by omega) _ _ _ _) | (with_reducible refine heap_old ?_ _) | (with_reducible refine heap_drew ?_) | (with_reducible refine heap_set_ne ?_ (by simp <;> omega) _)))
  have hBb_ : W.heap[w.heap.size + 1]? = some (.cells #[.int .u64 b0, .int .u64 b1, .int .u64 b2, .int .u64 b3] 25 (0, 0)) := by rw [hW]; exact (by repeat (first | (with_reducible exact HBb.out) | (with_reducible exact set4 HBb.out _ _ _ _) | (with_reducible apply set4) | (with_reducible refine heap_new' ?_ _; simp; done) | (with_reducible refine keep4 ?_ (by omega) _ _ _ _) | (with_reducible refine heap_old ?_ _) | (with_reducible refine heap_drew ?_) | (with_reducible refine heap_set_ne ?_ (by simp <;> omega) _)))
  have HB0 : Below w.heap.size w W := by rw [hW]; have hB0 := HB.out; have hS0 := hB0.size; first | exact hB0.drew | exact (set4_below hB0 (by omega) _ _ _ _).drew | go_grown
  change Rg.Chain' _ _ _ _ _ [(0, 1, 16, [(2, none)]), (1, 1, 17, [(2, none)]), (2, 1, 18, [(16, some 0), (17, some 1)]), (3, 1, 19, [(18, some 2)]), (4, 1, 20, [(3, none)]), (5, 1, 21, [(3, none)]), (6, 1, 22, [(20, some 4), (21, some 5)]), (7, 1, 23, [(22, some 6)]), (8, 1, 5, []), (9, 1, 6, [])] [(0, 1, 16, [(2, none)]), (1, 1, 17, [(2, none)]), (2, 1, 18, [(16, some 0), (17, some 1)]), (3, 1, 19, [(18, some 2)]), (4, 1, 20, [(3, none)]), (5, 1, 21, [(3, none)]), (6, 1, 22, [(20, some 4), (21, some 5)]), (7, 1, 23, [(22, some 6)]), (8, 1, 5, []), (9, 1, 6, [])] _
  apply Rg.ch_def (by rfl) (fun a w1 _ => Rg.wanted_none (by rfl))
  · rintro a w1 hb ⟨e2, -⟩
    conv at e2 => rhs; whnf
    have n2 := e2
    simp only [Act.eval, Array.getD_eq_getD_getElem?] at n2
    apply Rg.gives_value
    · conv => lhs; simp [go_sem, n2, cells4 (heap_keep' hb hBa_), cells4 (heap_keep' hb hBb_)]
    · exact ⟨rfl, Below.refl _ _⟩
  apply Rg.ch_def (by rfl) (fun a w1 _ => Rg.wanted_none (by rfl))
  · rintro a w1 hb ⟨e2, -⟩
    conv at e2 => rhs; whnf
    have n2 := e2
    simp only [Act.eval, Array.getD_eq_getD_getElem?] at n2
    apply Rg.gives_value
    · conv => lhs; simp [go_sem, n2, cells4 (heap_keep' hb hBa_), cells4 (heap_keep' hb hBb_)]
    · exact ⟨rfl, Below.refl _ _⟩
  apply Rg.ch_rel (Rg.Row W.heap.size 25 2 _) (Rg.stable_row _ _ _ _) (by rfl) (fun a w1 _ => Rg.wanted_none (by rfl))
  · rintro a w1 hb ⟨e16, e17, -⟩
    replace e16 : a.eval (.tmp 16) = _ := e16
    have n16 := e16
    simp only [Act.eval, Array.getD_eq_getD_getElem?] at n16
    replace e17 : a.eval (.tmp 17) = _ := e17
    have n17 := e17
    simp only [Act.eval, Array.getD_eq_getD_getElem?] at n17
    apply Rg.gives_value
    · conv => lhs; simp [go_sem, n16, n17]
    · exact ⟨⟨_, rfl, hb.size, heap_new _ _⟩, (Below.refl _ _).alloc (Nat.le_refl _) _⟩
  apply Rg.ch_def (by rfl) (fun a w1 _ => Rg.wanted_none (by rfl))
  · rintro a w1 hb ⟨e18, -⟩
    obtain ⟨b18, e18, g18, h18⟩ : ∃ b, a.eval (.tmp 18) = .slice (some ⟨b, 0, none⟩) 2 2 ∧ _ ≤ b ∧ w1.heap[b]? = _ := e18
    apply Rg.gives_enter
    · apply run_call Try.func25 (by kernel_rfl) rfl _ (by rfl)
      conv => lhs; simp only [List.map_toArray, List.map_cons, List.map_nil, eval_const_, eval_global_, e18]
    · refine (G1.out _ _ h18).mono ?_
      rintro e w2 ⟨rfl, hb2⟩
      exact ⟨_, rfl, rfl, hb2⟩
  apply Rg.ch_def (by rfl) (fun a w1 _ => Rg.wanted_none (by rfl))
  · rintro a w1 hb ⟨e3, -⟩
    conv at e3 => rhs; whnf
    have n3 := e3
    simp only [Act.eval, Array.getD_eq_getD_getElem?] at n3
    apply Rg.gives_value
    · conv => lhs; simp [go_sem, n3, cells4 (heap_keep' hb hBa_), cells4 (heap_keep' hb hBb_)]
    · exact ⟨rfl, Below.refl _ _⟩
  apply Rg.ch_def (by rfl) (fun a w1 _ => Rg.wanted_none (by rfl))
  · rintro a w1 hb ⟨e3, -⟩
    conv at e3 => rhs; whnf
    have n3 := e3
    simp only [Act.eval, Array.getD_eq_getD_getElem?] at n3
    apply Rg.gives_value
    · conv => lhs; simp [go_sem, n3, cells4 (heap_keep' hb hBa_), cells4 (heap_keep' hb hBb_)]
    · exact ⟨rfl, Below.refl _ _⟩
  apply Rg.ch_rel (Rg.Row W.heap.size 25 2 _) (Rg.stable_row _ _ _ _) (by rfl) (fun a w1 _ => Rg.wanted_none (by rfl))
  · rintro a w1 hb ⟨e20, e21, -⟩
    replace e20 : a.eval (.tmp 20) = _ := e20
    have n20 := e20
    simp only [Act.eval, Array.getD_eq_getD_getElem?] at n20
    replace e21 : a.eval (.tmp 21) = _ := e21
    have n21 := e21
    simp only [Act.eval, Array.getD_eq_getD_getElem?] at n21
    apply Rg.gives_value
    · conv => lhs; simp [go_sem, n20, n21]
    · exact ⟨⟨_, rfl, hb.size, heap_new _ _⟩, (Below.refl _ _).alloc (Nat.le_refl _) _⟩
  apply Rg.ch_def (by rfl) (fun a w1 _ => Rg.wanted_none (by rfl))
  · rintro a w1 hb ⟨e22, -⟩
    obtain ⟨b22, e22, g22, h22⟩ : ∃ b, a.eval (.tmp 22) = .slice (some ⟨b, 0, none⟩) 2 2 ∧ _ ≤ b ∧ w1.heap[b]? = _ := e22
    apply Rg.gives_enter
    · apply run_call Try.func25 (by kernel_rfl) rfl _ (by rfl)
      conv => lhs; simp only [List.map_toArray, List.map_cons, List.map_nil, eval_const_, eval_global_, e22]
    · refine (G2.out _ _ h22).mono ?_
      rintro e w2 ⟨rfl, hb2⟩
      exact ⟨_, rfl, rfl, hb2⟩
  apply Rg.ch_rel (Rg.Box W.heap.size 25 _) (Rg.stable_box _ _ _) (by rfl) (fun a w1 _ => Rg.wanted_none (by rfl))
  · rintro a w1 hb -
    apply Rg.gives_value
    · conv => lhs; simp [go_sem]
    · exact ⟨⟨_, rfl, hb.size, heap_new _ _⟩, (Below.refl _ _).alloc (Nat.le_refl _) _⟩
  apply Rg.ch_rel (Rg.Box W.heap.size 25 _) (Rg.stable_box _ _ _) (by rfl) (fun a w1 _ => Rg.wanted_none (by rfl))
  · rintro a w1 hb -
    apply Rg.gives_value
    · conv => lhs; simp [go_sem]
    · exact ⟨⟨_, rfl, hb.size, heap_new _ _⟩, (Below.refl _ _).alloc (Nat.le_refl _) _⟩
  intro w1 hb1
  rintro _ rfl _ rfl v18 ⟨b18, rfl, ge18, hh18⟩ _ rfl _ rfl _ rfl v22 ⟨b22, rfl, ge22, hh22⟩ _ rfl v5 ⟨b5, rfl, ge5, hh5⟩ v6 ⟨b6, rfl, ge6, hh6⟩
  intro hDist
  simp only [Act.put, List.setIfInBounds_toArray, List.set_cons_succ, List.set_cons_zero] at hDist
  have ne_5_6 : b5 ≠ b6 := fun h => hDist 8 9 _ _ _ _ (by decide) rfl rfl rfl rfl rfl rfl (by subst h; rfl)
  clear hDist
  change Go.wpList _ _ _ _ _ _
  simp only [List.drop_succ_cons, List.drop_zero, List.drop_nil, Act.put, List.setIfInBounds_toArray, List.set_cons_succ, List.set_cons_zero]
  have HBn : Hid (Below w.heap.size w w1) := Lib.hid (below_call HB0 HB0.size hb1)
  have hBa__ := heap_keep' hb1 hBa_
  have hBb__ := heap_keep' hb1 hBb_
  have ltBa_wb := lt_of_heap hBa_
  have ltBb_wb := lt_of_heap hBb_
  clear hb1 HB0 HB hBa_ HBa cBa fBa zBa hBb_ HBb cBb fBb zBb
  clear hW
  obtain ⟨wb, rfl⟩ : ∃ x : World, x = w1 := ⟨_, rfl⟩
  have HB := HBn; clear HBn
  have HBa := Lib.hid hBa__; have cBa := cells4 hBa__; have fBa := frozen_of hBa__; have zBa := lt_of_heap hBa__; clear hBa__
  have HBb := Lib.hid hBb__; have cBb := cells4 hBb__; have fBb := frozen_of hBb__; have zBb := lt_of_heap hBb__; clear hBb__
  have HBx := Lib.hid hh5; have cBx := cells4 hh5; have fBx := frozen_of hh5; have zBx := lt_of_heap hh5; clear hh5
  have HBy := Lib.hid hh6; have cBy := cells4 hh6; have fBy := frozen_of hh6; have zBy := lt_of_heap hh6; clear hh6
  go_wp2
  refine NoPanic.normal ?_
  go_wp2_with (fail)
  go_at_call 36
  refine (G3.out _).mono ?_
  rintro e wc ⟨rfl, hb⟩
  have HBn : Hid (Below w.heap.size w wc) := Lib.hid ((fun (h : Below _ _ _) => below_call h h.size hb) (by have hB0 := HB.out; have hS0 := hB0.size; first | (with_reducible exact hB0) | (with_reducible exact set4_below hB0 (by omega) _ _ _ _) | (with_reducible exact set4_below (set4_below hB0 (by omega) _ _ _ _) (by omega) _ _ _ _) | (with_reducible exact set4_below (set4_below (set4_below (set4_below hB0 (by omega) _ _ _ _) (by omega) _ _ _ _) (by omega) _ _ _ _) (by omega) _ _ _ _) | go_grown))
  have hBa_ : wc.heap[w.heap.size]? = some (.cells #[.int .u64 a0, .int .u64 a1, .int .u64 a2, .int .u64 a3] 25 (0, 0)) := heap_keep' hb (by repeat (first | (with_reducible exact HBa.out) | (with_reducible exact set4 HBa.out _ _ _ _) | (with_reducible apply set4) | (with_reducible refine heap_new' ?_ _; simp; done) | (with_reducible refine keep4 ?_ (by omega) _ _ _ _) | (with_reducible refine heap_old ?_ _) | (with_reducible refine heap_drew ?_) | (with_reducible refine heap_set_ne ?_ (by simp <;> omega) _)))
  have hBb_ : wc.heap[w.heap.size + 1]? = some (.cells #[.int .u64 b0, .int .u64 b1, .int .u64 b2, .int .u64 b3] 25 (0, 0)) := heap_keep' hb (by repeat (first | (with_reducible exact HBb.out) | (with_reducible exact set4 HBb.out _ _ _ _) | (with_reducible apply set4) | (with_reducible refine heap_new' ?_ _; simp; done) | (with_reducible refine keep4 ?_ (by omega) _ _ _ _) | (with_reducible refine heap_old ?_ _) | (with_reducible refine heap_drew ?_) | (with_reducible refine heap_set_ne ?_ (by simp <;> omega) _)))
  have hBx_ : wc.heap[b5]? = some (.cells #[.int .u64 x0, .int .u64 x1, .int .u64 x2, .int .u64 x3] 25 (0, 0)) := heap_keep' hb (by repeat (first | (with_reducible exact HBx.out) | (with_reducible exact set4 HBx.out _ _ _ _) | (with_reducible apply set4) | (with_reducible refine heap_new' ?_ _; simp; done) | (with_reducible refine keep4 ?_ (by omega) _ _ _ _) | (with_reducible refine heap_old ?_ _) | (with_reducible refine heap_drew ?_) | (with_reducible refine heap_set_ne ?_ (by simp <;> omega) _)))
  have hBy_ : wc.heap[b6]? = some (.cells #[.int .u64 y0, .int .u64 y1, .int .u64 y2, .int .u64 y3] 25 (0, 0)) := heap_keep' hb (by repeat (first | (with_reducible exact HBy.out) | (with_reducible exact set4 HBy.out _ _ _ _) | (with_reducible apply set4) | (with_reducible refine heap_new' ?_ _; simp; done) | (with_reducible refine keep4 ?_ (by omega) _ _ _ _) | (with_reducible refine heap_old ?_ _) | (with_reducible refine heap_drew ?_) | (with_reducible refine heap_set_ne ?_ (by simp <;> omega) _)))
  clear hb HB HBa cBa fBa zBa HBb cBb fBb zBb HBx cBx fBx zBx HBy cBy fBy zBy
  have HB := HBn; clear HBn
  have HBa := Lib.hid hBa_; have cBa := cells4 hBa_; have fBa := frozen_of hBa_; have zBa := lt_of_heap hBa_; clear hBa_
  have HBb := Lib.hid hBb_; have cBb := cells4 hBb_; have fBb := frozen_of hBb_; have zBb := lt_of_heap hBb_; clear hBb_
  have HBx := Lib.hid hBx_; have cBx := cells4 hBx_; have fBx := frozen_of hBx_; have zBx := lt_of_heap hBx_; clear hBx_
  have HBy := Lib.hid hBy_; have cBy := cells4 hBy_; have fBy := frozen_of hBy_; have zBy := lt_of_heap hBy_; clear hBy_
  go_wp2_with (fail)
  go_at_call 36
  refine (G4.out _).mono ?_
  rintro e wd ⟨rfl, hb⟩
  have HBn : Hid (Below w.heap.size w wd) := Lib.hid ((fun (h : Below _ _ _) => below_call h h.size hb) (by have hB0 := HB.out; have hS0 := hB0.size; first | (with_reducible exact hB0) | (with_reducible exact set4_below hB0 (by omega) _ _ _ _) | (with_reducible exact set4_below (set4_below hB0 (by omega) _ _ _ _) (by omega) _ _ _ _) | (with_reducible exact set4_below (set4_below (set4_below (set4_below hB0 (by omega) _ _ _ _) (by omega) _ _ _ _) (by omega) _ _ _ _) (by omega) _ _ _ _) | go_grown))
  have hBa_ : wd.heap[w.heap.size]? = some (.cells #[.int .u64 a0, .int .u64 a1, .int .u64 a2, .int .u64 a3] 25 (0, 0)) := heap_keep' hb (by repeat (first | (with_reducible exact HBa.out) | (with_reducible exact set4 HBa.out _ _ _ _) | (with_reducible apply set4) | (with_reducible refine heap_new' ?_ _; simp; done) | (with_reducible refine keep4 ?_ (by omega) _ _ _ _) | (with_reducible refine heap_old ?_ _) | (with_reducible refine heap_drew ?_) | (with_reducible refine heap_set_ne ?_ (by simp <;> omega) _)))
  have hBb_ : wd.heap[w.heap.size + 1]? = some (.cells #[.int .u64 b0, .int .u64 b1, .int .u64 b2, .int .u64 b3] 25 (0, 0)) := heap_keep' hb (by repeat (first | (with_reducible exact HBb.out) | (with_reducible exact set4 HBb.out _ _ _ _) | (with_reducible apply set4) | (with_reducible refine heap_new' ?_ _; simp; done) | (with_reducible refine keep4 ?_ (by omega) _ _ _ _) | (with_reducible refine heap_old ?_ _) | (with_reducible refine heap_drew ?_) | (with_reducible refine heap_set_ne ?_ (by simp <;> omega) _)))
  have hBx_ : wd.heap[b5]? = some (.cells #[.int .u64 x0, .int .u64 x1, .int .u64 x2, .int .u64 x3] 25 (0, 0)) := heap_keep' hb (by repeat (first | (with_reducible exact HBx.out) | (with_reducible exact set4 HBx.out _ _ _ _) | (with_reducible apply set4) | (with_reducible refine heap_new' ?_ _; simp; done) | (with_reducible refine keep4 ?_ (by omega) _ _ _ _) | (with_reducible refine heap_old ?_ _) | (with_reducible refine heap_drew ?_) | (with_reducible refine heap_set_ne ?_ (by simp <;> omega) _)))
  have hBy_ : wd.heap[b6]? = some (.cells #[.int .u64 y0, .int .u64 y1, .int .u64 y2, .int .u64 y3] 25 (0, 0)) := heap_keep' hb (by repeat (first | (with_reducible exact HBy.out) | (with_reducible exact set4 HBy.out _ _ _ _) | (with_reducible apply set4) | (with_reducible refine heap_new' ?_ _; simp; done) | (with_reducible refine keep4 ?_ (by omega) _ _ _ _) | (with_reducible refine heap_old ?_ _) | (with_reducible refine heap_drew ?_) | (with_reducible refine heap_set_ne ?_ (by simp <;> omega) _)))
  have hBp_ : wd.heap[wc.heap.size]? = some (.cells #[.int .u64 p0, .int .u64 p1, .int .u64 p2, .int .u64 p3] 25 (0, 0)) := heap_keep' hb (by repeat (first | (with_reducible refine heap_new' ?_ _; simp; done) | (with_reducible refine keep4 ?_ (by omega) _ _ _ _) | (with_reducible refine heap_old ?_ _) | (with_reducible refine heap_drew ?_) | (with_reducible refine heap_set_ne ?_ (by simp <;> omega) _)))
  clear hb HB HBa cBa fBa zBa HBb cBb fBb zBb HBx cBx fBx zBx HBy cBy fBy zBy
  have HB := HBn; clear HBn
  have HBa := Lib.hid hBa_; have cBa := cells4 hBa_; have fBa := frozen_of hBa_; have zBa := lt_of_heap hBa_; clear hBa_
  have HBb := Lib.hid hBb_; have cBb := cells4 hBb_; have fBb := frozen_of hBb_; have zBb := lt_of_heap hBb_; clear hBb_
  have HBx := Lib.hid hBx_; have cBx := cells4 hBx_; have fBx := frozen_of hBx_; have zBx := lt_of_heap hBx_; clear hBx_
  have HBy := Lib.hid hBy_; have cBy := cells4 hBy_; have fBy := frozen_of hBy_; have zBy := lt_of_heap hBy_; clear hBy_
  have HBp := Lib.hid hBp_; have cBp := cells4 hBp_; have fBp := frozen_of hBp_; have zBp := lt_of_heap hBp_; clear hBp_
  go_wp2_with (fail)
  go_at_call 25
  refine (G5.out _ _ (heap_new' (by simp) _)).mono ?_
  rintro e we ⟨rfl, hb⟩
  have HBn : Hid (Below w.heap.size w we) := Lib.hid ((fun (h : Below _ _ _) => below_call h h.size hb) (by have hB0 := HB.out; have hS0 := hB0.size; first | (with_reducible exact hB0) | (with_reducible exact set4_below hB0 (by omega) _ _ _ _) | (with_reducible exact set4_below (set4_below hB0 (by omega) _ _ _ _) (by omega) _ _ _ _) | (with_reducible exact set4_below (set4_below (set4_below (set4_below hB0 (by omega) _ _ _ _) (by omega) _ _ _ _) (by omega) _ _ _ _) (by omega) _ _ _ _) | go_grown))
  have hBa_ : we.heap[w.heap.size]? = some (.cells #[.int .u64 a0, .int .u64 a1, .int .u64 a2, .int .u64 a3] 25 (0, 0)) := heap_keep' hb (by repeat (first | (with_reducible exact HBa.out) | (with_reducible exact set4 HBa.out _ _ _ _) | (with_reducible apply set4) | (with_reducible refine heap_new' ?_ _; simp; done) | (with_reducible refine keep4 ?_ (by omega) _ _ _ _) | (with_reducible refine heap_old ?_ _) | (with_reducible refine heap_drew ?_) | (with_reducible refine heap_set_ne ?_ (by simp <;> omega) _)))
  have hBb_ : we.heap[w.heap.size + 1]? = some (.cells #[.int .u64 b0, .int .u64 b1, .int .u64 b2, .int .u64 b3] 25 (0, 0)) := heap_keep' hb (by repeat (first | (with_reducible exact HBb.out) | (with_reducible exact set4 HBb.out _ _ _ _) | (with_reducible apply set4) | (with_reducible refine heap_new' ?_ _; simp; done) | (with_reducible refine keep4 ?_ (by omega) _ _ _ _) | (with_reducible refine heap_old ?_ _) | (with_reducible refine heap_drew ?_) | (with_reducible refine heap_set_ne ?_ (by simp <;> omega) _)))
  have hBx_ : we.heap[b5]? = some (.cells #[.int .u64 x0, .int .u64 x1, .int .u64 x2, .int .u64 x3] 25 (0, 0)) := heap_keep' hb (by repeat (first | (with_reducible exact HBx.out) | (with_reducible exact set4 HBx.out _ _ _ _) | (with_reducible apply set4) | (with_reducible refine heap_new' ?_ _; simp; done) | (with_reducible refine keep4 ?_ (by omega) _ _ _ _) | (with_reducible refine heap_old ?_ _) | (with_reducible refine heap_drew ?_) | (with_reducible refine heap_set_ne ?_ (by simp <;> omega) _)))
  have hBy_ : we.heap[b6]? = some (.cells #[.int .u64 y0, .int .u64 y1, .int .u64 y2, .int .u64 y3] 25 (0, 0)) := heap_keep' hb (by repeat (first | (with_reducible exact HBy.out) | (with_reducible exact set4 HBy.out _ _ _ _) | (with_reducible apply set4) | (with_reducible refine heap_new' ?_ _; simp; done) | (with_reducible refine keep4 ?_ (by omega) _ _ _ _) | (with_reducible refine heap_old ?_ _) | (with_reducible refine heap_drew ?_) | (with_reducible refine heap_set_ne ?_ (by simp <;> omega) _)))
  have hBp_ : we.heap[wc.heap.size]? = some (.cells #[.int .u64 p0, .int .u64 p1, .int .u64 p2, .int .u64 p3] 25 (0, 0)) := heap_keep' hb (by repeat (first | (with_reducible exact HBp.out) | (with_reducible exact set4 HBp.out _ _ _ _) | (with_reducible apply set4) | (with_reducible refine heap_new' ?_ _; simp; done) | (with_reducible refine keep4 ?_ (by omega) _ _ _ _) | (with_reducible refine heap_old ?_ _) | (with_reducible refine heap_drew ?_) | (with_reducible refine heap_set_ne ?_ (by simp <;> omega) _)))
  have hBq_ : we.heap[wd.heap.size]? = some (.cells #[.int .u64 q0, .int .u64 q1, .int .u64 q2, .int .u64 q3] 25 (0, 0)) := heap_keep' hb (by repeat (first | (with_reducible refine heap_new' ?_ _; simp; done) | (with_reducible refine keep4 ?_ (by omega) _ _ _ _) | (with_reducible refine heap_old ?_ _) | (with_reducible refine heap_drew ?_) | (with_reducible refine heap_set_ne ?_ (by simp <;> omega) _)))
  clear hb HB HBa cBa fBa zBa HBb cBb fBb zBb HBx cBx fBx zBx HBy cBy fBy zBy HBp cBp fBp zBp
  have HB := HBn; clear HBn
  have HBa := Lib.hid hBa_; have cBa := cells4 hBa_; have fBa := frozen_of hBa_; have zBa := lt_of_heap hBa_; clear hBa_
  have HBb := Lib.hid hBb_; have cBb := cells4 hBb_; have fBb := frozen_of hBb_; have zBb := lt_of_heap hBb_; clear hBb_
  have HBx := Lib.hid hBx_; have cBx := cells4 hBx_; have fBx := frozen_of hBx_; have zBx := lt_of_heap hBx_; clear hBx_
  have HBy := Lib.hid hBy_; have cBy := cells4 hBy_; have fBy := frozen_of hBy_; have zBy := lt_of_heap hBy_; clear hBy_
  have HBp := Lib.hid hBp_; have cBp := cells4 hBp_; have fBp := frozen_of hBp_; have zBp := lt_of_heap hBp_; clear hBp_
  have HBq := Lib.hid hBq_; have cBq := cells4 hBq_; have fBq := frozen_of hBq_; have zBq := lt_of_heap hBq_; clear hBq_
  go_wp2_with (fail)
  go_at_call 36
  refine (G6.out _).mono ?_
  rintro e wf ⟨rfl, hb⟩
  have HBn : Hid (Below w.heap.size w wf) := Lib.hid ((fun (h : Below _ _ _) => below_call h h.size hb) (by have hB0 := HB.out; have hS0 := hB0.size; first | (with_reducible exact hB0) | (with_reducible exact set4_below hB0 (by omega) _ _ _ _) | (with_reducible exact set4_below (set4_below hB0 (by omega) _ _ _ _) (by omega) _ _ _ _) | (with_reducible exact set4_below (set4_below (set4_below (set4_below hB0 (by omega) _ _ _ _) (by omega) _ _ _ _) (by omega) _ _ _ _) (by omega) _ _ _ _) | go_grown))
  have hBa_ : wf.heap[w.heap.size]? = some (.cells #[.int .u64 a0, .int .u64 a1, .int .u64 a2, .int .u64 a3] 25 (0, 0)) := heap_keep' hb (by repeat (first | (with_reducible exact HBa.out) | (with_reducible exact set4 HBa.out _ _ _ _) | (with_reducible apply set4) | (with_reducible refine heap_new' ?_ _; simp; done) | (with_reducible refine keep4 ?_ (by omega) _ _ _ _) | (with_reducible refine heap_old ?_ _) | (with_reducible refine heap_drew ?_) | (with_reducible refine heap_set_ne ?_ (by simp <;> omega) _)))
  have hBb_ : wf.heap[w.heap.size + 1]? = some (.cells #[.int .u64 b0, .int .u64 b1, .int .u64 b2, .int .u64 b3] 25 (0, 0)) := heap_keep' hb (by repeat (first | (with_reducible exact HBb.out) | (with_reducible exact set4 HBb.out _ _ _ _) | (with_reducible apply set4) | (with_reducible refine heap_new' ?_ _; simp; done) | (with_reducible refine keep4 ?_ (by omega) _ _ _ _) | (with_reducible refine heap_old ?_ _) | (with_reducible refine heap_drew ?_) | (with_reducible refine heap_set_ne ?_ (by simp <;> omega) _)))
  have hBx_ : wf.heap[b5]? = some (.cells #[.int .u64 x0, .int .u64 x1, .int .u64 x2, .int .u64 x3] 25 (0, 0)) := heap_keep' hb (by repeat (first | (with_reducible exact HBx.out) | (with_reducible exact set4 HBx.out _ _ _ _) | (with_reducible apply set4) | (with_reducible refine heap_new' ?_ _; simp; done) | (with_reducible refine keep4 ?_ (by omega) _ _ _ _) | (with_reducible refine heap_old ?_ _) | (with_reducible refine heap_drew ?_) | (with_reducible refine heap_set_ne ?_ (by simp <;> omega) _)))
  have hBy_ : wf.heap[b6]? = some (.cells #[.int .u64 y0, .int .u64 y1, .int .u64 y2, .int .u64 y3] 25 (0, 0)) := heap_keep' hb (by repeat (first | (with_reducible exact HBy.out) | (with_reducible exact set4 HBy.out _ _ _ _) | (with_reducible apply set4) | (with_reducible refine heap_new' ?_ _; simp; done) | (with_reducible refine keep4 ?_ (by omega) _ _ _ _) | (with_reducible refine heap_old ?_ _) | (with_reducible refine heap_drew ?_) | (with_reducible refine heap_set_ne ?_ (by simp <;> omega) _)))
  have hBp_ : wf.heap[wc.heap.size]? = some (.cells #[.int .u64 p0, .int .u64 p1, .int .u64 p2, .int .u64 p3] 25 (0, 0)) := heap_keep' hb (by repeat (first | (with_reducible exact HBp.out) | (with_reducible exact set4 HBp.out _ _ _ _) | (with_reducible apply set4) | (with_reducible refine heap_new' ?_ _; simp; done) | (with_reducible refine keep4 ?_ (by omega) _ _ _ _) | (with_reducible refine heap_old ?_ _) | (with_reducible refine heap_drew ?_) | (with_reducible refine heap_set_ne ?_ (by simp <;> omega) _)))
  have hBq_ : wf.heap[wd.heap.size]? = some (.cells #[.int .u64 q0, .int .u64 q1, .int .u64 q2, .int .u64 q3] 25 (0, 0)) := heap_keep' hb (by repeat (first | (with_reducible exact HBq.out) | (with_reducible exact set4 HBq.out _ _ _ _) | (with_reducible apply set4) | (with_reducible refine heap_new' ?_ _; simp; done) | (with_reducible refine keep4 ?_ (by omega) _ _ _ _) | (with_reducible refine heap_old ?_ _) | (with_reducible refine heap_drew ?_) | (with_reducible refine heap_set_ne ?_ (by simp <;> omega) _)))
  clear hb HB HBa cBa fBa zBa HBb cBb fBb zBb HBx cBx fBx zBx HBy cBy fBy zBy HBp cBp fBp zBp HBq cBq fBq zBq
  have HB := HBn; clear HBn
  have HBa := Lib.hid hBa_; have cBa := cells4 hBa_; have fBa := frozen_of hBa_; have zBa := lt_of_heap hBa_; clear hBa_
  have HBb := Lib.hid hBb_; have cBb := cells4 hBb_; have fBb := frozen_of hBb_; have zBb := lt_of_heap hBb_; clear hBb_
  have HBx := Lib.hid hBx_; have cBx := cells4 hBx_; have fBx := frozen_of hBx_; have zBx := lt_of_heap hBx_; clear hBx_
  have HBy := Lib.hid hBy_; have cBy := cells4 hBy_; have fBy := frozen_of hBy_; have zBy := lt_of_heap hBy_; clear hBy_
  have HBp := Lib.hid hBp_; have cBp := cells4 hBp_; have fBp := frozen_of hBp_; have zBp := lt_of_heap hBp_; clear hBp_
  have HBq := Lib.hid hBq_; have cBq := cells4 hBq_; have fBq := frozen_of hBq_; have zBq := lt_of_heap hBq_; clear hBq_
  go_wp2_with (fail)
  go_at_call 25
  refine (G7.out _ _ (heap_new' (by simp) _)).mono ?_
  rintro e wg ⟨rfl, hb⟩
  have HBn : Hid (Below w.heap.size w wg) := Lib.hid ((fun (h : Below _ _ _) => below_call h h.size hb) (by have hB0 := HB.out; have hS0 := hB0.size; first | (with_reducible exact hB0) | (with_reducible exact set4_below hB0 (by omega) _ _ _ _) | (with_reducible exact set4_below (set4_below hB0 (by omega) _ _ _ _) (by omega) _ _ _ _) | (with_reducible exact set4_below (set4_below (set4_below (set4_below hB0 (by omega) _ _ _ _) (by omega) _ _ _ _) (by omega) _ _ _ _) (by omega) _ _ _ _) | go_grown))
  have hBa_ : wg.heap[w.heap.size]? = some (.cells #[.int .u64 a0, .int .u64 a1, .int .u64 a2, .int .u64 a3] 25 (0, 0)) := heap_keep' hb (by repeat (first | (with_reducible exact HBa.out) | (with_reducible exact set4 HBa.out _ _ _ _) | (with_reducible apply set4) | (with_reducible refine heap_new' ?_ _; simp; done) | (with_reducible refine keep4 ?_ (by omega) _ _ _ _) | (with_reducible refine heap_old ?_ _) | (with_reducible refine heap_drew ?_) | (with_reducible refine heap_set_ne ?_ (by simp <;> omega) _)))
  have hBb_ : wg.heap[w.heap.size + 1]? = some (.cells #[.int .u64 b0, .int .u64 b1, .int .u64 b2, .int .u64 b3] 25 (0, 0)) := heap_keep' hb (by repeat (first | (with_reducible exact HBb.out) | (with_reducible exact set4 HBb.out _ _ _ _) | (with_reducible apply set4) | (with_reducible refine heap_new' ?_ _; simp; done) | (with_reducible refine keep4 ?_ (by omega) _ _ _ _) | (with_reducible refine heap_old ?_ _) | (with_reducible refine heap_drew ?_) | (with_reducible refine heap_set_ne ?_ (by simp <;> omega) _)))
  have hBx_ : wg.heap[b5]? = some (.cells #[.int .u64 x0, .int .u64 x1, .int .u64 x2, .int .u64 x3] 25 (0, 0)) := heap_keep' hb (by repeat (first | (with_reducible exact HBx.out) | (with_reducible exact set4 HBx.out _ _ _ _) | (with_reducible apply set4) | (with_reducible refine heap_new' ?_ _; simp; done) | (with_reducible refine keep4 ?_ (by omega) _ _ _ _) | (with_reducible refine heap_old ?_ _) | (with_reducible refine heap_drew ?_) | (with_reducible refine heap_set_ne ?_ (by simp <;> omega) _)))
  have hBy_ : wg.heap[b6]? = some (.cells #[.int .u64 y0, .int .u64 y1, .int .u64 y2, .int .u64 y3] 25 (0, 0)) := heap_keep' hb (by repeat (first | (with_reducible exact HBy.out) | (with_reducible exact set4 HBy.out _ _ _ _) | (with_reducible apply set4) | (with_reducible refine heap_new' ?_ _; simp; done) | (with_reducible refine keep4 ?_ (by omega) _ _ _ _) | (with_reducible refine heap_old ?_ _) | (with_reducible refine heap_drew ?_) | (with_reducible refine heap_set_ne ?_ (by simp <;> omega) _)))
  have hBp_ : wg.heap[wc.heap.size]? = some (.cells #[.int .u64 p0, .int .u64 p1, .int .u64 p2, .int .u64 p3] 25 (0, 0)) := heap_keep' hb (by repeat (first | (with_reducible exact HBp.out) | (with_reducible exact set4 HBp.out _ _ _ _) | (with_reducible apply set4) | (with_reducible refine heap_new' ?_ _; simp; done) | (with_reducible refine keep4 ?_ (by omega) _ _ _ _) | (with_reducible refine heap_old ?_ _) | (with_reducible refine heap_drew ?_) | (with_reducible refine heap_set_ne ?_ (by simp <;> omega) _)))
  have hBq_ : wg.heap[wd.heap.size]? = some (.cells #[.int .u64 q0, .int .u64 q1, .int .u64 q2, .int .u64 q3] 25 (0, 0)) := heap_keep' hb (by repeat (first | (with_reducible exact HBq.out) | (with_reducible exact set4 HBq.out _ _ _ _) | (with_reducible apply set4) | (with_reducible refine heap_new' ?_ _; simp; done) | (with_reducible refine keep4 ?_ (by omega) _ _ _ _) | (with_reducible refine heap_old ?_ _) | (with_reducible refine heap_drew ?_) | (with_reducible refine heap_set_ne ?_ (by simp <;> omega) _)))
  have hBr_ : wg.heap[wf.heap.size]? = some (.cells #[.int .u64 r0, .int .u64 r1, .int .u64 r2, .int .u64 r3] 25 (0, 0)) := heap_keep' hb (by repeat (first | (with_reducible refine heap_new' ?_ _; simp; done) | (with_reducible refine keep4 ?_ (by omega) _ _ _ _) | (with_reducible refine heap_old ?_ _) | (with_reducible refine heap_drew ?_) | (with_reducible refine heap_set_ne ?_ (by simp <;> omega) _)))
  clear hb HB HBa cBa fBa zBa HBb cBb fBb zBb HBx cBx fBx zBx HBy cBy fBy zBy HBp cBp fBp zBp HBq cBq fBq zBq
  have HB := HBn; clear HBn
  have HBa := Lib.hid hBa_; have cBa := cells4 hBa_; have fBa := frozen_of hBa_; have zBa := lt_of_heap hBa_; clear hBa_
  have HBb := Lib.hid hBb_; have cBb := cells4 hBb_; have fBb := frozen_of hBb_; have zBb := lt_of_heap hBb_; clear hBb_
  have HBx := Lib.hid hBx_; have cBx := cells4 hBx_; have fBx := frozen_of hBx_; have zBx := lt_of_heap hBx_; clear hBx_
  have HBy := Lib.hid hBy_; have cBy := cells4 hBy_; have fBy := frozen_of hBy_; have zBy := lt_of_heap hBy_; clear hBy_
  have HBp := Lib.hid hBp_; have cBp := cells4 hBp_; have fBp := frozen_of hBp_; have zBp := lt_of_heap hBp_; clear hBp_
  have HBq := Lib.hid hBq_; have cBq := cells4 hBq_; have fBq := frozen_of hBq_; have zBq := lt_of_heap hBq_; clear hBq_
  have HBr := Lib.hid hBr_; have cBr := cells4 hBr_; have fBr := frozen_of hBr_; have zBr := lt_of_heap hBr_; clear hBr_
  go_wp2
  refine Rg.region_ (n := 76) [0, 1, 3, 7, 15, 31, 63, 127, 255, 255, 1023, 2047, 255, 255, 12543, 32767, 65535, 131071, 262143, 524287, 524287, 2097151, 4194303, 8388607, 8388607, 8388607, 58720255, 134217727, 268435455, 536870911, 1073741823] [0, 0, 0, 0, 0, 0, 0, 0, 1, 1, 1, 1, 1, 1, 1, 1, 0, 0, 0, 1, 1, 0, 0, 1, 0, 1, 1, 0, 0, 0, 0] [46, 47, 48, 49, 50, 51, 52, 53, 54, 55, 56, 57, 58, 59, 60, 61, 62, 63, 64, 65, 66, 67, 68, 69, 70, 71, 72, 73, 74, 75, 4] [[(8, none)], [(46, some 0)], [(10, none), (47, some 1)], [(47, some 1), (48, some 2)], [(49, some 3)], [(12, none), (50, some 4)], [(50, some 4), (51, some 5)], [(52, some 6)], [(13, none), (53, some 7)], [(13, none), (53, some 7)], [(54, some 8), (55, some 9), (53, some 7)], [(56, some 10), (53, some 7)], [(5, none), (53, some 7)], [(6, none), (53, some 7)], [(58, some 12), (59, some 13), (53, some 7)], [(60, some 14), (53, some 7)], [(57, some 11), (61, some 15), (53, some 7)], [(53, some 7), (62, some 16)], [(63, some 17)], [(11, none), (64, some 18)], [(13, none), (64, some 18)], [(65, some 19), (66, some 20), (64, some 18)], [(67, some 21), (64, some 18)], [(11, none), (68, some 22)], [(68, some 22)], [(13, none), (68, some 22)], [(70, some 24), (71, some 25), (68, some 22)], [(69, some 23), (72, some 26), (68, some 22)], [(68, some 22), (73, some 27), (64, some 18)], [(64, some 18), (74, some 28)], [(75, some 29)]] 31 (by kernel_rfl) (by kernel_rfl) (by rfl) ?_
  intro W hW
  have hBa_ : W.heap[w.heap.size]? = some (.cells #[.int .u64 a0, .int .u64 a1, .int .u64 a2, .int .u64 a3] 25 (0, 0)) := by rw [hW]; exact (by repeat (first | (with_reducible exact HBa.out) | (with_reducible exact set4 HBa.out _ _ _ _) | (with_reducible apply set4) | (with_reducible refine heap_new' ?_ _; simp; done) | (with_reducible refine keep4 ?_ (by omega) _ _ _ _) | (with_reducible refine heap_old ?_ _) | (with_reducible refine heap_drew ?_) | (with_reducible refine heap_set_ne ?_ (by simp <;> omega) _)))
  have hBb_ : W.heap[w.heap.size + 1]? = some (.cells #[.int .u64 b0, .int .u64 b1, .int .u64 b2, .int .u64 b3] 25 (0, 0)) := by rw [hW]; exact (by repeat (first | (with_reducible exact HBb.out) | (with_reducible exact set4 HBb.out _ _ _ _) | (with_reducible apply set4) | (with_reducible refine heap_new' ?_ _; simp; done) | (with_reducible refine keep4 ?_ (by omega) _ _ _ _) | (with_reducible refine heap_old ?_ _) | (with_reducible refine heap_drew ?_) | (with_reducible refine heap_set_ne ?_ (by simp <;> omega) _)))
  have hBx_ : W.heap[b5]? = some (.cells #[.int .u64 x0, .int .u64 x1, .int .u64 x2, .int .u64 x3] 25 (0, 0)) := by rw [hW]; exact (by repeat (first | (with_reducible exact HBx.out) | (with_reducible exact set4 HBx.out _ _ _ _) | (with_reducible apply set4) | (with_reducible refine heap_new' ?_ _; simp; done) | (with_reducible refine keep4 ?_ (by omega) _ _ _ _) | (with_reducible refine heap_old ?_ _) | (with_reducible refine heap_drew ?_) | (with_reducible refine heap_set_ne ?_ (by simp <;> omega) _)))
  have hBy_ : W.heap[b6]? = some (.cells #[.int .u64 y0, .int .u64 y1, .int .u64 y2, .int .u64 y3] 25 (0, 0)) := by rw [hW]; exact (by repeat (first | (with_reducible exact HBy.out) | (with_reducible exact set4 HBy.out _ _ _ _) | (with_reducible apply set4) | (with_reducible refine heap_new' ?_ _; simp; done) | (with_reducible refine keep4 ?_ (by omega) _ _ _ _) | (with_reducible refine heap_old ?_ _) | (with_reducible refine heap_drew ?_) | (with_reducible refine heap_set_ne ?_ (by simp <;> omega) _)))
  have hBp_ : W.heap[wc.heap.size]? = some (.cells #[.int .u64 p0, .int .u64 p1, .int .u64 p2, .int .u64 p3] 25 (0, 0)) := by rw [hW]; exact (by repeat (first | (with_reducible exact HBp.out) | (with_reducible exact set4 HBp.out _ _ _ _) | (with_reducible apply set4) | (with_reducible refine heap_new' ?_ _; simp; done) | (with_reducible refine keep4 ?_ (by omega) _ _ _ _) | (with_reducible refine heap_old ?_ _) | (with_reducible refine heap_drew ?_) | (with_reducible refine heap_set_ne ?_ (by simp <;> omega) _)))
  have hBq_ : W.heap[wd.heap.size]? = some (.cells #[.int .u64 q0, .int .u64 q1, .int .u64 q2, .int .u64 q3] 25 (0, 0)) := by rw [hW]; exact (by repeat (first | (with_reducible exact HBq.out) | (with_reducible exact set4 HBq.out _ _ _ _) | (with_reducible apply set4) | (with_reducible refine heap_new' ?_ _; simp; done) | (with_reducible refine keep4 ?_ (by omega) _ _ _ _) | (with_reducible refine heap_old ?_ _) | (with_reducible refine heap_drew ?_) | (with_reducible refine heap_set_ne ?_ (by simp <;> omega) _)))
  have hBr_ : W.heap[wf.heap.size]? = some (.cells #[.int .u64 r0, .int .u64 r1, .int .u64 r2, .int .u64 r3] 25 (0, 0)) := by rw [hW]; exact (by repeat (first | (with_reducible exact HBr.out) | (with_reducible exact set4 HBr.out _ _ _ _) | (with_reducible apply set4) | (with_reducible refine heap_new' ?_ _; simp; done) | (with_reducible refine keep4 ?_ (by omega) _ _ _ _) | (with_reducible refine heap_old ?_ _) | (with_reducible refine heap_drew ?_) | (with_reducible refine heap_set_ne ?_ (by simp <;> omega) _)))
  have hBs_ : W.heap[wg.heap.size]? = some (.cells #[.int .u64 s0, .int .u64 s1, .int .u64 s2, .int .u64 s3] 25 (0, 0)) := by rw [hW]; exact (by repeat (first | (with_reducible refine heap_new' ?_ _; simp; done) | (with_reducible refine keep4 ?_ (by omega) _ _ _ _) | (with_reducible refine heap_old ?_ _) | (with_reducible refine heap_drew ?_) | (with_reducible refine heap_set_ne ?_ (by simp <;> omega) _)))
  have HB0 : Below w.heap.size w W := by rw [hW]; have hB0 := HB.out; have hS0 := hB0.size; first | exact hB0.drew | exact (set4_below hB0 (by omega) _ _ _ _).drew | go_grown
  change Rg.Chain' _ _ _ _ _ [(0, 0, 46, [(8, none)]), (1, 0, 47, [(46, some 0)]), (2, 0, 48, [(10, none), (47, some 1)]), (3, 0, 49, [(47, some 1), (48, some 2)]), (4, 0, 50, [(49, some 3)]), (5, 0, 51, [(12, none), (50, some 4)]), (6, 0, 52, [(50, some 4), (51, some 5)]), (7, 0, 53, [(52, some 6)]), (8, 1, 54, [(13, none), (53, some 7)]), (9, 1, 55, [(13, none), (53, some 7)]), (10, 1, 56, [(54, some 8), (55, some 9), (53, some 7)]), (11, 1, 57, [(56, some 10), (53, some 7)]), (12, 1, 58, [(5, none), (53, some 7)]), (13, 1, 59, [(6, none), (53, some 7)]), (14, 1, 60, [(58, some 12), (59, some 13), (53, some 7)]), (15, 1, 61, [(60, some 14), (53, some 7)]), (16, 0, 62, [(57, some 11), (61, some 15), (53, some 7)]), (17, 0, 63, [(53, some 7), (62, some 16)]), (18, 0, 64, [(63, some 17)]), (19, 1, 65, [(11, none), (64, some 18)]), (20, 1, 66, [(13, none), (64, some 18)]), (21, 0, 67, [(65, some 19), (66, some 20), (64, some 18)]), (22, 0, 68, [(67, some 21), (64, some 18)]), (23, 1, 69, [(11, none), (68, some 22)]), (24, 0, 70, [(68, some 22)]), (25, 1, 71, [(13, none), (68, some 22)]), (26, 1, 72, [(70, some 24), (71, some 25), (68, some 22)]), (27, 0, 73, [(69, some 23), (72, some 26), (68, some 22)]), (28, 0, 74, [(68, some 22), (73, some 27), (64, some 18)]), (29, 0, 75, [(64, some 18), (74, some 28)]), (30, 0, 4, [(75, some 29)])] [(0, 0, 46, [(8, none)]), (1, 0, 47, [(46, some 0)]), (2, 0, 48, [(10, none), (47, some 1)]), (3, 0, 49, [(47, some 1), (48, some 2)]), (4, 0, 50, [(49, some 3)]), (5, 0, 51, [(12, none), (50, some 4)]), (6, 0, 52, [(50, some 4), (51, some 5)]), (7, 0, 53, [(52, some 6)]), (8, 1, 54, [(13, none), (53, some 7)]), (9, 1, 55, [(13, none), (53, some 7)]), (10, 1, 56, [(54, some 8), (55, some 9), (53, some 7)]), (11, 1, 57, [(56, some 10), (53, some 7)]), (12, 1, 58, [(5, none), (53, some 7)]), (13, 1, 59, [(6, none), (53, some 7)]), (14, 1, 60, [(58, some 12), (59, some 13), (53, some 7)]), (15, 1, 61, [(60, some 14), (53, some 7)]), (16, 0, 62, [(57, some 11), (61, some 15), (53, some 7)]), (17, 0, 63, [(53, some 7), (62, some 16)]), (18, 0, 64, [(63, some 17)]), (19, 1, 65, [(11, none), (64, some 18)]), (20, 1, 66, [(13, none), (64, some 18)]), (21, 0, 67, [(65, some 19), (66, some 20), (64, some 18)]), (22, 0, 68, [(67, some 21), (64, some 18)]), (23, 1, 69, [(11, none), (68, some 22)]), (24, 0, 70, [(68, some 22)]), (25, 1, 71, [(13, none), (68, some 22)]), (26, 1, 72, [(70, some 24), (71, some 25), (68, some 22)]), (27, 0, 73, [(69, some 23), (72, some 26), (68, some 22)]), (28, 0, 74, [(68, some 22), (73, some 27), (64, some 18)]), (29, 0, 75, [(64, some 18), (74, some 28)]), (30, 0, 4, [(75, some 29)])] _
  apply Rg.ch_pure (by rfl)
  · rintro a w1 ⟨e8, -⟩
    conv at e8 => rhs; whnf
    have n8 := e8
    simp only [Act.eval, Array.getD_eq_getD_getElem?] at n8
    apply Rg.yields_run (Rg.wanted_none (by rfl))
    intro w2
    conv => lhs; simp [go_sem, n8, E1, E2, E3]
  apply Rg.ch_pure (by rfl)
  · rintro a w1 ⟨e46, -⟩
    replace e46 : a.eval (.tmp 46) = _ := e46
    have n46 := e46
    simp only [Act.eval, Array.getD_eq_getD_getElem?] at n46
    apply Rg.yields_run (Rg.wanted_none (by rfl))
    intro w2
    conv => lhs; simp [go_sem, n46, E1, E2, E3]
  apply Rg.ch_pure (by rfl)
  · rintro a w1 ⟨e10, e47, -⟩
    conv at e10 => rhs; whnf
    have n10 := e10
    simp only [Act.eval, Array.getD_eq_getD_getElem?] at n10
    replace e47 : a.eval (.tmp 47) = _ := e47
    have n47 := e47
    simp only [Act.eval, Array.getD_eq_getD_getElem?] at n47
    apply Rg.yields_run (Rg.wanted_some (by rfl) (by rfl) e47)
    intro w2
    conv => lhs; simp [go_sem, n10, n47, E1, E2, E3]
  apply Rg.ch_pure (by rfl)
  · rintro a w1 ⟨e47, e48, -⟩
    replace e47 : a.eval (.tmp 47) = _ := e47
    have n47 := e47
    simp only [Act.eval, Array.getD_eq_getD_getElem?] at n47
    replace e48 : a.eval (.tmp 48) = _ := e48
    have n48 := e48
    simp only [Act.eval, Array.getD_eq_getD_getElem?] at n48
    apply Rg.yields_run (Rg.wanted_none (by rfl))
    intro w2
    conv => lhs; simp [go_sem, n47, n48, E1, E2, E3]
  apply Rg.ch_pure (by rfl)
  · rintro a w1 ⟨e49, -⟩
    replace e49 : a.eval (.tmp 49) = _ := e49
    have n49 := e49
    simp only [Act.eval, Array.getD_eq_getD_getElem?] at n49
    apply Rg.yields_run (Rg.wanted_none (by rfl))
    intro w2
    conv => lhs; simp [go_sem, n49, E1, E2, E3]
  apply Rg.ch_pure (by rfl)
  · rintro a w1 ⟨e12, e50, -⟩
    conv at e12 => rhs; whnf
    have n12 := e12
    simp only [Act.eval, Array.getD_eq_getD_getElem?] at n12
    replace e50 : a.eval (.tmp 50) = _ := e50
    have n50 := e50
    simp only [Act.eval, Array.getD_eq_getD_getElem?] at n50
    apply Rg.yields_run (Rg.wanted_some (by rfl) (by rfl) e50)
    intro w2
    conv => lhs; simp [go_sem, n12, n50, E1, E2, E3]
  apply Rg.ch_pure (by rfl)
  · rintro a w1 ⟨e50, e51, -⟩
    replace e50 : a.eval (.tmp 50) = _ := e50
    have n50 := e50
    simp only [Act.eval, Array.getD_eq_getD_getElem?] at n50
    replace e51 : a.eval (.tmp 51) = _ := e51
    have n51 := e51
    simp only [Act.eval, Array.getD_eq_getD_getElem?] at n51
    apply Rg.yields_run (Rg.wanted_none (by rfl))
    intro w2
    conv => lhs; simp [go_sem, n50, n51, E1, E2, E3]
  apply Rg.ch_pure (by rfl)
  · rintro a w1 ⟨e52, -⟩
    replace e52 : a.eval (.tmp 52) = _ := e52
    have n52 := e52
    simp only [Act.eval, Array.getD_eq_getD_getElem?] at n52
    apply Rg.yields_run (Rg.wanted_none (by rfl))
    intro w2
    conv => lhs; simp [go_sem, n52, E1, E2, E3]
  apply Rg.ch_def (by rfl) (fun a w1 h => by obtain ⟨-, e53, -⟩ := h; exact Rg.wanted_some (by rfl) (by rfl) e53)
  · rintro a w1 hb ⟨e13, e53, -⟩
    conv at e13 => rhs; whnf
    have n13 := e13
    simp only [Act.eval, Array.getD_eq_getD_getElem?] at n13
    replace e53 : a.eval (.tmp 53) = _ := e53
    have n53 := e53
    simp only [Act.eval, Array.getD_eq_getD_getElem?] at n53
    apply Rg.gives_value
    · conv => lhs; simp [go_sem, n13, n53, cells4 (heap_keep' hb hBa_), cells4 (heap_keep' hb hBb_), cells4 (heap_keep' hb hBx_), cells4 (heap_keep' hb hBy_), cells4 (heap_keep' hb hBp_), cells4 (heap_keep' hb hBq_), cells4 (heap_keep' hb hBr_), cells4 (heap_keep' hb hBs_)]
    · exact ⟨rfl, Below.refl _ _⟩
  apply Rg.ch_def (by rfl) (fun a w1 h => by obtain ⟨-, e53, -⟩ := h; exact Rg.wanted_some (by rfl) (by rfl) e53)
  · rintro a w1 hb ⟨e13, e53, -⟩
    conv at e13 => rhs; whnf
    have n13 := e13
    simp only [Act.eval, Array.getD_eq_getD_getElem?] at n13
    replace e53 : a.eval (.tmp 53) = _ := e53
    have n53 := e53
    simp only [Act.eval, Array.getD_eq_getD_getElem?] at n53
    apply Rg.gives_value
    · conv => lhs; simp [go_sem, n13, n53, cells4 (heap_keep' hb hBa_), cells4 (heap_keep' hb hBb_), cells4 (heap_keep' hb hBx_), cells4 (heap_keep' hb hBy_), cells4 (heap_keep' hb hBp_), cells4 (heap_keep' hb hBq_), cells4 (heap_keep' hb hBr_), cells4 (heap_keep' hb hBs_)]
    · exact ⟨rfl, Below.refl _ _⟩
  apply Rg.ch_rel (Rg.Row W.heap.size 25 2 _) (Rg.stable_row _ _ _ _) (by rfl) (fun a w1 h => by obtain ⟨-, -, e53, -⟩ := h; exact Rg.wanted_some (by rfl) (by rfl) e53)
  · rintro a w1 hb ⟨e54, e55, e53, -⟩
    replace e54 : a.eval (.tmp 54) = _ := e54
    have n54 := e54
    simp only [Act.eval, Array.getD_eq_getD_getElem?] at n54
    replace e55 : a.eval (.tmp 55) = _ := e55
    have n55 := e55
    simp only [Act.eval, Array.getD_eq_getD_getElem?] at n55
    replace e53 : a.eval (.tmp 53) = _ := e53
    have n53 := e53
    simp only [Act.eval, Array.getD_eq_getD_getElem?] at n53
    apply Rg.gives_value
    · conv => lhs; simp [go_sem, n54, n55, n53]
    · exact ⟨⟨_, rfl, hb.size, heap_new _ _⟩, (Below.refl _ _).alloc (Nat.le_refl _) _⟩
  apply Rg.ch_def (by rfl) (fun a w1 h => by obtain ⟨-, e53, -⟩ := h; exact Rg.wanted_some (by rfl) (by rfl) e53)
  · rintro a w1 hb ⟨e56, e53, -⟩
    obtain ⟨b56, e56, g56, h56⟩ : ∃ b, a.eval (.tmp 56) = .slice (some ⟨b, 0, none⟩) 2 2 ∧ _ ≤ b ∧ w1.heap[b]? = _ := e56
    replace e53 : a.eval (.tmp 53) = _ := e53
    apply Rg.gives_enter
    · apply run_call Try.func25 (by kernel_rfl) rfl _ (by rfl)
      conv => lhs; simp only [List.map_toArray, List.map_cons, List.map_nil, eval_const_, eval_global_, e56]
    · refine (G8.out _ _ h56).mono ?_
      rintro e w2 ⟨rfl, hb2⟩
      exact ⟨_, rfl, rfl, hb2⟩
  apply Rg.ch_def (by rfl) (fun a w1 h => by obtain ⟨-, e53, -⟩ := h; exact Rg.wanted_some (by rfl) (by rfl) e53)
  · rintro a w1 hb ⟨e5, e53, -⟩
    conv at e5 => rhs; whnf
    have n5 := e5
    simp only [Act.eval, Array.getD_eq_getD_getElem?] at n5
    replace e53 : a.eval (.tmp 53) = _ := e53
    have n53 := e53
    simp only [Act.eval, Array.getD_eq_getD_getElem?] at n53
    apply Rg.gives_value
    · conv => lhs; simp [go_sem, n5, n53, cells4 (heap_keep' hb hBa_), cells4 (heap_keep' hb hBb_), cells4 (heap_keep' hb hBx_), cells4 (heap_keep' hb hBy_), cells4 (heap_keep' hb hBp_), cells4 (heap_keep' hb hBq_), cells4 (heap_keep' hb hBr_), cells4 (heap_keep' hb hBs_)]
    · exact ⟨rfl, Below.refl _ _⟩
  apply Rg.ch_def (by rfl) (fun a w1 h => by obtain ⟨-, e53, -⟩ := h; exact Rg.wanted_some (by rfl) (by rfl) e53)
  · rintro a w1 hb ⟨e6, e53, -⟩
    conv at e6 => rhs; whnf
    have n6 := e6
    simp only [Act.eval, Array.getD_eq_getD_getElem?] at n6
    replace e53 : a.eval (.tmp 53) = _ := e53
    have n53 := e53
    simp only [Act.eval, Array.getD_eq_getD_getElem?] at n53
    apply Rg.gives_value
    · conv => lhs; simp [go_sem, n6, n53, cells4 (heap_keep' hb hBa_), cells4 (heap_keep' hb hBb_), cells4 (heap_keep' hb hBx_), cells4 (heap_keep' hb hBy_), cells4 (heap_keep' hb hBp_), cells4 (heap_keep' hb hBq_), cells4 (heap_keep' hb hBr_), cells4 (heap_keep' hb hBs_)]
    · exact ⟨rfl, Below.refl _ _⟩
  apply Rg.ch_rel (Rg.Row W.heap.size 25 2 _) (Rg.stable_row _ _ _ _) (by rfl) (fun a w1 h => by obtain ⟨-, -, e53, -⟩ := h; exact Rg.wanted_some (by rfl) (by rfl) e53)
  · rintro a w1 hb ⟨e58, e59, e53, -⟩
    replace e58 : a.eval (.tmp 58) = _ := e58
    have n58 := e58
    simp only [Act.eval, Array.getD_eq_getD_getElem?] at n58
    replace e59 : a.eval (.tmp 59) = _ := e59
    have n59 := e59
    simp only [Act.eval, Array.getD_eq_getD_getElem?] at n59
    replace e53 : a.eval (.tmp 53) = _ := e53
    have n53 := e53
    simp only [Act.eval, Array.getD_eq_getD_getElem?] at n53
    apply Rg.gives_value
    · conv => lhs; simp [go_sem, n58, n59, n53]
    · exact ⟨⟨_, rfl, hb.size, heap_new _ _⟩, (Below.refl _ _).alloc (Nat.le_refl _) _⟩
  apply Rg.ch_def (by rfl) (fun a w1 h => by obtain ⟨-, e53, -⟩ := h; exact Rg.wanted_some (by rfl) (by rfl) e53)
  · rintro a w1 hb ⟨e60, e53, -⟩
    obtain ⟨b60, e60, g60, h60⟩ : ∃ b, a.eval (.tmp 60) = .slice (some ⟨b, 0, none⟩) 2 2 ∧ _ ≤ b ∧ w1.heap[b]? = _ := e60
    replace e53 : a.eval (.tmp 53) = _ := e53
    apply Rg.gives_enter
    · apply run_call Try.func25 (by kernel_rfl) rfl _ (by rfl)
      conv => lhs; simp only [List.map_toArray, List.map_cons, List.map_nil, eval_const_, eval_global_, e60]
    · refine (G5.out _ _ h60).mono ?_
      rintro e w2 ⟨rfl, hb2⟩
      exact ⟨_, rfl, rfl, hb2⟩
  apply Rg.ch_pure (by rfl)
  · rintro a w1 ⟨e57, e61, e53, -⟩
    replace e57 : a.eval (.tmp 57) = _ := e57
    have n57 := e57
    simp only [Act.eval, Array.getD_eq_getD_getElem?] at n57
    replace e61 : a.eval (.tmp 61) = _ := e61
    have n61 := e61
    simp only [Act.eval, Array.getD_eq_getD_getElem?] at n61
    replace e53 : a.eval (.tmp 53) = _ := e53
    have n53 := e53
    simp only [Act.eval, Array.getD_eq_getD_getElem?] at n53
    apply Rg.yields_run (Rg.wanted_some (by rfl) (by rfl) e53)
    intro w2
    conv => lhs; simp [go_sem, n57, n61, n53, E1, E2, E3]
  apply Rg.ch_pure (by rfl)
  · rintro a w1 ⟨e53, e62, -⟩
    replace e53 : a.eval (.tmp 53) = _ := e53
    have n53 := e53
    simp only [Act.eval, Array.getD_eq_getD_getElem?] at n53
    replace e62 : a.eval (.tmp 62) = _ := e62
    have n62 := e62
    simp only [Act.eval, Array.getD_eq_getD_getElem?] at n62
    apply Rg.yields_run (Rg.wanted_none (by rfl))
    intro w2
    conv => lhs; simp [go_sem, n53, n62, E1, E2, E3]
  apply Rg.ch_pure (by rfl)
  · rintro a w1 ⟨e63, -⟩
    replace e63 : a.eval (.tmp 63) = _ := e63
    have n63 := e63
    simp only [Act.eval, Array.getD_eq_getD_getElem?] at n63
    apply Rg.yields_run (Rg.wanted_none (by rfl))
    intro w2
    conv => lhs; simp [go_sem, n63, E1, E2, E3]
  apply Rg.ch_def (by rfl) (fun a w1 h => by obtain ⟨-, e64, -⟩ := h; exact Rg.wanted_some (by rfl) (by rfl) e64)
  · rintro a w1 hb ⟨e11, e64, -⟩
    conv at e11 => rhs; whnf
    have n11 := e11
    simp only [Act.eval, Array.getD_eq_getD_getElem?] at n11
    replace e64 : a.eval (.tmp 64) = _ := e64
    have n64 := e64
    simp only [Act.eval, Array.getD_eq_getD_getElem?] at n64
    apply Rg.gives_value
    · conv => lhs; simp [go_sem, n11, n64, cells4 (heap_keep' hb hBa_), cells4 (heap_keep' hb hBb_), cells4 (heap_keep' hb hBx_), cells4 (heap_keep' hb hBy_), cells4 (heap_keep' hb hBp_), cells4 (heap_keep' hb hBq_), cells4 (heap_keep' hb hBr_), cells4 (heap_keep' hb hBs_)]
    · exact ⟨rfl, Below.refl _ _⟩
  apply Rg.ch_def (by rfl) (fun a w1 h => by obtain ⟨-, e64, -⟩ := h; exact Rg.wanted_some (by rfl) (by rfl) e64)
  · rintro a w1 hb ⟨e13, e64, -⟩
    conv at e13 => rhs; whnf
    have n13 := e13
    simp only [Act.eval, Array.getD_eq_getD_getElem?] at n13
    replace e64 : a.eval (.tmp 64) = _ := e64
    have n64 := e64
    simp only [Act.eval, Array.getD_eq_getD_getElem?] at n64
    apply Rg.gives_value
    · conv => lhs; simp [go_sem, n13, n64, cells4 (heap_keep' hb hBa_), cells4 (heap_keep' hb hBb_), cells4 (heap_keep' hb hBx_), cells4 (heap_keep' hb hBy_), cells4 (heap_keep' hb hBp_), cells4 (heap_keep' hb hBq_), cells4 (heap_keep' hb hBr_), cells4 (heap_keep' hb hBs_)]
    · exact ⟨rfl, Below.refl _ _⟩
  apply Rg.ch_pure (by rfl)
  · rintro a w1 ⟨e65, e66, e64, -⟩
    replace e65 : a.eval (.tmp 65) = _ := e65
    have n65 := e65
    simp only [Act.eval, Array.getD_eq_getD_getElem?] at n65
    replace e66 : a.eval (.tmp 66) = _ := e66
    have n66 := e66
    simp only [Act.eval, Array.getD_eq_getD_getElem?] at n66
    replace e64 : a.eval (.tmp 64) = _ := e64
    have n64 := e64
    simp only [Act.eval, Array.getD_eq_getD_getElem?] at n64
    apply Rg.yields_run (Rg.wanted_some (by rfl) (by rfl) e64)
    intro w2
    conv => lhs; simp [go_sem, n65, n66, n64, E1, E2, E3]
  apply Rg.ch_pure (by rfl)
  · rintro a w1 ⟨e67, e64, -⟩
    replace e67 : a.eval (.tmp 67) = _ := e67
    have n67 := e67
    simp only [Act.eval, Array.getD_eq_getD_getElem?] at n67
    replace e64 : a.eval (.tmp 64) = _ := e64
    have n64 := e64
    simp only [Act.eval, Array.getD_eq_getD_getElem?] at n64
    apply Rg.yields_run (Rg.wanted_some (by rfl) (by rfl) e64)
    intro w2
    conv => lhs; simp [go_sem, n67, n64, E1, E2, E3]
  apply Rg.ch_def (by rfl) (fun a w1 h => by obtain ⟨-, e68, -⟩ := h; exact Rg.wanted_some (by rfl) (by rfl) e68)
  · rintro a w1 hb ⟨e11, e68, -⟩
    conv at e11 => rhs; whnf
    have n11 := e11
    simp only [Act.eval, Array.getD_eq_getD_getElem?] at n11
    replace e68 : a.eval (.tmp 68) = _ := e68
    have n68 := e68
    simp only [Act.eval, Array.getD_eq_getD_getElem?] at n68
    apply Rg.gives_value
    · conv => lhs; simp [go_sem, n11, n68, cells4 (heap_keep' hb hBa_), cells4 (heap_keep' hb hBb_), cells4 (heap_keep' hb hBx_), cells4 (heap_keep' hb hBy_), cells4 (heap_keep' hb hBp_), cells4 (heap_keep' hb hBq_), cells4 (heap_keep' hb hBr_), cells4 (heap_keep' hb hBs_)]
    · exact ⟨rfl, Below.refl _ _⟩
  apply Rg.ch_pure (by rfl)
  · rintro a w1 ⟨e68, -⟩
    replace e68 : a.eval (.tmp 68) = _ := e68
    have n68 := e68
    simp only [Act.eval, Array.getD_eq_getD_getElem?] at n68
    apply Rg.yields_run (Rg.wanted_some (by rfl) (by rfl) e68)
    intro w2
    conv => lhs; simp [go_sem, n68, E1, E2, E3]
  apply Rg.ch_def (by rfl) (fun a w1 h => by obtain ⟨-, e68, -⟩ := h; exact Rg.wanted_some (by rfl) (by rfl) e68)
  · rintro a w1 hb ⟨e13, e68, -⟩
    conv at e13 => rhs; whnf
    have n13 := e13
    simp only [Act.eval, Array.getD_eq_getD_getElem?] at n13
    replace e68 : a.eval (.tmp 68) = _ := e68
    have n68 := e68
    simp only [Act.eval, Array.getD_eq_getD_getElem?] at n68
    apply Rg.gives_value
    · conv => lhs; simp [go_sem, n13, n68, cells4 (heap_keep' hb hBa_), cells4 (heap_keep' hb hBb_), cells4 (heap_keep' hb hBx_), cells4 (heap_keep' hb hBy_), cells4 (heap_keep' hb hBp_), cells4 (heap_keep' hb hBq_), cells4 (heap_keep' hb hBr_), cells4 (heap_keep' hb hBs_)]
    · exact ⟨rfl, Below.refl _ _⟩
  apply Rg.ch_def (by rfl) (fun a w1 h => by obtain ⟨-, -, e68, -⟩ := h; exact Rg.wanted_some (by rfl) (by rfl) e68)
  · rintro a w1 hb ⟨e70, e71, e68, -⟩
    replace e70 : a.eval (.tmp 70) = _ := e70
    replace e71 : a.eval (.tmp 71) = _ := e71
    replace e68 : a.eval (.tmp 68) = _ := e68
    apply Rg.gives_enter
    · apply run_call Try.func26 (by kernel_rfl) rfl _ (by rfl)
      conv => lhs; simp only [List.map_toArray, List.map_cons, List.map_nil, eval_const_, eval_global_, e70, e71]
    · refine (G9.out _).mono ?_
      rintro e w2 ⟨rfl, hb2⟩
      exact ⟨_, rfl, rfl, hb2⟩
  apply Rg.ch_pure (by rfl)
  · rintro a w1 ⟨e69, e72, e68, -⟩
    replace e69 : a.eval (.tmp 69) = _ := e69
    have n69 := e69
    simp only [Act.eval, Array.getD_eq_getD_getElem?] at n69
    replace e72 : a.eval (.tmp 72) = _ := e72
    have n72 := e72
    simp only [Act.eval, Array.getD_eq_getD_getElem?] at n72
    replace e68 : a.eval (.tmp 68) = _ := e68
    have n68 := e68
    simp only [Act.eval, Array.getD_eq_getD_getElem?] at n68
    apply Rg.yields_run (Rg.wanted_some (by rfl) (by rfl) e68)
    intro w2
    conv => lhs; simp [go_sem, n69, n72, n68, E1, E2, E3]
  apply Rg.ch_pure (by rfl)
  · rintro a w1 ⟨e68, e73, e64, -⟩
    replace e68 : a.eval (.tmp 68) = _ := e68
    have n68 := e68
    simp only [Act.eval, Array.getD_eq_getD_getElem?] at n68
    replace e73 : a.eval (.tmp 73) = _ := e73
    have n73 := e73
    simp only [Act.eval, Array.getD_eq_getD_getElem?] at n73
    replace e64 : a.eval (.tmp 64) = _ := e64
    have n64 := e64
    simp only [Act.eval, Array.getD_eq_getD_getElem?] at n64
    apply Rg.yields_run (Rg.wanted_some (by rfl) (by rfl) e64)
    intro w2
    conv => lhs; simp [go_sem, n68, n73, n64, E1, E2, E3]
  apply Rg.ch_pure (by rfl)
  · rintro a w1 ⟨e64, e74, -⟩
    replace e64 : a.eval (.tmp 64) = _ := e64
    have n64 := e64
    simp only [Act.eval, Array.getD_eq_getD_getElem?] at n64
    replace e74 : a.eval (.tmp 74) = _ := e74
    have n74 := e74
    simp only [Act.eval, Array.getD_eq_getD_getElem?] at n74
    apply Rg.yields_run (Rg.wanted_none (by rfl))
    intro w2
    conv => lhs; simp [go_sem, n64, n74, E1, E2, E3]
  apply Rg.ch_pure (by rfl)
  · rintro a w1 ⟨e75, -⟩
    replace e75 : a.eval (.tmp 75) = _ := e75
    have n75 := e75
    simp only [Act.eval, Array.getD_eq_getD_getElem?] at n75
    apply Rg.yields_run (Rg.wanted_none (by rfl))
    intro w2
    conv => lhs; simp [go_sem, n75, E1, E2, E3]
  intro w1 hb1
  rintro _ rfl _ rfl _ rfl _ rfl _ rfl _ rfl _ rfl _ rfl _ rfl _ rfl v56 ⟨b56, rfl, ge56, hh56⟩ _ rfl _ rfl _ rfl v60 ⟨b60, rfl, ge60, hh60⟩ _ rfl _ rfl _ rfl _ rfl _ rfl _ rfl _ rfl _ rfl _ rfl _ rfl _ rfl _ rfl _ rfl _ rfl _ rfl _ rfl
  change Go.wpList _ _ _ _ _ _
  set_option maxRecDepth 100000 in simp only [List.drop_succ_cons, List.drop_zero, List.drop_nil, Act.put, List.setIfInBounds_toArray, List.set_cons_succ, List.set_cons_zero]
  change Go.NoPanic _ _ _ _
  refine NoPanic.normal ?_
  have HBn : Hid (Below w.heap.size w w1) := Lib.hid (below_call HB0 HB0.size hb1)
  have hBa__ := heap_keep' hb1 hBa_
  have hBb__ := heap_keep' hb1 hBb_
  have hBx__ := heap_keep' hb1 hBx_
  have hBy__ := heap_keep' hb1 hBy_
  have hBp__ := heap_keep' hb1 hBp_
  have hBq__ := heap_keep' hb1 hBq_
  have hBr__ := heap_keep' hb1 hBr_
  have hBs__ := heap_keep' hb1 hBs_
  clear hb1 HB0 HB hBa_ HBa cBa fBa zBa hBb_ HBb cBb fBb zBb hBx_ HBx cBx fBx zBx hBy_ HBy cBy fBy zBy hBp_ HBp cBp fBp zBp hBq_ HBq cBq fBq zBq hBr_ HBr cBr fBr zBr hBs_
  clear hW
  obtain ⟨wh, rfl⟩ : ∃ x : World, x = w1 := ⟨_, rfl⟩
  have HB := HBn; clear HBn
  have HBa := Lib.hid hBa__; have cBa := cells4 hBa__; have fBa := frozen_of hBa__; have zBa := lt_of_heap hBa__; clear hBa__
  have HBb := Lib.hid hBb__; have cBb := cells4 hBb__; have fBb := frozen_of hBb__; have zBb := lt_of_heap hBb__; clear hBb__
  have HBx := Lib.hid hBx__; have cBx := cells4 hBx__; have fBx := frozen_of hBx__; have zBx := lt_of_heap hBx__; clear hBx__
  have HBy := Lib.hid hBy__; have cBy := cells4 hBy__; have fBy := frozen_of hBy__; have zBy := lt_of_heap hBy__; clear hBy__
  have HBp := Lib.hid hBp__; have cBp := cells4 hBp__; have fBp := frozen_of hBp__; have zBp := lt_of_heap hBp__; clear hBp__
  have HBq := Lib.hid hBq__; have cBq := cells4 hBq__; have fBq := frozen_of hBq__; have zBq := lt_of_heap hBq__; clear hBq__
  have HBr := Lib.hid hBr__; have cBr := cells4 hBr__; have fBr := frozen_of hBr__; have zBr := lt_of_heap hBr__; clear hBr__
  have HBs := Lib.hid hBs__; have cBs := cells4 hBs__; have fBs := frozen_of hBs__; have zBs := lt_of_heap hBs__; clear hBs__
  go_wp2
  go_ret
  refine ⟨rfl, ?_⟩
  have hB0 := HB.out; have hS0 := hB0.size; first | exact hB0 | go_grown

theorem squares_fact (a0 a1 a2 a3 b0 b1 b2 b3 : Nat) (ha : W4 a0 a1 a2 a3) (hb : W4 b0 b1 b2 b3) (w : World) : Calls Try.prog 10 #[.agg #[.int .u64 a0, .int .u64 a1, .int .u64 a2, .int .u64 a3], .agg #[.int .u64 b0, .int .u64 b1, .int .u64 b2, .int .u64 b3]] w fun e w' => e = .returned (.bool true) ∧ Below w.heap.size w w' := by
  have hp := pP_pos
  obtain ⟨x0, x1, x2, x3, ⟨hx, hxv⟩, F1⟩ := Mul2_fact a0 a1 a2 a3 a0 a1 a2 a3 ha ha
  obtain ⟨y0, y1, y2, y3, ⟨hy, hyv⟩, F2⟩ := Mul2_fact b0 b1 b2 b3 b0 b1 b2 b3 hb hb
  obtain ⟨p0, p1, p2, p3, o1, hP, F3⟩ := Root_fact x0 x1 x2 x3 hx
  obtain ⟨q0, q1, q2, q3, o2, hQ, F4⟩ := Root_fact y0 y1 y2 y3 hy
  obtain ⟨rfl, hp1, hp2, hp3, hp4⟩ := square_root hxv hP
  obtain ⟨rfl, hq1, hq2, hq3, hq4⟩ := square_root hyv hQ
  obtain ⟨m0, m1, m2, m3, ⟨hm, hmv⟩, F5⟩ := Mul2_fact x0 x1 x2 x3 y0 y1 y2 y3 hx hy
  obtain ⟨r0, r1, r2, r3, o3, hR, F6⟩ := Root_fact m0 m1 m2 m3 hm
  obtain ⟨s0, s1, s2, s3, ⟨hs, hsv⟩, F7⟩ := Mul2_fact p0 p1 p2 p3 q0 q1 q2 q3 hp1 hq1
  have hss : V s0 s1 s2 s3 * V s0 s1 s2 s3 % pP = V m0 m1 m2 m3 := by rw [hsv, hmv]; exact mod_sq hp4 hq4
  have hml : V m0 m1 m2 m3 % pP = V m0 m1 m2 m3 := by rw [hmv, Nat.mod_mod]
  obtain rfl : o3 = true := by
    cases o3
    · exact absurd (by rw [hml]; exact hss) ((hR.2.2 rfl).2 (V s0 s1 s2 s3))
    · rfl
  obtain ⟨hr2, hr3, hr4⟩ := hR.2.1 rfl
  obtain ⟨t0, t1, t2, t3, ⟨ht, htv⟩, F8⟩ := Mul2_fact s0 s1 s2 s3 s0 s1 s2 s3 hs hs
  have hsl : V s0 s1 s2 s3 < pP := by rw [hsv]; exact Nat.mod_lt _ hp
  rcases Nat.mod_two_eq_zero_or_one (V s0 s1 s2 s3) with h | h
  · exact squares_0 a0 a1 a2 a3 b0 b1 b2 b3 x0 x1 x2 x3 y0 y1 y2 y3 p0 p1 p2 p3 q0 q1 q2 q3 m0 m1 m2 m3 r0 r1 r2 r3 s0 s1 s2 s3 t0 t1 t2 t3 h hs hR.1 hm ht hsl hr2 hr3 (by rw [hr4, hss, hml]) (by rw [htv, hss]) F1 F2 F3 F4 F5 F6 F7 F8 w
  · exact squares_1 a0 a1 a2 a3 b0 b1 b2 b3 x0 x1 x2 x3 y0 y1 y2 y3 p0 p1 p2 p3 q0 q1 q2 q3 m0 m1 m2 m3 r0 r1 r2 r3 s0 s1 s2 s3 t0 t1 t2 t3 h hs hR.1 hm ht hsl hr2 hr3 (by rw [hr4, hss, hml]) (by rw [htv, hss]) F1 F2 F3 F4 F5 F6 F7 F8 w

end Go.Proofs.Ytldnjbpcdojffaa
