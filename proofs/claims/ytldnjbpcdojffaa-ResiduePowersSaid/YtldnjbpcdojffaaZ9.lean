/- @@NUM 25 The walk of law 08's ResidueAdds. Conditions: words are below 2^64. -/
import Derived.Test.YtldnjbpcdojffaaZ4
import Derived.Test.YtldnjbpcdojffaaZ8
import Derived.Test.YtldnjbpcdojffaaZ7
import Derived.Test.YtldnjbpcdojffaaZ1
set_option linter.unusedSectionVars false
namespace Go.Proofs.Ytldnjbpcdojffaa
set_option linter.unusedVariables false
set_option linter.unusedSimpArgs false
open Go Go.RowKit
open Pl (V V8 W4 T256 pP le bytesOf)
open Dg (nv dg Ok)
attribute [local go_sem ↓] eql_num neq_num

set_option maxHeartbeats 16000000 in
theorem ad_walk (a0 a1 a2 a3 b0 b1 b2 b3 c0 c1 c2 c3 s0 s1 s2 s3 t0 t1 t2 t3 u0 u1 u2 u3 m0 m1 m2 m3 p0 p1 p2 p3 z0 z1 z2 z3 : Nat) (da db dc dx dy dz d1 d2 d3 d4 d5 : List Int) (w : World)
    (H0 : Hid (∀ w : World, Calls Try.prog 13 #[] w fun e w' => e = .returned (.bool true) ∧ Below w.heap.size w w'))
    (HRa : Hid (∀ w : World, Calls Try.prog 20 #[.agg #[.int .u64 a0, .int .u64 a1, .int .u64 a2, .int .u64 a3]] w fun e w' => (∃ v, e = .returned v ∧ RdI w'.heap.size w' v da) ∧ Below w.heap.size w w'))
    (HRb : Hid (∀ w : World, Calls Try.prog 20 #[.agg #[.int .u64 b0, .int .u64 b1, .int .u64 b2, .int .u64 b3]] w fun e w' => (∃ v, e = .returned v ∧ RdI w'.heap.size w' v db) ∧ Below w.heap.size w w'))
    (HRc : Hid (∀ w : World, Calls Try.prog 20 #[.agg #[.int .u64 c0, .int .u64 c1, .int .u64 c2, .int .u64 c3]] w fun e w' => (∃ v, e = .returned v ∧ RdI w'.heap.size w' v dc) ∧ Below w.heap.size w w'))
    (HFa : Hid (∀ (sv : Value) (w : World), RdI w.heap.size w sv da → Calls Try.prog 27 #[sv] w fun e w' => (∃ v, e = .returned v ∧ RdI w'.heap.size w' v dx) ∧ Below w.heap.size w w'))
    (HFb : Hid (∀ (sv : Value) (w : World), RdI w.heap.size w sv db → Calls Try.prog 27 #[sv] w fun e w' => (∃ v, e = .returned v ∧ RdI w'.heap.size w' v dy) ∧ Below w.heap.size w w'))
    (HFc : Hid (∀ (sv : Value) (w : World), RdI w.heap.size w sv dc → Calls Try.prog 27 #[sv] w fun e w' => (∃ v, e = .returned v ∧ RdI w'.heap.size w' v dz) ∧ Below w.heap.size w w'))
    (HA1 : Hid (∀ (sa sb : Value) (w : World), RdI w.heap.size w sa dx → RdI w.heap.size w sb dy → Calls Try.prog 28 #[sa, sb] w fun e w' => (∃ v, e = .returned v ∧ RdI w'.heap.size w' v d1) ∧ Below w.heap.size w w'))
    (HA2 : Hid (∀ (sa sb : Value) (w : World), RdI w.heap.size w sa d1 → RdI w.heap.size w sb dz → Calls Try.prog 28 #[sa, sb] w fun e w' => (∃ v, e = .returned v ∧ RdI w'.heap.size w' v d2) ∧ Below w.heap.size w w'))
    (HM1 : Hid (∀ (sa sb : Value) (w : World), RdI w.heap.size w sa dx → RdI w.heap.size w sb dy → Calls Try.prog 29 #[sa, sb] w fun e w' => (∃ v, e = .returned v ∧ RdI w'.heap.size w' v d3) ∧ Below w.heap.size w w'))
    (HM2 : Hid (∀ (sa sb : Value) (w : World), RdI w.heap.size w sa d3 → RdI w.heap.size w sb dz → Calls Try.prog 29 #[sa, sb] w fun e w' => (∃ v, e = .returned v ∧ RdI w'.heap.size w' v d4) ∧ Below w.heap.size w w'))
    (HRS : Hid (∀ (sa sb : Value) (w : World), RdI w.heap.size w sa dx → RdI w.heap.size w sb dy → Calls Try.prog 30 #[sa, sb] w fun e w' => (∃ v, e = .returned v ∧ RdI w'.heap.size w' v d5) ∧ Below w.heap.size w w'))
    (HS : Hid (∀ (b : Nat) (w : World), w.heap[b]? = some (.cells #[.int .u64 a0, .int .u64 a1, .int .u64 a2, .int .u64 a3, .int .u64 b0, .int .u64 b1, .int .u64 b2, .int .u64 b3, .int .u64 c0, .int .u64 c1, .int .u64 c2, .int .u64 c3] 25 (0, 0)) → Calls Try.prog 23 #[.slice (some ⟨b, 0, none⟩) 3 3] w fun e w' => e = .returned (.agg #[.int .u64 s0, .int .u64 s1, .int .u64 s2, .int .u64 s3]) ∧ Below w.heap.size w w'))
    (HP : Hid (∀ (b : Nat) (w : World), w.heap[b]? = some (.cells #[.int .u64 a0, .int .u64 a1, .int .u64 a2, .int .u64 a3, .int .u64 b0, .int .u64 b1, .int .u64 b2, .int .u64 b3, .int .u64 c0, .int .u64 c1, .int .u64 c2, .int .u64 c3] 25 (0, 0)) → Calls Try.prog 25 #[.slice (some ⟨b, 0, none⟩) 3 3] w fun e w' => e = .returned (.agg #[.int .u64 t0, .int .u64 t1, .int .u64 t2, .int .u64 t3]) ∧ Below w.heap.size w w'))
    (HU : Hid (∀ w : World, Calls Try.prog 26 #[.agg #[.int .u64 a0, .int .u64 a1, .int .u64 a2, .int .u64 a3], .agg #[.int .u64 b0, .int .u64 b1, .int .u64 b2, .int .u64 b3]] w fun e w' => e = .returned (.agg #[.int .u64 u0, .int .u64 u1, .int .u64 u2, .int .u64 u3]) ∧ Below w.heap.size w w'))
    (I1 : Hid (∀ (sv : Value) (w : World), RdI w.heap.size w sv d2 → Calls Try.prog 16 #[.agg #[.int .u64 s0, .int .u64 s1, .int .u64 s2, .int .u64 s3], sv] w fun e w' => e = .returned (.bool true) ∧ Below w.heap.size w w'))
    (I2 : Hid (∀ (sv : Value) (w : World), RdI w.heap.size w sv d4 → Calls Try.prog 16 #[.agg #[.int .u64 t0, .int .u64 t1, .int .u64 t2, .int .u64 t3], sv] w fun e w' => e = .returned (.bool true) ∧ Below w.heap.size w w'))
    (I3 : Hid (∀ (sv : Value) (w : World), RdI w.heap.size w sv d5 → Calls Try.prog 16 #[.agg #[.int .u64 u0, .int .u64 u1, .int .u64 u2, .int .u64 u3], sv] w fun e w' => e = .returned (.bool true) ∧ Below w.heap.size w w'))
    (I4 : Hid (∀ (sv : Value) (w : World), RdI w.heap.size w sv primeL → Calls Try.prog 16 #[.agg #[.int .u64 p0, .int .u64 p1, .int .u64 p2, .int .u64 p3], sv] w fun e w' => e = .returned (.bool true) ∧ Below w.heap.size w w'))
    (I5 : Hid (∀ (sv : Value) (w : World), RdI w.heap.size w sv orderD → Calls Try.prog 16 #[.agg #[.int .u64 6346243789798364141, .int .u64 1503914060200516822, .int .u64 0, .int .u64 1152921504606846976], sv] w fun e w' => e = .returned (.bool true) ∧ Below w.heap.size w w'))
    (HZ0 : Hid (∀ w : World, Calls Try.prog 23 #[.slice none 0 0] w fun e w' => e = .returned (.agg #[.int .u64 z0, .int .u64 z1, .int .u64 z2, .int .u64 z3]) ∧ Below w.heap.size w w'))
    (HZ : Hid (∀ w : World, Calls Try.prog 15 #[.agg #[.int .u64 z0, .int .u64 z1, .int .u64 z2, .int .u64 z3]] w fun e w' => e = .returned (.bool true) ∧ Below w.heap.size w w'))
    (HM0 : Hid (∀ w : World, Calls Try.prog 25 #[.slice none 0 0] w fun e w' => e = .returned (.agg #[.int .u64 m0, .int .u64 m1, .int .u64 m2, .int .u64 m3]) ∧ Below w.heap.size w w'))
    (HPr : Hid (∀ w : World, Calls Try.prog 24 #[] w fun e w' => e = .returned (.agg #[.int .u64 p0, .int .u64 p1, .int .u64 p2, .int .u64 p3]) ∧ Below w.heap.size w w'))
    (E1 : eqL [(m0 : Int), m1, m2, m3] [1, 0, 0, 0] = true) : Calls Try.prog 6 #[.agg #[.int .u64 a0, .int .u64 a1, .int .u64 a2, .int .u64 a3], .agg #[.int .u64 b0, .int .u64 b1, .int .u64 b2, .int .u64 b3], .agg #[.int .u64 c0, .int .u64 c1, .int .u64 c2, .int .u64 c3]] w fun e w' => e = .returned (.bool true) ∧ Below w.heap.size w w' := by
  have HRP := Lib.hid RPrime_fact
  have HRO := Lib.hid ROrder_fact
  have HOr := Lib.hid Order_fact
  go_enter Try.func6, Try.ntmps6
  go_wp2_with (fail)
  go_at_call 13
  refine (H0.out _).mono ?_
  rintro e wa ⟨rfl, hb⟩
  have HBn : Hid (Below w.heap.size w wa) := Lib.hid ((fun (h : Below _ _ _) => below_call h h.size hb) (by first | go_grown))
  have hBa_ : wa.heap[w.heap.size]? = some (.cells #[.int .u64 a0, .int .u64 a1, .int .u64 a2, .int .u64 a3] 25 (0, 0)) := heap_keep' hb (by repeat (first | (with_reducible refine heap_new' ?_ _; simp; done) | (with_reducible refine keep4 ?_ (by omega) _ _ _ _) | (with_reducible refine heap_old ?_ _) | (with_reducible refine heap_drew ?_) | (with_reducible refine heap_set_ne ?_ (by simp <;> omega) _)))
  have hBb_ : wa.heap[w.heap.size + 1]? = some (.cells #[.int .u64 b0, .int .u64 b1, .int .u64 b2, .int .u64 b3] 25 (0, 0)) := heap_keep' hb (by repeat (first | (with_reducible refine heap_new' ?_ _; simp; done) | (with_reducible refine keep4 ?_ (by omega) _ _ _ _) | (with_reducible refine heap_old ?_ _) | (with_reducible refine heap_drew ?_) | (with_reducible refine heap_set_ne ?_ (by simp <;> omega) _)))
  have hBc_ : wa.heap[w.heap.size + 1 + 1]? = some (.cells #[.int .u64 c0, .int .u64 c1, .int .u64 c2, .int .u64 c3] 25 (0, 0)) := heap_keep' hb (by repeat (first | (with_reducible refine heap_new' ?_ _; simp; done) | (with_reducible refine keep4 ?_ (by omega) _ _ _ _) | (with_reducible refine heap_old ?_ _) | (with_reducible refine heap_drew ?_) | (with_reducible refine heap_set_ne ?_ (by simp <;> omega) _)))
  clear hb
  have HB := HBn; clear HBn
  have HBa := Lib.hid hBa_; have cBa := cells4 hBa_; have fBa := frozen_of hBa_; have zBa := lt_of_heap hBa_; clear hBa_
  have HBb := Lib.hid hBb_; have cBb := cells4 hBb_; have fBb := frozen_of hBb_; have zBb := lt_of_heap hBb_; clear hBb_
  have HBc := Lib.hid hBc_; have cBc := cells4 hBc_; have fBc := frozen_of hBc_; have zBc := lt_of_heap hBc_; clear hBc_
  go_wp2
  refine Rg.region_ (n := 77) [0, 1, 3, 0, 15, 31, 0, 127, 255, 511, 1023, 2047] [1, 1, 1, 1, 1, 1, 1, 1, 1, 0, 0, 0] [14, 15, 16, 17, 18, 19, 20, 21, 22, 7, 8, 9] [[(3, none)], [(14, some 0)], [(15, some 1)], [(4, none)], [(17, some 3)], [(18, some 4)], [(5, none)], [(20, some 6)], [(21, some 7)], [(16, some 2)], [(19, some 5)], [(22, some 8)]] 12 (by kernel_rfl) (by kernel_rfl) (by rfl) ?_
  intro W hW
  have hBa_ : W.heap[w.heap.size]? = some (.cells #[.int .u64 a0, .int .u64 a1, .int .u64 a2, .int .u64 a3] 25 (0, 0)) := by rw [hW]; exact (by repeat (first | (with_reducible exact HBa.out) | (with_reducible exact set4 HBa.out _ _ _ _) | (with_reducible apply set4) | (with_reducible refine heap_new' ?_ _; simp; done) | (with_reducible refine keep4 ?_ (by omega) _ _ _ _) | (with_reducible refine heap_old ?_ _) | (with_reducible refine heap_drew ?_) | (with_reducible refine heap_set_ne ?_ (by simp <;> omega) _)))
  have hBb_ : W.heap[w.heap.size + 1]? = some (.cells #[.int .u64 b0, .int .u64 b1, .int .u64 b2, .int .u64 b3] 25 (0, 0)) := by rw [hW]; exact (by repeat (first | (with_reducible exact HBb.out) | (with_reducible exact set4 HBb.out _ _ _ _) | (with_reducible apply set4) | (with_reducible refine heap_new' ?_ _; simp; done) | (with_reducible refine keep4 ?_ (by omega) _ _ _ _) | (with_reducible refine heap_old ?_ _) | (with_reducible refine heap_drew ?_) | (with_reducible refine heap_set_ne ?_ (by simp <;> omega) _)))
  have hBc_ : W.heap[w.heap.size + 1 + 1]? = some (.cells #[.int .u64 c0, .int .u64 c1, .int .u64 c2, .int .u64 c3] 25 (0, 0)) := by rw [hW]; exact (by repeat (first | (with_reducible exact HBc.out) | (with_reducible exact set4 HBc.out _ _ _ _) | (with_reducible apply set4) | (with_reducible refine heap_new' ?_ _; simp; done) | (with_reducible refine keep4 ?_ (by omega) _ _ _ _) | (with_reducible refine heap_old ?_ _) | (with_reducible refine heap_drew ?_) | (with_reducible refine heap_set_ne ?_ (by simp <;> omega) _)))
  have HB0 : Below w.heap.size w W := by rw [hW]; have hB0 := HB.out; have hS0 := hB0.size; first | exact hB0.drew | exact (set4_below hB0 (by omega) _ _ _ _).drew | go_grown
  change Rg.Chain' _ _ _ _ _ [(0, 1, 14, [(3, none)]), (1, 1, 15, [(14, some 0)]), (2, 1, 16, [(15, some 1)]), (3, 1, 17, [(4, none)]), (4, 1, 18, [(17, some 3)]), (5, 1, 19, [(18, some 4)]), (6, 1, 20, [(5, none)]), (7, 1, 21, [(20, some 6)]), (8, 1, 22, [(21, some 7)]), (9, 0, 7, [(16, some 2)]), (10, 0, 8, [(19, some 5)]), (11, 0, 9, [(22, some 8)])] [(0, 1, 14, [(3, none)]), (1, 1, 15, [(14, some 0)]), (2, 1, 16, [(15, some 1)]), (3, 1, 17, [(4, none)]), (4, 1, 18, [(17, some 3)]), (5, 1, 19, [(18, some 4)]), (6, 1, 20, [(5, none)]), (7, 1, 21, [(20, some 6)]), (8, 1, 22, [(21, some 7)]), (9, 0, 7, [(16, some 2)]), (10, 0, 8, [(19, some 5)]), (11, 0, 9, [(22, some 8)])] _
  apply Rg.ch_def (by rfl) (fun a w1 _ => Rg.wanted_none (by rfl))
  · rintro a w1 hb ⟨e3, -⟩
    conv at e3 => rhs; whnf
    have n3 := e3
    simp only [Act.eval, Array.getD_eq_getD_getElem?] at n3
    apply Rg.gives_value
    · conv => lhs; simp [go_sem, n3, cells4 (heap_keep' hb hBa_), cells4 (heap_keep' hb hBb_), cells4 (heap_keep' hb hBc_)]
    · exact ⟨rfl, Below.refl _ _⟩
  apply Rg.ch_rel (fun w v => RdI w.heap.size w v da) (stable_rdi _) (by rfl) (fun a w1 _ => Rg.wanted_none (by rfl))
  · rintro a w1 hb ⟨e14, -⟩
    replace e14 : a.eval (.tmp 14) = _ := e14
    apply Rg.gives_enter
    · apply run_call Try.func20 (by kernel_rfl) rfl _ (by rfl)
      conv => lhs; simp only [List.map_toArray, List.map_cons, List.map_nil, eval_const_, eval_global_, e14]
    · refine (HRa.out _).mono ?_
      rintro e w2 ⟨⟨v, rfl, hv⟩, hb2⟩
      exact ⟨_, rfl, hv, hb2⟩
  apply Rg.ch_rel (fun w v => RdI w.heap.size w v dx) (stable_rdi _) (by rfl) (fun a w1 _ => Rg.wanted_none (by rfl))
  · rintro a w1 hb ⟨e15, -⟩
    replace e15 : (fun w v => RdI w.heap.size w v da) w1 (a.eval (.tmp 15)) := e15
    apply Rg.gives_enter
    · apply run_call Try.func27 (by kernel_rfl) rfl _ (by rfl)
      conv => lhs; simp only [List.map_toArray, List.map_cons, List.map_nil, eval_const_, eval_global_]
    · refine (HFa.out _ _ e15).mono ?_
      rintro e w2 ⟨⟨v, rfl, hv⟩, hb2⟩
      exact ⟨_, rfl, hv, hb2⟩
  apply Rg.ch_def (by rfl) (fun a w1 _ => Rg.wanted_none (by rfl))
  · rintro a w1 hb ⟨e4, -⟩
    conv at e4 => rhs; whnf
    have n4 := e4
    simp only [Act.eval, Array.getD_eq_getD_getElem?] at n4
    apply Rg.gives_value
    · conv => lhs; simp [go_sem, n4, cells4 (heap_keep' hb hBa_), cells4 (heap_keep' hb hBb_), cells4 (heap_keep' hb hBc_)]
    · exact ⟨rfl, Below.refl _ _⟩
  apply Rg.ch_rel (fun w v => RdI w.heap.size w v db) (stable_rdi _) (by rfl) (fun a w1 _ => Rg.wanted_none (by rfl))
  · rintro a w1 hb ⟨e17, -⟩
    replace e17 : a.eval (.tmp 17) = _ := e17
    apply Rg.gives_enter
    · apply run_call Try.func20 (by kernel_rfl) rfl _ (by rfl)
      conv => lhs; simp only [List.map_toArray, List.map_cons, List.map_nil, eval_const_, eval_global_, e17]
    · refine (HRb.out _).mono ?_
      rintro e w2 ⟨⟨v, rfl, hv⟩, hb2⟩
      exact ⟨_, rfl, hv, hb2⟩
  apply Rg.ch_rel (fun w v => RdI w.heap.size w v dy) (stable_rdi _) (by rfl) (fun a w1 _ => Rg.wanted_none (by rfl))
  · rintro a w1 hb ⟨e18, -⟩
    replace e18 : (fun w v => RdI w.heap.size w v db) w1 (a.eval (.tmp 18)) := e18
    apply Rg.gives_enter
    · apply run_call Try.func27 (by kernel_rfl) rfl _ (by rfl)
      conv => lhs; simp only [List.map_toArray, List.map_cons, List.map_nil, eval_const_, eval_global_]
    · refine (HFb.out _ _ e18).mono ?_
      rintro e w2 ⟨⟨v, rfl, hv⟩, hb2⟩
      exact ⟨_, rfl, hv, hb2⟩
  apply Rg.ch_def (by rfl) (fun a w1 _ => Rg.wanted_none (by rfl))
  · rintro a w1 hb ⟨e5, -⟩
    conv at e5 => rhs; whnf
    have n5 := e5
    simp only [Act.eval, Array.getD_eq_getD_getElem?] at n5
    apply Rg.gives_value
    · conv => lhs; simp [go_sem, n5, cells4 (heap_keep' hb hBa_), cells4 (heap_keep' hb hBb_), cells4 (heap_keep' hb hBc_)]
    · exact ⟨rfl, Below.refl _ _⟩
  apply Rg.ch_rel (fun w v => RdI w.heap.size w v dc) (stable_rdi _) (by rfl) (fun a w1 _ => Rg.wanted_none (by rfl))
  · rintro a w1 hb ⟨e20, -⟩
    replace e20 : a.eval (.tmp 20) = _ := e20
    apply Rg.gives_enter
    · apply run_call Try.func20 (by kernel_rfl) rfl _ (by rfl)
      conv => lhs; simp only [List.map_toArray, List.map_cons, List.map_nil, eval_const_, eval_global_, e20]
    · refine (HRc.out _).mono ?_
      rintro e w2 ⟨⟨v, rfl, hv⟩, hb2⟩
      exact ⟨_, rfl, hv, hb2⟩
  apply Rg.ch_rel (fun w v => RdI w.heap.size w v dz) (stable_rdi _) (by rfl) (fun a w1 _ => Rg.wanted_none (by rfl))
  · rintro a w1 hb ⟨e21, -⟩
    replace e21 : (fun w v => RdI w.heap.size w v dc) w1 (a.eval (.tmp 21)) := e21
    apply Rg.gives_enter
    · apply run_call Try.func27 (by kernel_rfl) rfl _ (by rfl)
      conv => lhs; simp only [List.map_toArray, List.map_cons, List.map_nil, eval_const_, eval_global_]
    · refine (HFc.out _ _ e21).mono ?_
      rintro e w2 ⟨⟨v, rfl, hv⟩, hb2⟩
      exact ⟨_, rfl, hv, hb2⟩
  refine Rg.ch_move _ (stable_rdi _) (by rfl) (by rfl) (.inr (by rfl)) (by rfl) ?_
  refine Rg.ch_move _ (stable_rdi _) (by rfl) (by rfl) (.inr (by rfl)) (by rfl) ?_
  refine Rg.ch_move _ (stable_rdi _) (by rfl) (by rfl) (.inr (by rfl)) (by rfl) ?_
  intro w1 hb1
  rintro _ rfl v15 hv15 v16 hv16 _ rfl v18 hv18 v19 hv19 _ rfl v21 hv21 v22 hv22 v7 hv7 v8 hv8 v9 hv9
  change Go.wpList _ _ _ _ _ _
  set_option maxRecDepth 100000 in simp only [List.drop_succ_cons, List.drop_zero, List.drop_nil, Act.put, List.setIfInBounds_toArray, List.set_cons_succ, List.set_cons_zero]
  change Go.NoPanic _ _ _ _
  refine NoPanic.normal ?_
  have HBn : Hid (Below w.heap.size w w1) := Lib.hid (below_call HB0 HB0.size hb1)
  have hBa__ := heap_keep' hb1 hBa_
  have hBb__ := heap_keep' hb1 hBb_
  have hBc__ := heap_keep' hb1 hBc_
  clear hb1 HB0 HB hBa_ HBa cBa fBa zBa hBb_ HBb cBb fBb zBb hBc_ HBc cBc fBc zBc
  clear hW
  obtain ⟨wb, rfl⟩ : ∃ x : World, x = w1 := ⟨_, rfl⟩
  have HB := HBn; clear HBn
  have HBa := Lib.hid hBa__; have cBa := cells4 hBa__; have fBa := frozen_of hBa__; have zBa := lt_of_heap hBa__; clear hBa__
  have HBb := Lib.hid hBb__; have cBb := cells4 hBb__; have fBb := frozen_of hBb__; have zBb := lt_of_heap hBb__; clear hBb__
  have HBc := Lib.hid hBc__; have cBc := cells4 hBc__; have fBc := frozen_of hBc__; have zBc := lt_of_heap hBc__; clear hBc__
  have HX := Lib.hid hv7; have HY := Lib.hid hv8; have HW := Lib.hid hv9
  clear hv7 hv8 hv9 hv15 hv16 hv18 hv19 hv21 hv22
  go_wp2_with (fail)
  go_at_call 28
  refine (HA1.out _ _ _ HX.out HY.out).mono ?_
  rintro e wc ⟨⟨P1, rfl, hv⟩, hb⟩; have XX := Lib.hid ((HX.out.next (by go_grown)).next hb); clear HX; have HX := XX; clear XX; have XY := Lib.hid ((HY.out.next (by go_grown)).next hb); clear HY; have HY := XY; clear XY; have XW := Lib.hid ((HW.out.next (by go_grown)).next hb); clear HW; have HW := XW; clear XW; have HP1 := Lib.hid hv; clear hv
  have HBn : Hid (Below w.heap.size w wc) := Lib.hid ((fun (h : Below _ _ _) => below_call h h.size hb) (by have hB0 := HB.out; have hS0 := hB0.size; first | (with_reducible exact hB0) | (with_reducible exact set4_below hB0 (by omega) _ _ _ _) | (with_reducible exact set4_below (set4_below hB0 (by omega) _ _ _ _) (by omega) _ _ _ _) | (with_reducible exact set4_below (set4_below (set4_below (set4_below hB0 (by omega) _ _ _ _) (by omega) _ _ _ _) (by omega) _ _ _ _) (by omega) _ _ _ _) | go_grown))
  have hBa_ : wc.heap[w.heap.size]? = some (.cells #[.int .u64 a0, .int .u64 a1, .int .u64 a2, .int .u64 a3] 25 (0, 0)) := heap_keep' hb (by repeat (first | (with_reducible exact HBa.out) | (with_reducible exact set4 HBa.out _ _ _ _) | (with_reducible apply set4) | (with_reducible refine heap_new' ?_ _; simp; done) | (with_reducible refine keep4 ?_ (by omega) _ _ _ _) | (with_reducible refine heap_old ?_ _) | (with_reducible refine heap_drew ?_) | (with_reducible refine heap_set_ne ?_ (by simp <;> omega) _)))
  have hBb_ : wc.heap[w.heap.size + 1]? = some (.cells #[.int .u64 b0, .int .u64 b1, .int .u64 b2, .int .u64 b3] 25 (0, 0)) := heap_keep' hb (by repeat (first | (with_reducible exact HBb.out) | (with_reducible exact set4 HBb.out _ _ _ _) | (with_reducible apply set4) | (with_reducible refine heap_new' ?_ _; simp; done) | (with_reducible refine keep4 ?_ (by omega) _ _ _ _) | (with_reducible refine heap_old ?_ _) | (with_reducible refine heap_drew ?_) | (with_reducible refine heap_set_ne ?_ (by simp <;> omega) _)))
  have hBc_ : wc.heap[w.heap.size + 1 + 1]? = some (.cells #[.int .u64 c0, .int .u64 c1, .int .u64 c2, .int .u64 c3] 25 (0, 0)) := heap_keep' hb (by repeat (first | (with_reducible exact HBc.out) | (with_reducible exact set4 HBc.out _ _ _ _) | (with_reducible apply set4) | (with_reducible refine heap_new' ?_ _; simp; done) | (with_reducible refine keep4 ?_ (by omega) _ _ _ _) | (with_reducible refine heap_old ?_ _) | (with_reducible refine heap_drew ?_) | (with_reducible refine heap_set_ne ?_ (by simp <;> omega) _)))
  clear hb HB HBa cBa fBa zBa HBb cBb fBb zBb HBc cBc fBc zBc
  have HB := HBn; clear HBn
  have HBa := Lib.hid hBa_; have cBa := cells4 hBa_; have fBa := frozen_of hBa_; have zBa := lt_of_heap hBa_; clear hBa_
  have HBb := Lib.hid hBb_; have cBb := cells4 hBb_; have fBb := frozen_of hBb_; have zBb := lt_of_heap hBb_; clear hBb_
  have HBc := Lib.hid hBc_; have cBc := cells4 hBc_; have fBc := frozen_of hBc_; have zBc := lt_of_heap hBc_; clear hBc_
  go_wp2_with (fail)
  go_at_call 28
  refine (HA2.out _ _ _ HP1.out HW.out).mono ?_
  rintro e wd ⟨⟨P2, rfl, hv⟩, hb⟩; have XX := Lib.hid ((HX.out.next (by go_grown)).next hb); clear HX; have HX := XX; clear XX; have XY := Lib.hid ((HY.out.next (by go_grown)).next hb); clear HY; have HY := XY; clear XY; have XW := Lib.hid ((HW.out.next (by go_grown)).next hb); clear HW; have HW := XW; clear XW; have HP2 := Lib.hid hv; clear hv
  have HBn : Hid (Below w.heap.size w wd) := Lib.hid ((fun (h : Below _ _ _) => below_call h h.size hb) (by have hB0 := HB.out; have hS0 := hB0.size; first | (with_reducible exact hB0) | (with_reducible exact set4_below hB0 (by omega) _ _ _ _) | (with_reducible exact set4_below (set4_below hB0 (by omega) _ _ _ _) (by omega) _ _ _ _) | (with_reducible exact set4_below (set4_below (set4_below (set4_below hB0 (by omega) _ _ _ _) (by omega) _ _ _ _) (by omega) _ _ _ _) (by omega) _ _ _ _) | go_grown))
  have hBa_ : wd.heap[w.heap.size]? = some (.cells #[.int .u64 a0, .int .u64 a1, .int .u64 a2, .int .u64 a3] 25 (0, 0)) := heap_keep' hb (by repeat (first | (with_reducible exact HBa.out) | (with_reducible exact set4 HBa.out _ _ _ _) | (with_reducible apply set4) | (with_reducible refine heap_new' ?_ _; simp; done) | (with_reducible refine keep4 ?_ (by omega) _ _ _ _) | (with_reducible refine heap_old ?_ _) | (with_reducible refine heap_drew ?_) | (with_reducible refine heap_set_ne ?_ (by simp <;> omega) _)))
  have hBb_ : wd.heap[w.heap.size + 1]? = some (.cells #[.int .u64 b0, .int .u64 b1, .int .u64 b2, .int .u64 b3] 25 (0, 0)) := heap_keep' hb (by repeat (first | (with_reducible exact HBb.out) | (with_reducible exact set4 HBb.out _ _ _ _) | (with_reducible apply set4) | (with_reducible refine heap_new' ?_ _; simp; done) | (with_reducible refine keep4 ?_ (by omega) _ _ _ _) | (with_reducible refine heap_old ?_ _) | (with_reducible refine heap_drew ?_) | (with_reducible refine heap_set_ne ?_ (by simp <;> omega) _)))
  have hBc_ : wd.heap[w.heap.size + 1 + 1]? = some (.cells #[.int .u64 c0, .int .u64 c1, .int .u64 c2, .int .u64 c3] 25 (0, 0)) := heap_keep' hb (by repeat (first | (with_reducible exact HBc.out) | (with_reducible exact set4 HBc.out _ _ _ _) | (with_reducible apply set4) | (with_reducible refine heap_new' ?_ _; simp; done) | (with_reducible refine keep4 ?_ (by omega) _ _ _ _) | (with_reducible refine heap_old ?_ _) | (with_reducible refine heap_drew ?_) | (with_reducible refine heap_set_ne ?_ (by simp <;> omega) _)))
  clear hb HB HBa cBa fBa zBa HBb cBb fBb zBb HBc cBc fBc zBc
  have HB := HBn; clear HBn
  have HBa := Lib.hid hBa_; have cBa := cells4 hBa_; have fBa := frozen_of hBa_; have zBa := lt_of_heap hBa_; clear hBa_
  have HBb := Lib.hid hBb_; have cBb := cells4 hBb_; have fBb := frozen_of hBb_; have zBb := lt_of_heap hBb_; clear hBb_
  have HBc := Lib.hid hBc_; have cBc := cells4 hBc_; have fBc := frozen_of hBc_; have zBc := lt_of_heap hBc_; clear hBc_
  go_wp2_with (fail)
  go_at_call 29
  refine (HM1.out _ _ _ HX.out HY.out).mono ?_
  rintro e we ⟨⟨P3, rfl, hv⟩, hb⟩; have XX := Lib.hid ((HX.out.next (by go_grown)).next hb); clear HX; have HX := XX; clear XX; have XY := Lib.hid ((HY.out.next (by go_grown)).next hb); clear HY; have HY := XY; clear XY; have XW := Lib.hid ((HW.out.next (by go_grown)).next hb); clear HW; have HW := XW; clear XW; have XP2 := Lib.hid ((HP2.out.next (by go_grown)).next hb); clear HP2; have HP2 := XP2; clear XP2; have HP3 := Lib.hid hv; clear hv
  have HBn : Hid (Below w.heap.size w we) := Lib.hid ((fun (h : Below _ _ _) => below_call h h.size hb) (by have hB0 := HB.out; have hS0 := hB0.size; first | (with_reducible exact hB0) | (with_reducible exact set4_below hB0 (by omega) _ _ _ _) | (with_reducible exact set4_below (set4_below hB0 (by omega) _ _ _ _) (by omega) _ _ _ _) | (with_reducible exact set4_below (set4_below (set4_below (set4_below hB0 (by omega) _ _ _ _) (by omega) _ _ _ _) (by omega) _ _ _ _) (by omega) _ _ _ _) | go_grown))
  have hBa_ : we.heap[w.heap.size]? = some (.cells #[.int .u64 a0, .int .u64 a1, .int .u64 a2, .int .u64 a3] 25 (0, 0)) := heap_keep' hb (by repeat (first | (with_reducible exact HBa.out) | (with_reducible exact set4 HBa.out _ _ _ _) | (with_reducible apply set4) | (with_reducible refine heap_new' ?_ _; simp; done) | (with_reducible refine keep4 ?_ (by omega) _ _ _ _) | (with_reducible refine heap_old ?_ _) | (with_reducible refine heap_drew ?_) | (with_reducible refine heap_set_ne ?_ (by simp <;> omega) _)))
  have hBb_ : we.heap[w.heap.size + 1]? = some (.cells #[.int .u64 b0, .int .u64 b1, .int .u64 b2, .int .u64 b3] 25 (0, 0)) := heap_keep' hb (by repeat (first | (with_reducible exact HBb.out) | (with_reducible exact set4 HBb.out _ _ _ _) | (with_reducible apply set4) | (with_reducible refine heap_new' ?_ _; simp; done) | (with_reducible refine keep4 ?_ (by omega) _ _ _ _) | (with_reducible refine heap_old ?_ _) | (with_reducible refine heap_drew ?_) | (with_reducible refine heap_set_ne ?_ (by simp <;> omega) _)))
  have hBc_ : we.heap[w.heap.size + 1 + 1]? = some (.cells #[.int .u64 c0, .int .u64 c1, .int .u64 c2, .int .u64 c3] 25 (0, 0)) := heap_keep' hb (by repeat (first | (with_reducible exact HBc.out) | (with_reducible exact set4 HBc.out _ _ _ _) | (with_reducible apply set4) | (with_reducible refine heap_new' ?_ _; simp; done) | (with_reducible refine keep4 ?_ (by omega) _ _ _ _) | (with_reducible refine heap_old ?_ _) | (with_reducible refine heap_drew ?_) | (with_reducible refine heap_set_ne ?_ (by simp <;> omega) _)))
  clear hb HB HBa cBa fBa zBa HBb cBb fBb zBb HBc cBc fBc zBc
  have HB := HBn; clear HBn
  have HBa := Lib.hid hBa_; have cBa := cells4 hBa_; have fBa := frozen_of hBa_; have zBa := lt_of_heap hBa_; clear hBa_
  have HBb := Lib.hid hBb_; have cBb := cells4 hBb_; have fBb := frozen_of hBb_; have zBb := lt_of_heap hBb_; clear hBb_
  have HBc := Lib.hid hBc_; have cBc := cells4 hBc_; have fBc := frozen_of hBc_; have zBc := lt_of_heap hBc_; clear hBc_
  go_wp2_with (fail)
  go_at_call 29
  refine (HM2.out _ _ _ HP3.out HW.out).mono ?_
  rintro e wf ⟨⟨P4, rfl, hv⟩, hb⟩; have XX := Lib.hid ((HX.out.next (by go_grown)).next hb); clear HX; have HX := XX; clear XX; have XY := Lib.hid ((HY.out.next (by go_grown)).next hb); clear HY; have HY := XY; clear XY; have XP2 := Lib.hid ((HP2.out.next (by go_grown)).next hb); clear HP2; have HP2 := XP2; clear XP2; have HP4 := Lib.hid hv; clear hv
  have HBn : Hid (Below w.heap.size w wf) := Lib.hid ((fun (h : Below _ _ _) => below_call h h.size hb) (by have hB0 := HB.out; have hS0 := hB0.size; first | (with_reducible exact hB0) | (with_reducible exact set4_below hB0 (by omega) _ _ _ _) | (with_reducible exact set4_below (set4_below hB0 (by omega) _ _ _ _) (by omega) _ _ _ _) | (with_reducible exact set4_below (set4_below (set4_below (set4_below hB0 (by omega) _ _ _ _) (by omega) _ _ _ _) (by omega) _ _ _ _) (by omega) _ _ _ _) | go_grown))
  have hBa_ : wf.heap[w.heap.size]? = some (.cells #[.int .u64 a0, .int .u64 a1, .int .u64 a2, .int .u64 a3] 25 (0, 0)) := heap_keep' hb (by repeat (first | (with_reducible exact HBa.out) | (with_reducible exact set4 HBa.out _ _ _ _) | (with_reducible apply set4) | (with_reducible refine heap_new' ?_ _; simp; done) | (with_reducible refine keep4 ?_ (by omega) _ _ _ _) | (with_reducible refine heap_old ?_ _) | (with_reducible refine heap_drew ?_) | (with_reducible refine heap_set_ne ?_ (by simp <;> omega) _)))
  have hBb_ : wf.heap[w.heap.size + 1]? = some (.cells #[.int .u64 b0, .int .u64 b1, .int .u64 b2, .int .u64 b3] 25 (0, 0)) := heap_keep' hb (by repeat (first | (with_reducible exact HBb.out) | (with_reducible exact set4 HBb.out _ _ _ _) | (with_reducible apply set4) | (with_reducible refine heap_new' ?_ _; simp; done) | (with_reducible refine keep4 ?_ (by omega) _ _ _ _) | (with_reducible refine heap_old ?_ _) | (with_reducible refine heap_drew ?_) | (with_reducible refine heap_set_ne ?_ (by simp <;> omega) _)))
  have hBc_ : wf.heap[w.heap.size + 1 + 1]? = some (.cells #[.int .u64 c0, .int .u64 c1, .int .u64 c2, .int .u64 c3] 25 (0, 0)) := heap_keep' hb (by repeat (first | (with_reducible exact HBc.out) | (with_reducible exact set4 HBc.out _ _ _ _) | (with_reducible apply set4) | (with_reducible refine heap_new' ?_ _; simp; done) | (with_reducible refine keep4 ?_ (by omega) _ _ _ _) | (with_reducible refine heap_old ?_ _) | (with_reducible refine heap_drew ?_) | (with_reducible refine heap_set_ne ?_ (by simp <;> omega) _)))
  clear hb HB HBa cBa fBa zBa HBb cBb fBb zBb HBc cBc fBc zBc
  have HB := HBn; clear HBn
  have HBa := Lib.hid hBa_; have cBa := cells4 hBa_; have fBa := frozen_of hBa_; have zBa := lt_of_heap hBa_; clear hBa_
  have HBb := Lib.hid hBb_; have cBb := cells4 hBb_; have fBb := frozen_of hBb_; have zBb := lt_of_heap hBb_; clear hBb_
  have HBc := Lib.hid hBc_; have cBc := cells4 hBc_; have fBc := frozen_of hBc_; have zBc := lt_of_heap hBc_; clear hBc_
  go_wp2_with (fail)
  go_at_call 23
  refine (HS.out _ _ (heap_new' (by simp) _)).mono ?_
  rintro e wg ⟨rfl, hb⟩; have XX := Lib.hid ((HX.out.next (by go_grown)).next hb); clear HX; have HX := XX; clear XX; have XY := Lib.hid ((HY.out.next (by go_grown)).next hb); clear HY; have HY := XY; clear XY; have XP2 := Lib.hid ((HP2.out.next (by go_grown)).next hb); clear HP2; have HP2 := XP2; clear XP2; have XP4 := Lib.hid ((HP4.out.next (by go_grown)).next hb); clear HP4; have HP4 := XP4; clear XP4
  have HBn : Hid (Below w.heap.size w wg) := Lib.hid ((fun (h : Below _ _ _) => below_call h h.size hb) (by have hB0 := HB.out; have hS0 := hB0.size; first | (with_reducible exact hB0) | (with_reducible exact set4_below hB0 (by omega) _ _ _ _) | (with_reducible exact set4_below (set4_below hB0 (by omega) _ _ _ _) (by omega) _ _ _ _) | (with_reducible exact set4_below (set4_below (set4_below (set4_below hB0 (by omega) _ _ _ _) (by omega) _ _ _ _) (by omega) _ _ _ _) (by omega) _ _ _ _) | go_grown))
  have hBa_ : wg.heap[w.heap.size]? = some (.cells #[.int .u64 a0, .int .u64 a1, .int .u64 a2, .int .u64 a3] 25 (0, 0)) := heap_keep' hb (by repeat (first | (with_reducible exact HBa.out) | (with_reducible exact set4 HBa.out _ _ _ _) | (with_reducible apply set4) | (with_reducible refine heap_new' ?_ _; simp; done) | (with_reducible refine keep4 ?_ (by omega) _ _ _ _) | (with_reducible refine heap_old ?_ _) | (with_reducible refine heap_drew ?_) | (with_reducible refine heap_set_ne ?_ (by simp <;> omega) _)))
  have hBb_ : wg.heap[w.heap.size + 1]? = some (.cells #[.int .u64 b0, .int .u64 b1, .int .u64 b2, .int .u64 b3] 25 (0, 0)) := heap_keep' hb (by repeat (first | (with_reducible exact HBb.out) | (with_reducible exact set4 HBb.out _ _ _ _) | (with_reducible apply set4) | (with_reducible refine heap_new' ?_ _; simp; done) | (with_reducible refine keep4 ?_ (by omega) _ _ _ _) | (with_reducible refine heap_old ?_ _) | (with_reducible refine heap_drew ?_) | (with_reducible refine heap_set_ne ?_ (by simp <;> omega) _)))
  have hBc_ : wg.heap[w.heap.size + 1 + 1]? = some (.cells #[.int .u64 c0, .int .u64 c1, .int .u64 c2, .int .u64 c3] 25 (0, 0)) := heap_keep' hb (by repeat (first | (with_reducible exact HBc.out) | (with_reducible exact set4 HBc.out _ _ _ _) | (with_reducible apply set4) | (with_reducible refine heap_new' ?_ _; simp; done) | (with_reducible refine keep4 ?_ (by omega) _ _ _ _) | (with_reducible refine heap_old ?_ _) | (with_reducible refine heap_drew ?_) | (with_reducible refine heap_set_ne ?_ (by simp <;> omega) _)))
  clear hb HB HBa cBa fBa zBa HBb cBb fBb zBb HBc cBc fBc zBc
  have HB := HBn; clear HBn
  have HBa := Lib.hid hBa_; have cBa := cells4 hBa_; have fBa := frozen_of hBa_; have zBa := lt_of_heap hBa_; clear hBa_
  have HBb := Lib.hid hBb_; have cBb := cells4 hBb_; have fBb := frozen_of hBb_; have zBb := lt_of_heap hBb_; clear hBb_
  have HBc := Lib.hid hBc_; have cBc := cells4 hBc_; have fBc := frozen_of hBc_; have zBc := lt_of_heap hBc_; clear hBc_
  go_wp2_with (fail)
  go_at_call 16
  refine (I1.out _ _ HP2.out).mono ?_
  rintro e wh ⟨rfl, hb⟩; have XX := Lib.hid ((HX.out.next (by go_grown)).next hb); clear HX; have HX := XX; clear XX; have XY := Lib.hid ((HY.out.next (by go_grown)).next hb); clear HY; have HY := XY; clear XY; have XP4 := Lib.hid ((HP4.out.next (by go_grown)).next hb); clear HP4; have HP4 := XP4; clear XP4
  have HBn : Hid (Below w.heap.size w wh) := Lib.hid ((fun (h : Below _ _ _) => below_call h h.size hb) (by have hB0 := HB.out; have hS0 := hB0.size; first | (with_reducible exact hB0) | (with_reducible exact set4_below hB0 (by omega) _ _ _ _) | (with_reducible exact set4_below (set4_below hB0 (by omega) _ _ _ _) (by omega) _ _ _ _) | (with_reducible exact set4_below (set4_below (set4_below (set4_below hB0 (by omega) _ _ _ _) (by omega) _ _ _ _) (by omega) _ _ _ _) (by omega) _ _ _ _) | go_grown))
  have hBa_ : wh.heap[w.heap.size]? = some (.cells #[.int .u64 a0, .int .u64 a1, .int .u64 a2, .int .u64 a3] 25 (0, 0)) := heap_keep' hb (by repeat (first | (with_reducible exact HBa.out) | (with_reducible exact set4 HBa.out _ _ _ _) | (with_reducible apply set4) | (with_reducible refine heap_new' ?_ _; simp; done) | (with_reducible refine keep4 ?_ (by omega) _ _ _ _) | (with_reducible refine heap_old ?_ _) | (with_reducible refine heap_drew ?_) | (with_reducible refine heap_set_ne ?_ (by simp <;> omega) _)))
  have hBb_ : wh.heap[w.heap.size + 1]? = some (.cells #[.int .u64 b0, .int .u64 b1, .int .u64 b2, .int .u64 b3] 25 (0, 0)) := heap_keep' hb (by repeat (first | (with_reducible exact HBb.out) | (with_reducible exact set4 HBb.out _ _ _ _) | (with_reducible apply set4) | (with_reducible refine heap_new' ?_ _; simp; done) | (with_reducible refine keep4 ?_ (by omega) _ _ _ _) | (with_reducible refine heap_old ?_ _) | (with_reducible refine heap_drew ?_) | (with_reducible refine heap_set_ne ?_ (by simp <;> omega) _)))
  have hBc_ : wh.heap[w.heap.size + 1 + 1]? = some (.cells #[.int .u64 c0, .int .u64 c1, .int .u64 c2, .int .u64 c3] 25 (0, 0)) := heap_keep' hb (by repeat (first | (with_reducible exact HBc.out) | (with_reducible exact set4 HBc.out _ _ _ _) | (with_reducible apply set4) | (with_reducible refine heap_new' ?_ _; simp; done) | (with_reducible refine keep4 ?_ (by omega) _ _ _ _) | (with_reducible refine heap_old ?_ _) | (with_reducible refine heap_drew ?_) | (with_reducible refine heap_set_ne ?_ (by simp <;> omega) _)))
  clear hb HB HBa cBa fBa zBa HBb cBb fBb zBb HBc cBc fBc zBc
  have HB := HBn; clear HBn
  have HBa := Lib.hid hBa_; have cBa := cells4 hBa_; have fBa := frozen_of hBa_; have zBa := lt_of_heap hBa_; clear hBa_
  have HBb := Lib.hid hBb_; have cBb := cells4 hBb_; have fBb := frozen_of hBb_; have zBb := lt_of_heap hBb_; clear hBb_
  have HBc := Lib.hid hBc_; have cBc := cells4 hBc_; have fBc := frozen_of hBc_; have zBc := lt_of_heap hBc_; clear hBc_
  go_wp2_with (fail)
  go_at_call 25
  refine (HP.out _ _ (heap_new' (by simp) _)).mono ?_
  rintro e wi ⟨rfl, hb⟩; have XX := Lib.hid ((HX.out.next (by go_grown)).next hb); clear HX; have HX := XX; clear XX; have XY := Lib.hid ((HY.out.next (by go_grown)).next hb); clear HY; have HY := XY; clear XY; have XP4 := Lib.hid ((HP4.out.next (by go_grown)).next hb); clear HP4; have HP4 := XP4; clear XP4
  have HBn : Hid (Below w.heap.size w wi) := Lib.hid ((fun (h : Below _ _ _) => below_call h h.size hb) (by have hB0 := HB.out; have hS0 := hB0.size; first | (with_reducible exact hB0) | (with_reducible exact set4_below hB0 (by omega) _ _ _ _) | (with_reducible exact set4_below (set4_below hB0 (by omega) _ _ _ _) (by omega) _ _ _ _) | (with_reducible exact set4_below (set4_below (set4_below (set4_below hB0 (by omega) _ _ _ _) (by omega) _ _ _ _) (by omega) _ _ _ _) (by omega) _ _ _ _) | go_grown))
  have hBa_ : wi.heap[w.heap.size]? = some (.cells #[.int .u64 a0, .int .u64 a1, .int .u64 a2, .int .u64 a3] 25 (0, 0)) := heap_keep' hb (by repeat (first | (with_reducible exact HBa.out) | (with_reducible exact set4 HBa.out _ _ _ _) | (with_reducible apply set4) | (with_reducible refine heap_new' ?_ _; simp; done) | (with_reducible refine keep4 ?_ (by omega) _ _ _ _) | (with_reducible refine heap_old ?_ _) | (with_reducible refine heap_drew ?_) | (with_reducible refine heap_set_ne ?_ (by simp <;> omega) _)))
  have hBb_ : wi.heap[w.heap.size + 1]? = some (.cells #[.int .u64 b0, .int .u64 b1, .int .u64 b2, .int .u64 b3] 25 (0, 0)) := heap_keep' hb (by repeat (first | (with_reducible exact HBb.out) | (with_reducible exact set4 HBb.out _ _ _ _) | (with_reducible apply set4) | (with_reducible refine heap_new' ?_ _; simp; done) | (with_reducible refine keep4 ?_ (by omega) _ _ _ _) | (with_reducible refine heap_old ?_ _) | (with_reducible refine heap_drew ?_) | (with_reducible refine heap_set_ne ?_ (by simp <;> omega) _)))
  have hBc_ : wi.heap[w.heap.size + 1 + 1]? = some (.cells #[.int .u64 c0, .int .u64 c1, .int .u64 c2, .int .u64 c3] 25 (0, 0)) := heap_keep' hb (by repeat (first | (with_reducible exact HBc.out) | (with_reducible exact set4 HBc.out _ _ _ _) | (with_reducible apply set4) | (with_reducible refine heap_new' ?_ _; simp; done) | (with_reducible refine keep4 ?_ (by omega) _ _ _ _) | (with_reducible refine heap_old ?_ _) | (with_reducible refine heap_drew ?_) | (with_reducible refine heap_set_ne ?_ (by simp <;> omega) _)))
  clear hb HB HBa cBa fBa zBa HBb cBb fBb zBb HBc cBc fBc zBc
  have HB := HBn; clear HBn
  have HBa := Lib.hid hBa_; have cBa := cells4 hBa_; have fBa := frozen_of hBa_; have zBa := lt_of_heap hBa_; clear hBa_
  have HBb := Lib.hid hBb_; have cBb := cells4 hBb_; have fBb := frozen_of hBb_; have zBb := lt_of_heap hBb_; clear hBb_
  have HBc := Lib.hid hBc_; have cBc := cells4 hBc_; have fBc := frozen_of hBc_; have zBc := lt_of_heap hBc_; clear hBc_
  go_wp2_with (fail)
  go_at_call 16
  refine (I2.out _ _ HP4.out).mono ?_
  rintro e wj ⟨rfl, hb⟩; have XX := Lib.hid ((HX.out.next (by go_grown)).next hb); clear HX; have HX := XX; clear XX; have XY := Lib.hid ((HY.out.next (by go_grown)).next hb); clear HY; have HY := XY; clear XY
  have HBn : Hid (Below w.heap.size w wj) := Lib.hid ((fun (h : Below _ _ _) => below_call h h.size hb) (by have hB0 := HB.out; have hS0 := hB0.size; first | (with_reducible exact hB0) | (with_reducible exact set4_below hB0 (by omega) _ _ _ _) | (with_reducible exact set4_below (set4_below hB0 (by omega) _ _ _ _) (by omega) _ _ _ _) | (with_reducible exact set4_below (set4_below (set4_below (set4_below hB0 (by omega) _ _ _ _) (by omega) _ _ _ _) (by omega) _ _ _ _) (by omega) _ _ _ _) | go_grown))
  have hBa_ : wj.heap[w.heap.size]? = some (.cells #[.int .u64 a0, .int .u64 a1, .int .u64 a2, .int .u64 a3] 25 (0, 0)) := heap_keep' hb (by repeat (first | (with_reducible exact HBa.out) | (with_reducible exact set4 HBa.out _ _ _ _) | (with_reducible apply set4) | (with_reducible refine heap_new' ?_ _; simp; done) | (with_reducible refine keep4 ?_ (by omega) _ _ _ _) | (with_reducible refine heap_old ?_ _) | (with_reducible refine heap_drew ?_) | (with_reducible refine heap_set_ne ?_ (by simp <;> omega) _)))
  have hBb_ : wj.heap[w.heap.size + 1]? = some (.cells #[.int .u64 b0, .int .u64 b1, .int .u64 b2, .int .u64 b3] 25 (0, 0)) := heap_keep' hb (by repeat (first | (with_reducible exact HBb.out) | (with_reducible exact set4 HBb.out _ _ _ _) | (with_reducible apply set4) | (with_reducible refine heap_new' ?_ _; simp; done) | (with_reducible refine keep4 ?_ (by omega) _ _ _ _) | (with_reducible refine heap_old ?_ _) | (with_reducible refine heap_drew ?_) | (with_reducible refine heap_set_ne ?_ (by simp <;> omega) _)))
  have hBc_ : wj.heap[w.heap.size + 1 + 1]? = some (.cells #[.int .u64 c0, .int .u64 c1, .int .u64 c2, .int .u64 c3] 25 (0, 0)) := heap_keep' hb (by repeat (first | (with_reducible exact HBc.out) | (with_reducible exact set4 HBc.out _ _ _ _) | (with_reducible apply set4) | (with_reducible refine heap_new' ?_ _; simp; done) | (with_reducible refine keep4 ?_ (by omega) _ _ _ _) | (with_reducible refine heap_old ?_ _) | (with_reducible refine heap_drew ?_) | (with_reducible refine heap_set_ne ?_ (by simp <;> omega) _)))
  clear hb HB HBa cBa fBa zBa HBb cBb fBb zBb HBc cBc fBc zBc
  have HB := HBn; clear HBn
  have HBa := Lib.hid hBa_; have cBa := cells4 hBa_; have fBa := frozen_of hBa_; have zBa := lt_of_heap hBa_; clear hBa_
  have HBb := Lib.hid hBb_; have cBb := cells4 hBb_; have fBb := frozen_of hBb_; have zBb := lt_of_heap hBb_; clear hBb_
  have HBc := Lib.hid hBc_; have cBc := cells4 hBc_; have fBc := frozen_of hBc_; have zBc := lt_of_heap hBc_; clear hBc_
  go_wp2_with (fail)
  go_at_call 26
  refine (HU.out _).mono ?_
  rintro e wk ⟨rfl, hb⟩; have XX := Lib.hid ((HX.out.next (by go_grown)).next hb); clear HX; have HX := XX; clear XX; have XY := Lib.hid ((HY.out.next (by go_grown)).next hb); clear HY; have HY := XY; clear XY
  have HBn : Hid (Below w.heap.size w wk) := Lib.hid ((fun (h : Below _ _ _) => below_call h h.size hb) (by have hB0 := HB.out; have hS0 := hB0.size; first | (with_reducible exact hB0) | (with_reducible exact set4_below hB0 (by omega) _ _ _ _) | (with_reducible exact set4_below (set4_below hB0 (by omega) _ _ _ _) (by omega) _ _ _ _) | (with_reducible exact set4_below (set4_below (set4_below (set4_below hB0 (by omega) _ _ _ _) (by omega) _ _ _ _) (by omega) _ _ _ _) (by omega) _ _ _ _) | go_grown))
  have hBa_ : wk.heap[w.heap.size]? = some (.cells #[.int .u64 a0, .int .u64 a1, .int .u64 a2, .int .u64 a3] 25 (0, 0)) := heap_keep' hb (by repeat (first | (with_reducible exact HBa.out) | (with_reducible exact set4 HBa.out _ _ _ _) | (with_reducible apply set4) | (with_reducible refine heap_new' ?_ _; simp; done) | (with_reducible refine keep4 ?_ (by omega) _ _ _ _) | (with_reducible refine heap_old ?_ _) | (with_reducible refine heap_drew ?_) | (with_reducible refine heap_set_ne ?_ (by simp <;> omega) _)))
  have hBb_ : wk.heap[w.heap.size + 1]? = some (.cells #[.int .u64 b0, .int .u64 b1, .int .u64 b2, .int .u64 b3] 25 (0, 0)) := heap_keep' hb (by repeat (first | (with_reducible exact HBb.out) | (with_reducible exact set4 HBb.out _ _ _ _) | (with_reducible apply set4) | (with_reducible refine heap_new' ?_ _; simp; done) | (with_reducible refine keep4 ?_ (by omega) _ _ _ _) | (with_reducible refine heap_old ?_ _) | (with_reducible refine heap_drew ?_) | (with_reducible refine heap_set_ne ?_ (by simp <;> omega) _)))
  have hBc_ : wk.heap[w.heap.size + 1 + 1]? = some (.cells #[.int .u64 c0, .int .u64 c1, .int .u64 c2, .int .u64 c3] 25 (0, 0)) := heap_keep' hb (by repeat (first | (with_reducible exact HBc.out) | (with_reducible exact set4 HBc.out _ _ _ _) | (with_reducible apply set4) | (with_reducible refine heap_new' ?_ _; simp; done) | (with_reducible refine keep4 ?_ (by omega) _ _ _ _) | (with_reducible refine heap_old ?_ _) | (with_reducible refine heap_drew ?_) | (with_reducible refine heap_set_ne ?_ (by simp <;> omega) _)))
  clear hb HB HBa cBa fBa zBa HBb cBb fBb zBb HBc cBc fBc zBc
  have HB := HBn; clear HBn
  have HBa := Lib.hid hBa_; have cBa := cells4 hBa_; have fBa := frozen_of hBa_; have zBa := lt_of_heap hBa_; clear hBa_
  have HBb := Lib.hid hBb_; have cBb := cells4 hBb_; have fBb := frozen_of hBb_; have zBb := lt_of_heap hBb_; clear hBb_
  have HBc := Lib.hid hBc_; have cBc := cells4 hBc_; have fBc := frozen_of hBc_; have zBc := lt_of_heap hBc_; clear hBc_
  go_wp2_with (fail)
  go_at_call 30
  refine (HRS.out _ _ _ HX.out HY.out).mono ?_
  rintro e wl ⟨⟨P5, rfl, hv⟩, hb⟩; have HP5 := Lib.hid hv; clear hv
  have HBn : Hid (Below w.heap.size w wl) := Lib.hid ((fun (h : Below _ _ _) => below_call h h.size hb) (by have hB0 := HB.out; have hS0 := hB0.size; first | (with_reducible exact hB0) | (with_reducible exact set4_below hB0 (by omega) _ _ _ _) | (with_reducible exact set4_below (set4_below hB0 (by omega) _ _ _ _) (by omega) _ _ _ _) | (with_reducible exact set4_below (set4_below (set4_below (set4_below hB0 (by omega) _ _ _ _) (by omega) _ _ _ _) (by omega) _ _ _ _) (by omega) _ _ _ _) | go_grown))
  have hBa_ : wl.heap[w.heap.size]? = some (.cells #[.int .u64 a0, .int .u64 a1, .int .u64 a2, .int .u64 a3] 25 (0, 0)) := heap_keep' hb (by repeat (first | (with_reducible exact HBa.out) | (with_reducible exact set4 HBa.out _ _ _ _) | (with_reducible apply set4) | (with_reducible refine heap_new' ?_ _; simp; done) | (with_reducible refine keep4 ?_ (by omega) _ _ _ _) | (with_reducible refine heap_old ?_ _) | (with_reducible refine heap_drew ?_) | (with_reducible refine heap_set_ne ?_ (by simp <;> omega) _)))
  have hBb_ : wl.heap[w.heap.size + 1]? = some (.cells #[.int .u64 b0, .int .u64 b1, .int .u64 b2, .int .u64 b3] 25 (0, 0)) := heap_keep' hb (by repeat (first | (with_reducible exact HBb.out) | (with_reducible exact set4 HBb.out _ _ _ _) | (with_reducible apply set4) | (with_reducible refine heap_new' ?_ _; simp; done) | (with_reducible refine keep4 ?_ (by omega) _ _ _ _) | (with_reducible refine heap_old ?_ _) | (with_reducible refine heap_drew ?_) | (with_reducible refine heap_set_ne ?_ (by simp <;> omega) _)))
  have hBc_ : wl.heap[w.heap.size + 1 + 1]? = some (.cells #[.int .u64 c0, .int .u64 c1, .int .u64 c2, .int .u64 c3] 25 (0, 0)) := heap_keep' hb (by repeat (first | (with_reducible exact HBc.out) | (with_reducible exact set4 HBc.out _ _ _ _) | (with_reducible apply set4) | (with_reducible refine heap_new' ?_ _; simp; done) | (with_reducible refine keep4 ?_ (by omega) _ _ _ _) | (with_reducible refine heap_old ?_ _) | (with_reducible refine heap_drew ?_) | (with_reducible refine heap_set_ne ?_ (by simp <;> omega) _)))
  clear hb HB HBa cBa fBa zBa HBb cBb fBb zBb HBc cBc fBc zBc
  have HB := HBn; clear HBn
  have HBa := Lib.hid hBa_; have cBa := cells4 hBa_; have fBa := frozen_of hBa_; have zBa := lt_of_heap hBa_; clear hBa_
  have HBb := Lib.hid hBb_; have cBb := cells4 hBb_; have fBb := frozen_of hBb_; have zBb := lt_of_heap hBb_; clear hBb_
  have HBc := Lib.hid hBc_; have cBc := cells4 hBc_; have fBc := frozen_of hBc_; have zBc := lt_of_heap hBc_; clear hBc_
  go_wp2_with (fail)
  go_at_call 16
  refine (I3.out _ _ HP5.out).mono ?_
  rintro e wm ⟨rfl, hb⟩
  have HBn : Hid (Below w.heap.size w wm) := Lib.hid ((fun (h : Below _ _ _) => below_call h h.size hb) (by have hB0 := HB.out; have hS0 := hB0.size; first | (with_reducible exact hB0) | (with_reducible exact set4_below hB0 (by omega) _ _ _ _) | (with_reducible exact set4_below (set4_below hB0 (by omega) _ _ _ _) (by omega) _ _ _ _) | (with_reducible exact set4_below (set4_below (set4_below (set4_below hB0 (by omega) _ _ _ _) (by omega) _ _ _ _) (by omega) _ _ _ _) (by omega) _ _ _ _) | go_grown))
  have hBa_ : wm.heap[w.heap.size]? = some (.cells #[.int .u64 a0, .int .u64 a1, .int .u64 a2, .int .u64 a3] 25 (0, 0)) := heap_keep' hb (by repeat (first | (with_reducible exact HBa.out) | (with_reducible exact set4 HBa.out _ _ _ _) | (with_reducible apply set4) | (with_reducible refine heap_new' ?_ _; simp; done) | (with_reducible refine keep4 ?_ (by omega) _ _ _ _) | (with_reducible refine heap_old ?_ _) | (with_reducible refine heap_drew ?_) | (with_reducible refine heap_set_ne ?_ (by simp <;> omega) _)))
  have hBb_ : wm.heap[w.heap.size + 1]? = some (.cells #[.int .u64 b0, .int .u64 b1, .int .u64 b2, .int .u64 b3] 25 (0, 0)) := heap_keep' hb (by repeat (first | (with_reducible exact HBb.out) | (with_reducible exact set4 HBb.out _ _ _ _) | (with_reducible apply set4) | (with_reducible refine heap_new' ?_ _; simp; done) | (with_reducible refine keep4 ?_ (by omega) _ _ _ _) | (with_reducible refine heap_old ?_ _) | (with_reducible refine heap_drew ?_) | (with_reducible refine heap_set_ne ?_ (by simp <;> omega) _)))
  have hBc_ : wm.heap[w.heap.size + 1 + 1]? = some (.cells #[.int .u64 c0, .int .u64 c1, .int .u64 c2, .int .u64 c3] 25 (0, 0)) := heap_keep' hb (by repeat (first | (with_reducible exact HBc.out) | (with_reducible exact set4 HBc.out _ _ _ _) | (with_reducible apply set4) | (with_reducible refine heap_new' ?_ _; simp; done) | (with_reducible refine keep4 ?_ (by omega) _ _ _ _) | (with_reducible refine heap_old ?_ _) | (with_reducible refine heap_drew ?_) | (with_reducible refine heap_set_ne ?_ (by simp <;> omega) _)))
  clear hb HB HBa cBa fBa zBa HBb cBb fBb zBb HBc cBc fBc zBc
  have HB := HBn; clear HBn
  have HBa := Lib.hid hBa_; have cBa := cells4 hBa_; have fBa := frozen_of hBa_; have zBa := lt_of_heap hBa_; clear hBa_
  have HBb := Lib.hid hBb_; have cBb := cells4 hBb_; have fBb := frozen_of hBb_; have zBb := lt_of_heap hBb_; clear hBb_
  have HBc := Lib.hid hBc_; have cBc := cells4 hBc_; have fBc := frozen_of hBc_; have zBc := lt_of_heap hBc_; clear hBc_
  go_wp2_with (fail)
  go_at_call 23
  refine (HZ0.out _).mono ?_
  rintro e wn ⟨rfl, hb⟩
  have HBn : Hid (Below w.heap.size w wn) := Lib.hid ((fun (h : Below _ _ _) => below_call h h.size hb) (by have hB0 := HB.out; have hS0 := hB0.size; first | (with_reducible exact hB0) | (with_reducible exact set4_below hB0 (by omega) _ _ _ _) | (with_reducible exact set4_below (set4_below hB0 (by omega) _ _ _ _) (by omega) _ _ _ _) | (with_reducible exact set4_below (set4_below (set4_below (set4_below hB0 (by omega) _ _ _ _) (by omega) _ _ _ _) (by omega) _ _ _ _) (by omega) _ _ _ _) | go_grown))
  have hBa_ : wn.heap[w.heap.size]? = some (.cells #[.int .u64 a0, .int .u64 a1, .int .u64 a2, .int .u64 a3] 25 (0, 0)) := heap_keep' hb (by repeat (first | (with_reducible exact HBa.out) | (with_reducible exact set4 HBa.out _ _ _ _) | (with_reducible apply set4) | (with_reducible refine heap_new' ?_ _; simp; done) | (with_reducible refine keep4 ?_ (by omega) _ _ _ _) | (with_reducible refine heap_old ?_ _) | (with_reducible refine heap_drew ?_) | (with_reducible refine heap_set_ne ?_ (by simp <;> omega) _)))
  have hBb_ : wn.heap[w.heap.size + 1]? = some (.cells #[.int .u64 b0, .int .u64 b1, .int .u64 b2, .int .u64 b3] 25 (0, 0)) := heap_keep' hb (by repeat (first | (with_reducible exact HBb.out) | (with_reducible exact set4 HBb.out _ _ _ _) | (with_reducible apply set4) | (with_reducible refine heap_new' ?_ _; simp; done) | (with_reducible refine keep4 ?_ (by omega) _ _ _ _) | (with_reducible refine heap_old ?_ _) | (with_reducible refine heap_drew ?_) | (with_reducible refine heap_set_ne ?_ (by simp <;> omega) _)))
  have hBc_ : wn.heap[w.heap.size + 1 + 1]? = some (.cells #[.int .u64 c0, .int .u64 c1, .int .u64 c2, .int .u64 c3] 25 (0, 0)) := heap_keep' hb (by repeat (first | (with_reducible exact HBc.out) | (with_reducible exact set4 HBc.out _ _ _ _) | (with_reducible apply set4) | (with_reducible refine heap_new' ?_ _; simp; done) | (with_reducible refine keep4 ?_ (by omega) _ _ _ _) | (with_reducible refine heap_old ?_ _) | (with_reducible refine heap_drew ?_) | (with_reducible refine heap_set_ne ?_ (by simp <;> omega) _)))
  clear hb HB HBa cBa fBa zBa HBb cBb fBb zBb HBc cBc fBc zBc
  have HB := HBn; clear HBn
  have HBa := Lib.hid hBa_; have cBa := cells4 hBa_; have fBa := frozen_of hBa_; have zBa := lt_of_heap hBa_; clear hBa_
  have HBb := Lib.hid hBb_; have cBb := cells4 hBb_; have fBb := frozen_of hBb_; have zBb := lt_of_heap hBb_; clear hBb_
  have HBc := Lib.hid hBc_; have cBc := cells4 hBc_; have fBc := frozen_of hBc_; have zBc := lt_of_heap hBc_; clear hBc_
  go_wp2_with (fail)
  go_at_call 15
  refine (HZ.out _).mono ?_
  rintro e wo ⟨rfl, hb⟩
  have HBn : Hid (Below w.heap.size w wo) := Lib.hid ((fun (h : Below _ _ _) => below_call h h.size hb) (by have hB0 := HB.out; have hS0 := hB0.size; first | (with_reducible exact hB0) | (with_reducible exact set4_below hB0 (by omega) _ _ _ _) | (with_reducible exact set4_below (set4_below hB0 (by omega) _ _ _ _) (by omega) _ _ _ _) | (with_reducible exact set4_below (set4_below (set4_below (set4_below hB0 (by omega) _ _ _ _) (by omega) _ _ _ _) (by omega) _ _ _ _) (by omega) _ _ _ _) | go_grown))
  have hBa_ : wo.heap[w.heap.size]? = some (.cells #[.int .u64 a0, .int .u64 a1, .int .u64 a2, .int .u64 a3] 25 (0, 0)) := heap_keep' hb (by repeat (first | (with_reducible exact HBa.out) | (with_reducible exact set4 HBa.out _ _ _ _) | (with_reducible apply set4) | (with_reducible refine heap_new' ?_ _; simp; done) | (with_reducible refine keep4 ?_ (by omega) _ _ _ _) | (with_reducible refine heap_old ?_ _) | (with_reducible refine heap_drew ?_) | (with_reducible refine heap_set_ne ?_ (by simp <;> omega) _)))
  have hBb_ : wo.heap[w.heap.size + 1]? = some (.cells #[.int .u64 b0, .int .u64 b1, .int .u64 b2, .int .u64 b3] 25 (0, 0)) := heap_keep' hb (by repeat (first | (with_reducible exact HBb.out) | (with_reducible exact set4 HBb.out _ _ _ _) | (with_reducible apply set4) | (with_reducible refine heap_new' ?_ _; simp; done) | (with_reducible refine keep4 ?_ (by omega) _ _ _ _) | (with_reducible refine heap_old ?_ _) | (with_reducible refine heap_drew ?_) | (with_reducible refine heap_set_ne ?_ (by simp <;> omega) _)))
  have hBc_ : wo.heap[w.heap.size + 1 + 1]? = some (.cells #[.int .u64 c0, .int .u64 c1, .int .u64 c2, .int .u64 c3] 25 (0, 0)) := heap_keep' hb (by repeat (first | (with_reducible exact HBc.out) | (with_reducible exact set4 HBc.out _ _ _ _) | (with_reducible apply set4) | (with_reducible refine heap_new' ?_ _; simp; done) | (with_reducible refine keep4 ?_ (by omega) _ _ _ _) | (with_reducible refine heap_old ?_ _) | (with_reducible refine heap_drew ?_) | (with_reducible refine heap_set_ne ?_ (by simp <;> omega) _)))
  clear hb HB HBa cBa fBa zBa HBb cBb fBb zBb HBc cBc fBc zBc
  have HB := HBn; clear HBn
  have HBa := Lib.hid hBa_; have cBa := cells4 hBa_; have fBa := frozen_of hBa_; have zBa := lt_of_heap hBa_; clear hBa_
  have HBb := Lib.hid hBb_; have cBb := cells4 hBb_; have fBb := frozen_of hBb_; have zBb := lt_of_heap hBb_; clear hBb_
  have HBc := Lib.hid hBc_; have cBc := cells4 hBc_; have fBc := frozen_of hBc_; have zBc := lt_of_heap hBc_; clear hBc_
  go_wp2_with (fail)
  go_at_call 25
  refine (HM0.out _).mono ?_
  rintro e wp ⟨rfl, hb⟩
  have HBn : Hid (Below w.heap.size w wp) := Lib.hid ((fun (h : Below _ _ _) => below_call h h.size hb) (by have hB0 := HB.out; have hS0 := hB0.size; first | (with_reducible exact hB0) | (with_reducible exact set4_below hB0 (by omega) _ _ _ _) | (with_reducible exact set4_below (set4_below hB0 (by omega) _ _ _ _) (by omega) _ _ _ _) | (with_reducible exact set4_below (set4_below (set4_below (set4_below hB0 (by omega) _ _ _ _) (by omega) _ _ _ _) (by omega) _ _ _ _) (by omega) _ _ _ _) | go_grown))
  have hBa_ : wp.heap[w.heap.size]? = some (.cells #[.int .u64 a0, .int .u64 a1, .int .u64 a2, .int .u64 a3] 25 (0, 0)) := heap_keep' hb (by repeat (first | (with_reducible exact HBa.out) | (with_reducible exact set4 HBa.out _ _ _ _) | (with_reducible apply set4) | (with_reducible refine heap_new' ?_ _; simp; done) | (with_reducible refine keep4 ?_ (by omega) _ _ _ _) | (with_reducible refine heap_old ?_ _) | (with_reducible refine heap_drew ?_) | (with_reducible refine heap_set_ne ?_ (by simp <;> omega) _)))
  have hBb_ : wp.heap[w.heap.size + 1]? = some (.cells #[.int .u64 b0, .int .u64 b1, .int .u64 b2, .int .u64 b3] 25 (0, 0)) := heap_keep' hb (by repeat (first | (with_reducible exact HBb.out) | (with_reducible exact set4 HBb.out _ _ _ _) | (with_reducible apply set4) | (with_reducible refine heap_new' ?_ _; simp; done) | (with_reducible refine keep4 ?_ (by omega) _ _ _ _) | (with_reducible refine heap_old ?_ _) | (with_reducible refine heap_drew ?_) | (with_reducible refine heap_set_ne ?_ (by simp <;> omega) _)))
  have hBc_ : wp.heap[w.heap.size + 1 + 1]? = some (.cells #[.int .u64 c0, .int .u64 c1, .int .u64 c2, .int .u64 c3] 25 (0, 0)) := heap_keep' hb (by repeat (first | (with_reducible exact HBc.out) | (with_reducible exact set4 HBc.out _ _ _ _) | (with_reducible apply set4) | (with_reducible refine heap_new' ?_ _; simp; done) | (with_reducible refine keep4 ?_ (by omega) _ _ _ _) | (with_reducible refine heap_old ?_ _) | (with_reducible refine heap_drew ?_) | (with_reducible refine heap_set_ne ?_ (by simp <;> omega) _)))
  clear hb HB HBa cBa fBa zBa HBb cBb fBb zBb HBc cBc fBc zBc
  have HB := HBn; clear HBn
  have HBa := Lib.hid hBa_; have cBa := cells4 hBa_; have fBa := frozen_of hBa_; have zBa := lt_of_heap hBa_; clear hBa_
  have HBb := Lib.hid hBb_; have cBb := cells4 hBb_; have fBb := frozen_of hBb_; have zBb := lt_of_heap hBb_; clear hBb_
  have HBc := Lib.hid hBc_; have cBc := cells4 hBc_; have fBc := frozen_of hBc_; have zBc := lt_of_heap hBc_; clear hBc_
  go_wp2_with (fail)
  go_at_call 24
  refine (HPr.out _).mono ?_
  rintro e wq ⟨rfl, hb⟩
  have HBn : Hid (Below w.heap.size w wq) := Lib.hid ((fun (h : Below _ _ _) => below_call h h.size hb) (by have hB0 := HB.out; have hS0 := hB0.size; first | (with_reducible exact hB0) | (with_reducible exact set4_below hB0 (by omega) _ _ _ _) | (with_reducible exact set4_below (set4_below hB0 (by omega) _ _ _ _) (by omega) _ _ _ _) | (with_reducible exact set4_below (set4_below (set4_below (set4_below hB0 (by omega) _ _ _ _) (by omega) _ _ _ _) (by omega) _ _ _ _) (by omega) _ _ _ _) | go_grown))
  have hBa_ : wq.heap[w.heap.size]? = some (.cells #[.int .u64 a0, .int .u64 a1, .int .u64 a2, .int .u64 a3] 25 (0, 0)) := heap_keep' hb (by repeat (first | (with_reducible exact HBa.out) | (with_reducible exact set4 HBa.out _ _ _ _) | (with_reducible apply set4) | (with_reducible refine heap_new' ?_ _; simp; done) | (with_reducible refine keep4 ?_ (by omega) _ _ _ _) | (with_reducible refine heap_old ?_ _) | (with_reducible refine heap_drew ?_) | (with_reducible refine heap_set_ne ?_ (by simp <;> omega) _)))
  have hBb_ : wq.heap[w.heap.size + 1]? = some (.cells #[.int .u64 b0, .int .u64 b1, .int .u64 b2, .int .u64 b3] 25 (0, 0)) := heap_keep' hb (by repeat (first | (with_reducible exact HBb.out) | (with_reducible exact set4 HBb.out _ _ _ _) | (with_reducible apply set4) | (with_reducible refine heap_new' ?_ _; simp; done) | (with_reducible refine keep4 ?_ (by omega) _ _ _ _) | (with_reducible refine heap_old ?_ _) | (with_reducible refine heap_drew ?_) | (with_reducible refine heap_set_ne ?_ (by simp <;> omega) _)))
  have hBc_ : wq.heap[w.heap.size + 1 + 1]? = some (.cells #[.int .u64 c0, .int .u64 c1, .int .u64 c2, .int .u64 c3] 25 (0, 0)) := heap_keep' hb (by repeat (first | (with_reducible exact HBc.out) | (with_reducible exact set4 HBc.out _ _ _ _) | (with_reducible apply set4) | (with_reducible refine heap_new' ?_ _; simp; done) | (with_reducible refine keep4 ?_ (by omega) _ _ _ _) | (with_reducible refine heap_old ?_ _) | (with_reducible refine heap_drew ?_) | (with_reducible refine heap_set_ne ?_ (by simp <;> omega) _)))
  clear hb HB HBa cBa fBa zBa HBb cBb fBb zBb HBc cBc fBc zBc
  have HB := HBn; clear HBn
  have HBa := Lib.hid hBa_; have cBa := cells4 hBa_; have fBa := frozen_of hBa_; have zBa := lt_of_heap hBa_; clear hBa_
  have HBb := Lib.hid hBb_; have cBb := cells4 hBb_; have fBb := frozen_of hBb_; have zBb := lt_of_heap hBb_; clear hBb_
  have HBc := Lib.hid hBc_; have cBc := cells4 hBc_; have fBc := frozen_of hBc_; have zBc := lt_of_heap hBc_; clear hBc_
  go_wp2_with (fail)
  go_at_call 31
  refine (HRP.out _).mono ?_
  rintro e wr ⟨⟨P6, rfl, hv⟩, hb⟩; have HP6 := Lib.hid hv; clear hv
  have HBn : Hid (Below w.heap.size w wr) := Lib.hid ((fun (h : Below _ _ _) => below_call h h.size hb) (by have hB0 := HB.out; have hS0 := hB0.size; first | (with_reducible exact hB0) | (with_reducible exact set4_below hB0 (by omega) _ _ _ _) | (with_reducible exact set4_below (set4_below hB0 (by omega) _ _ _ _) (by omega) _ _ _ _) | (with_reducible exact set4_below (set4_below (set4_below (set4_below hB0 (by omega) _ _ _ _) (by omega) _ _ _ _) (by omega) _ _ _ _) (by omega) _ _ _ _) | go_grown))
  have hBa_ : wr.heap[w.heap.size]? = some (.cells #[.int .u64 a0, .int .u64 a1, .int .u64 a2, .int .u64 a3] 25 (0, 0)) := heap_keep' hb (by repeat (first | (with_reducible exact HBa.out) | (with_reducible exact set4 HBa.out _ _ _ _) | (with_reducible apply set4) | (with_reducible refine heap_new' ?_ _; simp; done) | (with_reducible refine keep4 ?_ (by omega) _ _ _ _) | (with_reducible refine heap_old ?_ _) | (with_reducible refine heap_drew ?_) | (with_reducible refine heap_set_ne ?_ (by simp <;> omega) _)))
  have hBb_ : wr.heap[w.heap.size + 1]? = some (.cells #[.int .u64 b0, .int .u64 b1, .int .u64 b2, .int .u64 b3] 25 (0, 0)) := heap_keep' hb (by repeat (first | (with_reducible exact HBb.out) | (with_reducible exact set4 HBb.out _ _ _ _) | (with_reducible apply set4) | (with_reducible refine heap_new' ?_ _; simp; done) | (with_reducible refine keep4 ?_ (by omega) _ _ _ _) | (with_reducible refine heap_old ?_ _) | (with_reducible refine heap_drew ?_) | (with_reducible refine heap_set_ne ?_ (by simp <;> omega) _)))
  have hBc_ : wr.heap[w.heap.size + 1 + 1]? = some (.cells #[.int .u64 c0, .int .u64 c1, .int .u64 c2, .int .u64 c3] 25 (0, 0)) := heap_keep' hb (by repeat (first | (with_reducible exact HBc.out) | (with_reducible exact set4 HBc.out _ _ _ _) | (with_reducible apply set4) | (with_reducible refine heap_new' ?_ _; simp; done) | (with_reducible refine keep4 ?_ (by omega) _ _ _ _) | (with_reducible refine heap_old ?_ _) | (with_reducible refine heap_drew ?_) | (with_reducible refine heap_set_ne ?_ (by simp <;> omega) _)))
  clear hb HB HBa cBa fBa zBa HBb cBb fBb zBb HBc cBc fBc zBc
  have HB := HBn; clear HBn
  have HBa := Lib.hid hBa_; have cBa := cells4 hBa_; have fBa := frozen_of hBa_; have zBa := lt_of_heap hBa_; clear hBa_
  have HBb := Lib.hid hBb_; have cBb := cells4 hBb_; have fBb := frozen_of hBb_; have zBb := lt_of_heap hBb_; clear hBb_
  have HBc := Lib.hid hBc_; have cBc := cells4 hBc_; have fBc := frozen_of hBc_; have zBc := lt_of_heap hBc_; clear hBc_
  go_wp2_with (fail)
  go_at_call 16
  refine (I4.out _ _ HP6.out).mono ?_
  rintro e ws ⟨rfl, hb⟩
  have HBn : Hid (Below w.heap.size w ws) := Lib.hid ((fun (h : Below _ _ _) => below_call h h.size hb) (by have hB0 := HB.out; have hS0 := hB0.size; first | (with_reducible exact hB0) | (with_reducible exact set4_below hB0 (by omega) _ _ _ _) | (with_reducible exact set4_below (set4_below hB0 (by omega) _ _ _ _) (by omega) _ _ _ _) | (with_reducible exact set4_below (set4_below (set4_below (set4_below hB0 (by omega) _ _ _ _) (by omega) _ _ _ _) (by omega) _ _ _ _) (by omega) _ _ _ _) | go_grown))
  have hBa_ : ws.heap[w.heap.size]? = some (.cells #[.int .u64 a0, .int .u64 a1, .int .u64 a2, .int .u64 a3] 25 (0, 0)) := heap_keep' hb (by repeat (first | (with_reducible exact HBa.out) | (with_reducible exact set4 HBa.out _ _ _ _) | (with_reducible apply set4) | (with_reducible refine heap_new' ?_ _; simp; done) | (with_reducible refine keep4 ?_ (by omega) _ _ _ _) | (with_reducible refine heap_old ?_ _) | (with_reducible refine heap_drew ?_) | (with_reducible refine heap_set_ne ?_ (by simp <;> omega) _)))
  have hBb_ : ws.heap[w.heap.size + 1]? = some (.cells #[.int .u64 b0, .int .u64 b1, .int .u64 b2, .int .u64 b3] 25 (0, 0)) := heap_keep' hb (by repeat (first | (with_reducible exact HBb.out) | (with_reducible exact set4 HBb.out _ _ _ _) | (with_reducible apply set4) | (with_reducible refine heap_new' ?_ _; simp; done) | (with_reducible refine keep4 ?_ (by omega) _ _ _ _) | (with_reducible refine heap_old ?_ _) | (with_reducible refine heap_drew ?_) | (with_reducible refine heap_set_ne ?_ (by simp <;> omega) _)))
  have hBc_ : ws.heap[w.heap.size + 1 + 1]? = some (.cells #[.int .u64 c0, .int .u64 c1, .int .u64 c2, .int .u64 c3] 25 (0, 0)) := heap_keep' hb (by repeat (first | (with_reducible exact HBc.out) | (with_reducible exact set4 HBc.out _ _ _ _) | (with_reducible apply set4) | (with_reducible refine heap_new' ?_ _; simp; done) | (with_reducible refine keep4 ?_ (by omega) _ _ _ _) | (with_reducible refine heap_old ?_ _) | (with_reducible refine heap_drew ?_) | (with_reducible refine heap_set_ne ?_ (by simp <;> omega) _)))
  clear hb HB HBa cBa fBa zBa HBb cBb fBb zBb HBc cBc fBc zBc
  have HB := HBn; clear HBn
  have HBa := Lib.hid hBa_; have cBa := cells4 hBa_; have fBa := frozen_of hBa_; have zBa := lt_of_heap hBa_; clear hBa_
  have HBb := Lib.hid hBb_; have cBb := cells4 hBb_; have fBb := frozen_of hBb_; have zBb := lt_of_heap hBb_; clear hBb_
  have HBc := Lib.hid hBc_; have cBc := cells4 hBc_; have fBc := frozen_of hBc_; have zBc := lt_of_heap hBc_; clear hBc_
  go_wp2_with (fail)
  go_at_call 32
  refine (HOr.out _).mono ?_
  rintro e wt ⟨rfl, hb⟩
  have HBn : Hid (Below w.heap.size w wt) := Lib.hid ((fun (h : Below _ _ _) => below_call h h.size hb) (by have hB0 := HB.out; have hS0 := hB0.size; first | (with_reducible exact hB0) | (with_reducible exact set4_below hB0 (by omega) _ _ _ _) | (with_reducible exact set4_below (set4_below hB0 (by omega) _ _ _ _) (by omega) _ _ _ _) | (with_reducible exact set4_below (set4_below (set4_below (set4_below hB0 (by omega) _ _ _ _) (by omega) _ _ _ _) (by omega) _ _ _ _) (by omega) _ _ _ _) | go_grown))
  have hBa_ : wt.heap[w.heap.size]? = some (.cells #[.int .u64 a0, .int .u64 a1, .int .u64 a2, .int .u64 a3] 25 (0, 0)) := heap_keep' hb (by repeat (first | (with_reducible exact HBa.out) | (with_reducible exact set4 HBa.out _ _ _ _) | (with_reducible apply set4) | (with_reducible refine heap_new' ?_ _; simp; done) | (with_reducible refine keep4 ?_ (by omega) _ _ _ _) | (with_reducible refine heap_old ?_ _) | (with_reducible refine heap_drew ?_) | (with_reducible refine heap_set_ne ?_ (by simp <;> omega) _)))
  have hBb_ : wt.heap[w.heap.size + 1]? = some (.cells #[.int .u64 b0, .int .u64 b1, .int .u64 b2, .int .u64 b3] 25 (0, 0)) := heap_keep' hb (by repeat (first | (with_reducible exact HBb.out) | (with_reducible exact set4 HBb.out _ _ _ _) | (with_reducible apply set4) | (with_reducible refine heap_new' ?_ _; simp; done) | (with_reducible refine keep4 ?_ (by omega) _ _ _ _) | (with_reducible refine heap_old ?_ _) | (with_reducible refine heap_drew ?_) | (with_reducible refine heap_set_ne ?_ (by simp <;> omega) _)))
  have hBc_ : wt.heap[w.heap.size + 1 + 1]? = some (.cells #[.int .u64 c0, .int .u64 c1, .int .u64 c2, .int .u64 c3] 25 (0, 0)) := heap_keep' hb (by repeat (first | (with_reducible exact HBc.out) | (with_reducible exact set4 HBc.out _ _ _ _) | (with_reducible apply set4) | (with_reducible refine heap_new' ?_ _; simp; done) | (with_reducible refine keep4 ?_ (by omega) _ _ _ _) | (with_reducible refine heap_old ?_ _) | (with_reducible refine heap_drew ?_) | (with_reducible refine heap_set_ne ?_ (by simp <;> omega) _)))
  clear hb HB HBa cBa fBa zBa HBb cBb fBb zBb HBc cBc fBc zBc
  have HB := HBn; clear HBn
  have HBa := Lib.hid hBa_; have cBa := cells4 hBa_; have fBa := frozen_of hBa_; have zBa := lt_of_heap hBa_; clear hBa_
  have HBb := Lib.hid hBb_; have cBb := cells4 hBb_; have fBb := frozen_of hBb_; have zBb := lt_of_heap hBb_; clear hBb_
  have HBc := Lib.hid hBc_; have cBc := cells4 hBc_; have fBc := frozen_of hBc_; have zBc := lt_of_heap hBc_; clear hBc_
  go_wp2_with (fail)
  go_at_call 33
  refine (HRO.out _).mono ?_
  rintro e wu ⟨⟨P7, rfl, hv⟩, hb⟩; have HP7 := Lib.hid hv; clear hv
  have HBn : Hid (Below w.heap.size w wu) := Lib.hid ((fun (h : Below _ _ _) => below_call h h.size hb) (by have hB0 := HB.out; have hS0 := hB0.size; first | (with_reducible exact hB0) | (with_reducible exact set4_below hB0 (by omega) _ _ _ _) | (with_reducible exact set4_below (set4_below hB0 (by omega) _ _ _ _) (by omega) _ _ _ _) | (with_reducible exact set4_below (set4_below (set4_below (set4_below hB0 (by omega) _ _ _ _) (by omega) _ _ _ _) (by omega) _ _ _ _) (by omega) _ _ _ _) | go_grown))
  have hBa_ : wu.heap[w.heap.size]? = some (.cells #[.int .u64 a0, .int .u64 a1, .int .u64 a2, .int .u64 a3] 25 (0, 0)) := heap_keep' hb (by repeat (first | (with_reducible exact HBa.out) | (with_reducible exact set4 HBa.out _ _ _ _) | (with_reducible apply set4) | (with_reducible refine heap_new' ?_ _; simp; done) | (with_reducible refine keep4 ?_ (by omega) _ _ _ _) | (with_reducible refine heap_old ?_ _) | (with_reducible refine heap_drew ?_) | (with_reducible refine heap_set_ne ?_ (by simp <;> omega) _)))
  have hBb_ : wu.heap[w.heap.size + 1]? = some (.cells #[.int .u64 b0, .int .u64 b1, .int .u64 b2, .int .u64 b3] 25 (0, 0)) := heap_keep' hb (by repeat (first | (with_reducible exact HBb.out) | (with_reducible exact set4 HBb.out _ _ _ _) | (with_reducible apply set4) | (with_reducible refine heap_new' ?_ _; simp; done) | (with_reducible refine keep4 ?_ (by omega) _ _ _ _) | (with_reducible refine heap_old ?_ _) | (with_reducible refine heap_drew ?_) | (with_reducible refine heap_set_ne ?_ (by simp <;> omega) _)))
  have hBc_ : wu.heap[w.heap.size + 1 + 1]? = some (.cells #[.int .u64 c0, .int .u64 c1, .int .u64 c2, .int .u64 c3] 25 (0, 0)) := heap_keep' hb (by repeat (first | (with_reducible exact HBc.out) | (with_reducible exact set4 HBc.out _ _ _ _) | (with_reducible apply set4) | (with_reducible refine heap_new' ?_ _; simp; done) | (with_reducible refine keep4 ?_ (by omega) _ _ _ _) | (with_reducible refine heap_old ?_ _) | (with_reducible refine heap_drew ?_) | (with_reducible refine heap_set_ne ?_ (by simp <;> omega) _)))
  clear hb HB HBa cBa fBa zBa HBb cBb fBb zBb HBc cBc fBc zBc
  have HB := HBn; clear HBn
  have HBa := Lib.hid hBa_; have cBa := cells4 hBa_; have fBa := frozen_of hBa_; have zBa := lt_of_heap hBa_; clear hBa_
  have HBb := Lib.hid hBb_; have cBb := cells4 hBb_; have fBb := frozen_of hBb_; have zBb := lt_of_heap hBb_; clear hBb_
  have HBc := Lib.hid hBc_; have cBc := cells4 hBc_; have fBc := frozen_of hBc_; have zBc := lt_of_heap hBc_; clear hBc_
  go_wp2_with (fail)
  go_at_call 16
  refine (I5.out _ _ HP7.out).mono ?_
  rintro e wv ⟨rfl, hb⟩
  have HBn : Hid (Below w.heap.size w wv) := Lib.hid ((fun (h : Below _ _ _) => below_call h h.size hb) (by have hB0 := HB.out; have hS0 := hB0.size; first | (with_reducible exact hB0) | (with_reducible exact set4_below hB0 (by omega) _ _ _ _) | (with_reducible exact set4_below (set4_below hB0 (by omega) _ _ _ _) (by omega) _ _ _ _) | (with_reducible exact set4_below (set4_below (set4_below (set4_below hB0 (by omega) _ _ _ _) (by omega) _ _ _ _) (by omega) _ _ _ _) (by omega) _ _ _ _) | go_grown))
  have hBa_ : wv.heap[w.heap.size]? = some (.cells #[.int .u64 a0, .int .u64 a1, .int .u64 a2, .int .u64 a3] 25 (0, 0)) := heap_keep' hb (by repeat (first | (with_reducible exact HBa.out) | (with_reducible exact set4 HBa.out _ _ _ _) | (with_reducible apply set4) | (with_reducible refine heap_new' ?_ _; simp; done) | (with_reducible refine keep4 ?_ (by omega) _ _ _ _) | (with_reducible refine heap_old ?_ _) | (with_reducible refine heap_drew ?_) | (with_reducible refine heap_set_ne ?_ (by simp <;> omega) _)))
  have hBb_ : wv.heap[w.heap.size + 1]? = some (.cells #[.int .u64 b0, .int .u64 b1, .int .u64 b2, .int .u64 b3] 25 (0, 0)) := heap_keep' hb (by repeat (first | (with_reducible exact HBb.out) | (with_reducible exact set4 HBb.out _ _ _ _) | (with_reducible apply set4) | (with_reducible refine heap_new' ?_ _; simp; done) | (with_reducible refine keep4 ?_ (by omega) _ _ _ _) | (with_reducible refine heap_old ?_ _) | (with_reducible refine heap_drew ?_) | (with_reducible refine heap_set_ne ?_ (by simp <;> omega) _)))
  have hBc_ : wv.heap[w.heap.size + 1 + 1]? = some (.cells #[.int .u64 c0, .int .u64 c1, .int .u64 c2, .int .u64 c3] 25 (0, 0)) := heap_keep' hb (by repeat (first | (with_reducible exact HBc.out) | (with_reducible exact set4 HBc.out _ _ _ _) | (with_reducible apply set4) | (with_reducible refine heap_new' ?_ _; simp; done) | (with_reducible refine keep4 ?_ (by omega) _ _ _ _) | (with_reducible refine heap_old ?_ _) | (with_reducible refine heap_drew ?_) | (with_reducible refine heap_set_ne ?_ (by simp <;> omega) _)))
  clear hb HB HBa cBa fBa zBa HBb cBb fBb zBb HBc cBc fBc zBc
  have HB := HBn; clear HBn
  have HBa := Lib.hid hBa_; have cBa := cells4 hBa_; have fBa := frozen_of hBa_; have zBa := lt_of_heap hBa_; clear hBa_
  have HBb := Lib.hid hBb_; have cBb := cells4 hBb_; have fBb := frozen_of hBb_; have zBb := lt_of_heap hBb_; clear hBb_
  have HBc := Lib.hid hBc_; have cBc := cells4 hBc_; have fBc := frozen_of hBc_; have zBc := lt_of_heap hBc_; clear hBc_
  go_wp2
  go_ret
  refine ⟨rfl, ?_⟩
  have hB0 := HB.out; have hS0 := hB0.size; first | exact hB0 | go_grown

theorem adds_fact (a0 a1 a2 a3 b0 b1 b2 b3 c0 c1 c2 c3 : Nat) (ha : W4 a0 a1 a2 a3) (hb : W4 b0 b1 b2 b3) (hc : W4 c0 c1 c2 c3) (w : World) : Calls Try.prog 6 #[.agg #[.int .u64 a0, .int .u64 a1, .int .u64 a2, .int .u64 a3], .agg #[.int .u64 b0, .int .u64 b1, .int .u64 b2, .int .u64 b3], .agg #[.int .u64 c0, .int .u64 c1, .int .u64 c2, .int .u64 c3]] w fun e w' => e = .returned (.bool true) ∧ Below w.heap.size w w' := by
  have b40_num : ∀ {q0 q1 q2 q3 : Nat}, W4 q0 q1 q2 q3 → V q0 q1 q2 q3 < b40 := fun h => Nat.lt_of_lt_of_le (Pl.V_lt h) (by unfold b40; decide +kernel)
  have hx := Nat.mod_lt (V a0 a1 a2 a3) pP_pos
  have hy := Nat.mod_lt (V b0 b1 b2 b3) pP_pos
  have hz := Nat.mod_lt (V c0 c1 c2 c3) pP_pos
  have hxy := Nat.mod_lt (V a0 a1 a2 a3 % pP + V b0 b1 b2 b3 % pP) pP_pos
  have hmy := Nat.mod_lt (V a0 a1 a2 a3 % pP * (V b0 b1 b2 b3 % pP)) pP_pos
  obtain ⟨s0, s1, s2, s3, ⟨hs, hsv⟩, FS⟩ := Add3_fact a0 a1 a2 a3 b0 b1 b2 b3 c0 c1 c2 c3 ha hb hc
  obtain ⟨t0, t1, t2, t3, ⟨ht, htv⟩, FT⟩ := Mul3_fact a0 a1 a2 a3 b0 b1 b2 b3 c0 c1 c2 c3 ha hb hc
  obtain ⟨u0, u1, u2, u3, ⟨hu, huv⟩, FU⟩ := Sub_fact a0 a1 a2 a3 b0 b1 b2 b3 ha hb
  obtain ⟨z0, z1, z2, z3, ⟨hzz, hzv⟩, FZ0⟩ := Add0_fact
  obtain ⟨q, hq, FZ⟩ := zero_fact z0 z1 z2 z3
  obtain rfl : q = true := hq.2 hzv
  obtain ⟨m0, m1, m2, m3, ⟨hm, hmv⟩, FM0⟩ := Mul0_fact
  obtain ⟨p0, p1, p2, p3, ⟨hp, hpv⟩, FP⟩ := prime_fact
  have E1 : eqL [(m0 : Int), m1, m2, m3] [1, 0, 0, 0] = true := (eqL_V hm (W4_one (by omega) : W4 1 0 0 0)).2 (by rw [hmv, V_one])
  have I4 := is_true p0 p1 p2 p3 hp pP hpv
  rw [← primeL_dg] at I4
  have I5 := is_fact 6346243789798364141 1503914060200516822 0 1152921504606846976 (by unfold Pl.W4; omega) orderD orderD_ok (by decide)
  rw [orderD_v, decide_eq_true (show ((V 6346243789798364141 1503914060200516822 0 1152921504606846976 : Nat) : Int) = (Pl.pL : Int) from by decide +kernel)] at I5
  exact ad_walk a0 a1 a2 a3 b0 b1 b2 b3 c0 c1 c2 c3 s0 s1 s2 s3 t0 t1 t2 t3 u0 u1 u2 u3 m0 m1 m2 m3 p0 p1 p2 p3 z0 z1 z2 z3 _ _ _ _ _ _ _ _ _ _ _ w awake_fact (Ref_fact a0 a1 a2 a3 ha) (Ref_fact b0 b1 b2 b3 hb) (Ref_fact c0 c1 c2 c3 hc)
    (Fold_fact _ (b40_num ha)) (Fold_fact _ (b40_num hb)) (Fold_fact _ (b40_num hc))
    (RAdd_fact _ _ hx hy) (RAdd_fact _ _ hxy hz) (RMul_fact _ _ hx hy) (RMul_fact _ _ hmy hz) (RSub_fact _ _ hx hy) FS FT FU
    (is_true s0 s1 s2 s3 hs _ (by rw [hsv]; simp only [Nat.mod_add_mod, Nat.add_mod_mod]))
    (is_true t0 t1 t2 t3 ht _ (by rw [htv]; simp only [Nat.mod_mul_mod, Nat.mul_mod_mod]))
    (is_true u0 u1 u2 u3 hu _ huv) I4 I5 FZ0 FZ FM0 FP E1

end Go.Proofs.Ytldnjbpcdojffaa
/- @@NUM 25 The walk of residue's Inverse: the number to the prime less two. Conditions: words are below 2^64. -/
namespace Go.Proofs.Ytldnjbpcdojffaa
set_option linter.unusedVariables false
set_option linter.unusedSimpArgs false
open Go Go.RowKit
open Pl (V V8 W4 T256 pP)

set_option maxHeartbeats 4000000 in
theorem inv_walk (a0 a1 a2 a3 p0 p1 p2 p3 m0 m1 m2 m3 r0 r1 r2 r3 c : Nat)
    (HP : Hid (∀ w : World, Calls Try.prog 24 #[] w fun e w' => e = .returned (.agg #[.int .u64 p0, .int .u64 p1, .int .u64 p2, .int .u64 p3]) ∧ Below w.heap.size w w'))
    (HM : Hid (∀ w : World, Calls Try.prog 45 #[.agg #[.int .u64 p0, .int .u64 p1, .int .u64 p2, .int .u64 p3], .agg #[.int .u64 2, .int .u64 0, .int .u64 0, .int .u64 0]] w fun e w' => e = .returned (.tuple #[.agg #[.int .u64 m0, .int .u64 m1, .int .u64 m2, .int .u64 m3], .int .u64 c]) ∧ Below w.heap.size w w'))
    (HF : Hid (∀ w : World, Calls Try.prog 34 #[.agg #[.int .u64 a0, .int .u64 a1, .int .u64 a2, .int .u64 a3], .agg #[.int .u64 m0, .int .u64 m1, .int .u64 m2, .int .u64 m3]] w fun e w' => e = .returned (.agg #[.int .u64 r0, .int .u64 r1, .int .u64 r2, .int .u64 r3]) ∧ Below w.heap.size w w')) (w : World) :
    Calls Try.prog 35 #[.agg #[.int .u64 a0, .int .u64 a1, .int .u64 a2, .int .u64 a3]] w fun e w' => e = .returned (.agg #[.int .u64 r0, .int .u64 r1, .int .u64 r2, .int .u64 r3]) ∧ Below w.heap.size w w' := by
  go_enter Try.func35, Try.ntmps35
  go_wp2_with (fail)
  go_at_call 24
  refine (HP.out _).mono ?_
  rintro e wa ⟨rfl, hb⟩
  have HBn : Hid (Below w.heap.size w wa) := Lib.hid ((fun (h : Below _ _ _) => below_call h h.size hb) (by first | go_grown))
  have hBa_ : wa.heap[w.heap.size]? = some (.cells #[.int .u64 a0, .int .u64 a1, .int .u64 a2, .int .u64 a3] 25 (0, 0)) := heap_keep' hb (by repeat (first | (with_reducible refine heap_new' ?_ _; simp; done) | (with_reducible refine keep4 ?_ (by omega) _ _ _ _) | (with_reducible refine heap_old ?_ _) | (with_reducible refine heap_drew ?_) | (with_reducible refine heap_set_ne ?_ (by simp <;> omega) _)))
  have hBr_ : wa.heap[w.heap.size + 1]? = some (.cells #[.int .u64 0, .int .u64 0, .int .u64 0, .int .u64 0] 25 (0, 0)) := heap_keep' hb (by repeat (first | (with_reducible refine heap_new' ?_ _; simp; done) | (with_reducible refine keep4 ?_ (by omega) _ _ _ _) | (with_reducible refine heap_old ?_ _) | (with_reducible refine heap_drew ?_) | (with_reducible refine heap_set_ne ?_ (by simp <;> omega) _)))
  clear hb
  have HB := HBn; clear HBn
  have HBa := Lib.hid hBa_; have cBa := cells4 hBa_; have fBa := frozen_of hBa_; have zBa := lt_of_heap hBa_; clear hBa_
  have HBr := Lib.hid hBr_; have cBr := cells4 hBr_; have fBr := frozen_of hBr_; have zBr := lt_of_heap hBr_; clear hBr_
  go_wp2_with (fail)
  go_at_call 45
  refine (HM.out _).mono ?_
  rintro e wb ⟨rfl, hb⟩
  have HBn : Hid (Below w.heap.size w wb) := Lib.hid ((fun (h : Below _ _ _) => below_call h h.size hb) (by have hB0 := HB.out; have hS0 := hB0.size; first | (with_reducible exact hB0) | (with_reducible exact set4_below hB0 (by omega) _ _ _ _) | (with_reducible exact set4_below (set4_below hB0 (by omega) _ _ _ _) (by omega) _ _ _ _) | (with_reducible exact set4_below (set4_below (set4_below (set4_below hB0 (by omega) _ _ _ _) (by omega) _ _ _ _) (by omega) _ _ _ _) (by omega) _ _ _ _) | go_grown))
  have hBa_ : wb.heap[w.heap.size]? = some (.cells #[.int .u64 a0, .int .u64 a1, .int .u64 a2, .int .u64 a3] 25 (0, 0)) := heap_keep' hb (by repeat (first | (with_reducible exact HBa.out) | (with_reducible exact set4 HBa.out _ _ _ _) | (with_reducible apply set4) | (with_reducible refine heap_new' ?_ _; simp; done) | (with_reducible refine keep4 ?_ (by omega) _ _ _ _) | (with_reducible refine heap_old ?_ _) | (with_reducible refine heap_drew ?_) | (with_reducible refine heap_set_ne ?_ (by simp <;> omega) _)))
  have hBr_ : wb.heap[w.heap.size + 1]? = some (.cells #[.int .u64 0, .int .u64 0, .int .u64 0, .int .u64 0] 25 (0, 0)) := heap_keep' hb (by repeat (first | (with_reducible exact HBr.out) | (with_reducible exact set4 HBr.out _ _ _ _) | (with_reducible apply set4) | (with_reducible refine heap_new' ?_ _; simp; done) | (with_reducible refine keep4 ?_ (by omega) _ _ _ _) | (with_reducible refine heap_old ?_ _) | (with_reducible refine heap_drew ?_) | (with_reducible refine heap_set_ne ?_ (by simp <;> omega) _)))
  clear hb HB HBa cBa fBa zBa HBr cBr fBr zBr
  have HB := HBn; clear HBn
  have HBa := Lib.hid hBa_; have cBa := cells4 hBa_; have fBa := frozen_of hBa_; have zBa := lt_of_heap hBa_; clear hBa_
  have HBr := Lib.hid hBr_; have cBr := cells4 hBr_; have fBr := frozen_of hBr_; have zBr := lt_of_heap hBr_; clear hBr_
  go_wp2_with (fail)
  go_at_call 34
  refine (HF.out _).mono ?_
  rintro e wc ⟨rfl, hb⟩
  have HBn : Hid (Below w.heap.size w wc) := Lib.hid ((fun (h : Below _ _ _) => below_call h h.size hb) (by have hB0 := HB.out; have hS0 := hB0.size; first | (with_reducible exact hB0) | (with_reducible exact set4_below hB0 (by omega) _ _ _ _) | (with_reducible exact set4_below (set4_below hB0 (by omega) _ _ _ _) (by omega) _ _ _ _) | (with_reducible exact set4_below (set4_below (set4_below (set4_below hB0 (by omega) _ _ _ _) (by omega) _ _ _ _) (by omega) _ _ _ _) (by omega) _ _ _ _) | go_grown))
  have hBa_ : wc.heap[w.heap.size]? = some (.cells #[.int .u64 a0, .int .u64 a1, .int .u64 a2, .int .u64 a3] 25 (0, 0)) := heap_keep' hb (by repeat (first | (with_reducible exact HBa.out) | (with_reducible exact set4 HBa.out _ _ _ _) | (with_reducible apply set4) | (with_reducible refine heap_new' ?_ _; simp; done) | (with_reducible refine keep4 ?_ (by omega) _ _ _ _) | (with_reducible refine heap_old ?_ _) | (with_reducible refine heap_drew ?_) | (with_reducible refine heap_set_ne ?_ (by simp <;> omega) _)))
  have hBr_ : wc.heap[w.heap.size + 1]? = some (.cells #[.int .u64 0, .int .u64 0, .int .u64 0, .int .u64 0] 25 (0, 0)) := heap_keep' hb (by repeat (first | (with_reducible exact HBr.out) | (with_reducible exact set4 HBr.out _ _ _ _) | (with_reducible apply set4) | (with_reducible refine heap_new' ?_ _; simp; done) | (with_reducible refine keep4 ?_ (by omega) _ _ _ _) | (with_reducible refine heap_old ?_ _) | (with_reducible refine heap_drew ?_) | (with_reducible refine heap_set_ne ?_ (by simp <;> omega) _)))
  have hBm_ : wc.heap[wb.heap.size]? = some (.cells #[.int .u64 m0, .int .u64 m1, .int .u64 m2, .int .u64 m3] 25 (0, 0)) := heap_keep' hb (by repeat (first | (with_reducible refine heap_new' ?_ _; simp; done) | (with_reducible refine keep4 ?_ (by omega) _ _ _ _) | (with_reducible refine heap_old ?_ _) | (with_reducible refine heap_drew ?_) | (with_reducible refine heap_set_ne ?_ (by simp <;> omega) _)))
  clear hb HB HBa cBa fBa zBa HBr cBr fBr zBr
  have HB := HBn; clear HBn
  have HBa := Lib.hid hBa_; have cBa := cells4 hBa_; have fBa := frozen_of hBa_; have zBa := lt_of_heap hBa_; clear hBa_
  have HBr := Lib.hid hBr_; have cBr := cells4 hBr_; have fBr := frozen_of hBr_; have zBr := lt_of_heap hBr_; clear hBr_
  have HBm := Lib.hid hBm_; have cBm := cells4 hBm_; have fBm := frozen_of hBm_; have zBm := lt_of_heap hBm_; clear hBm_
  have hQ := cells4 (set4 HBr.out (.int .u64 r0) (.int .u64 r1) (.int .u64 r2) (.int .u64 r3))
  have hB0 := HB.out
  have hS0 := hB0.size
  go_wp2
  refine bodyPost_ret (v := .agg #[.int .u64 r0, .int .u64 r1, .int .u64 r2, .int .u64 r3]) (by simp [results, Try.results35, go_sem, hQ]) rfl ⟨rfl, ?_⟩
  first | (with_reducible exact set4_below hB0 (by omega) _ _ _ _) | go_grown

theorem Inverse_fact (a0 a1 a2 a3 : Nat) (ha : W4 a0 a1 a2 a3) : ∃ r0 r1 r2 r3 : Nat, (W4 r0 r1 r2 r3 ∧ V r0 r1 r2 r3 = V a0 a1 a2 a3 ^ (pP - 2) % pP) ∧ ∀ w : World, Calls Try.prog 35 #[.agg #[.int .u64 a0, .int .u64 a1, .int .u64 a2, .int .u64 a3]] w fun e w' => e = .returned (.agg #[.int .u64 r0, .int .u64 r1, .int .u64 r2, .int .u64 r3]) ∧ Below w.heap.size w w' := by
  obtain ⟨p0, p1, p2, p3, hpp, FP⟩ := prime_fact
  obtain ⟨m0, m1, m2, m3, c, ⟨hm, hc, hmv⟩, FM⟩ := minus_fact p0 p1 p2 p3 2 0 0 0 hpp.1 (W4_one (by omega))
  obtain ⟨r0, r1, r2, r3, ⟨hr, hrv⟩, FF⟩ := Power_fact a0 a1 a2 a3 m0 m1 m2 m3 ha hm
  have hmm : V m0 m1 m2 m3 = pP - 2 := by
    have h2 := Pl.V_lt hm
    rw [hpp.2, V_one] at hmv
    have h3 : pP < T256 := by decide +kernel
    have h4 : 2 < pP := by decide +kernel
    rcases (show c = 0 ∨ c = 1 by omega) with rfl | rfl <;> omega
  exact ⟨r0, r1, r2, r3, ⟨hr, by rw [hrv, hmm]⟩, inv_walk a0 a1 a2 a3 p0 p1 p2 p3 m0 m1 m2 m3 r0 r1 r2 r3 c FP FM FF⟩

end Go.Proofs.Ytldnjbpcdojffaa
