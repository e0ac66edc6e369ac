/- @@NUM 25 The walk of residue's Root. Conditions: words are below 2^64. -/
import Derived.Test.YtldnjbpcdojffaaR13
import Derived.Test.YtldnjbpcdojffaaRoot
namespace Go.Proofs.Ytldnjbpcdojffaa
set_option linter.unusedVariables false
set_option linter.unusedSimpArgs false
open Go Go.RowKit
open Pl (V V8 W4 T256 pP)
attribute [local go_sem ↓] eql_num neq_num

theorem bit0_even {n : Nat} (h : n < 18446744073709551616) (e : n % 2 = 0) : bits .and .u64 (n : Int) 1 = 0 := by
  rw [and_one_u64 _ (by omega) (by omega)]; omega
theorem bit0_odd {n : Nat} (h : n < 18446744073709551616) (e : n % 2 = 1) : bits .and .u64 (n : Int) 1 = 1 := by
  rw [and_one_u64 _ (by omega) (by omega)]; omega
theorem V_par (a0 a1 a2 a3 : Nat) : V a0 a1 a2 a3 % 2 = a0 % 2 := by unfold V; omega

/-- What Root answers. -/
def Rooted (r0 r1 r2 r3 : Nat) (z : Bool) (A : Nat) : Prop := W4 r0 r1 r2 r3 ∧ (z = true → V r0 r1 r2 r3 < pP ∧ V r0 r1 r2 r3 % 2 = 0 ∧ V r0 r1 r2 r3 * V r0 r1 r2 r3 % pP = A) ∧ (z = false → V r0 r1 r2 r3 = 0 ∧ ∀ x : Nat, x * x % pP ≠ A)

theorem E8_W : W4 18446744073709551614 18446744073709551615 18446744073709551615 1152921504606846975 := by unfold W4; omega
theorem E8_V : V 18446744073709551614 18446744073709551615 18446744073709551615 1152921504606846975 = Pl.e8 := by decide +kernel
theorem Q4_W : W4 18446744073709551611 18446744073709551615 18446744073709551615 2305843009213693951 := by unfold W4; omega
theorem Q4_V : V 18446744073709551611 18446744073709551615 18446744073709551615 2305843009213693951 = Pl.q4 := by decide +kernel

set_option maxHeartbeats 4000000 in
theorem root_A0 (a0 a1 a2 a3 s0 s1 s2 s3 t0 t1 t2 t3 m0 m1 m2 m3 : Nat) (FS : Hid (∀ w : World, Calls Try.prog 47 #[.agg #[.int .u64 a0, .int .u64 a1, .int .u64 a2, .int .u64 a3]] w fun e w' => e = .returned (.agg #[.int .u64 s0, .int .u64 s1, .int .u64 s2, .int .u64 s3]) ∧ Below w.heap.size w w')) (FP : Hid (∀ w : World, Calls Try.prog 34 #[.agg #[.int .u64 s0, .int .u64 s1, .int .u64 s2, .int .u64 s3], .agg #[.int .u64 18446744073709551614, .int .u64 18446744073709551615, .int .u64 18446744073709551615, .int .u64 1152921504606846975]] w fun e w' => e = .returned (.agg #[.int .u64 t0, .int .u64 t1, .int .u64 t2, .int .u64 t3]) ∧ Below w.heap.size w w')) (FM : Hid (∀ w : World, Calls Try.prog 48 #[.agg #[.int .u64 t0, .int .u64 t1, .int .u64 t2, .int .u64 t3], .agg #[.int .u64 t0, .int .u64 t1, .int .u64 t2, .int .u64 t3]] w fun e w' => e = .returned (.agg #[.int .u64 m0, .int .u64 m1, .int .u64 m2, .int .u64 m3]) ∧ Below w.heap.size w w')) (E1 : eqL [(m0 : Int), m1, m2, m3] [(s0 : Int), s1, s2, s3] = true) (EB : bits .and .u64 (t0 : Int) 1 = 0) (w : World) : Calls Try.prog 36 #[.agg #[.int .u64 a0, .int .u64 a1, .int .u64 a2, .int .u64 a3]] w fun e w' => e = .returned (.tuple #[.agg #[.int .u64 t0, .int .u64 t1, .int .u64 t2, .int .u64 t3], .bool true]) ∧ Below w.heap.size w w' := by
  go_enter Try.func36, Try.ntmps36
  go_wp2_with (fail)
  go_at_call 47
  refine (FS.out _).mono ?_
  rintro e wa ⟨rfl, hb⟩
  have HBn : Hid (Below w.heap.size w wa) := Lib.hid (below_call (by first | go_grown) (by first | (simp; omega) | simp | omega) hb)
  have hBa_ : wa.heap[w.heap.size]? = some (.cells #[.int .u64 a0, .int .u64 a1, .int .u64 a2, .int .u64 a3] 25 (0, 0)) := heap_keep' hb (by repeat (first | (with_reducible refine heap_new' ?_ _; simp; done) | (with_reducible refine keep4 ?_ (by omega) _ _ _ _) | (with_reducible refine heap_old ?_ _) | (with_reducible refine heap_drew ?_) | (with_reducible refine heap_set_ne ?_ (by simp <;> omega) _)))
  have hBr_ : wa.heap[w.heap.size + 1]? = some (.cells #[.int .u64 0, .int .u64 0, .int .u64 0, .int .u64 0] 25 (0, 0)) := heap_keep' hb (by repeat (first | (with_reducible refine heap_new' ?_ _; simp; done) | (with_reducible refine keep4 ?_ (by omega) _ _ _ _) | (with_reducible refine heap_old ?_ _) | (with_reducible refine heap_drew ?_) | (with_reducible refine heap_set_ne ?_ (by simp <;> omega) _)))
  clear hb
  have HB := HBn; clear HBn
  have HBa := Lib.hid hBa_; have cBa := cells4 hBa_; have fBa := frozen_of hBa_; have zBa := lt_of_heap hBa_; clear hBa_
  have HBr := Lib.hid hBr_; have cBr := cells4 hBr_; have fBr := frozen_of hBr_; have zBr := lt_of_heap hBr_; clear hBr_
  go_wp2_with (fail)
  go_at_call 34
  refine (FP.out _).mono ?_
  rintro e wb ⟨rfl, hb⟩
  have HBn : Hid (Below w.heap.size w wb) := Lib.hid (below_call (by have hB0 := HB.out; have hS0 := hB0.size; first | exact hB0 | exact set4_below hB0 (by omega) _ _ _ _ | go_grown) (by have hB0 := HB.out; have hS0 := hB0.size; first | exact hS0 | (rw [size4]; exact hS0) | (simp; omega) | simp | omega) hb)
  have hBa_ : wb.heap[w.heap.size]? = some (.cells #[.int .u64 s0, .int .u64 s1, .int .u64 s2, .int .u64 s3] 25 (0, 0)) := heap_keep' hb (by repeat (first | (with_reducible exact HBa.out) | (with_reducible exact set4 HBa.out _ _ _ _) | (with_reducible refine heap_new' ?_ _; simp; done) | (with_reducible refine keep4 ?_ (by omega) _ _ _ _) | (with_reducible refine heap_old ?_ _) | (with_reducible refine heap_drew ?_) | (with_reducible refine heap_set_ne ?_ (by simp <;> omega) _)))
  have hBr_ : wb.heap[w.heap.size + 1]? = some (.cells #[.int .u64 0, .int .u64 0, .int .u64 0, .int .u64 0] 25 (0, 0)) := heap_keep' hb (by repeat (first | (with_reducible exact HBr.out) | (with_reducible exact set4 HBr.out _ _ _ _) | (with_reducible refine heap_new' ?_ _; simp; done) | (with_reducible refine keep4 ?_ (by omega) _ _ _ _) | (with_reducible refine heap_old ?_ _) | (with_reducible refine heap_drew ?_) | (with_reducible refine heap_set_ne ?_ (by simp <;> omega) _)))
  have hBe_ : wb.heap[wa.heap.size]? = some (.cells #[.int .u64 18446744073709551614, .int .u64 18446744073709551615, .int .u64 18446744073709551615, .int .u64 1152921504606846975] 25 (0, 0)) := heap_keep' hb (by repeat (first | (with_reducible refine heap_new' ?_ _; simp; done) | (with_reducible refine keep4 ?_ (by omega) _ _ _ _) | (with_reducible refine heap_old ?_ _) | (with_reducible refine heap_drew ?_) | (with_reducible refine heap_set_ne ?_ (by simp <;> omega) _)))
  clear hb HB HBa cBa fBa zBa HBr cBr fBr zBr
  have HB := HBn; clear HBn
  have HBa := Lib.hid hBa_; have cBa := cells4 hBa_; have fBa := frozen_of hBa_; have zBa := lt_of_heap hBa_; clear hBa_
  have HBr := Lib.hid hBr_; have cBr := cells4 hBr_; have fBr := frozen_of hBr_; have zBr := lt_of_heap hBr_; clear hBr_
  have HBe := Lib.hid hBe_; have cBe := cells4 hBe_; have fBe := frozen_of hBe_; have zBe := lt_of_heap hBe_; clear hBe_
  have q1 := zBr; have q2 := zBe
  go_wp2
  refine Rg.region_ (n := 38) [0, 0, 3, 0, 15] [1, 1, 1, 1, 0] [13, 14, 15, 16, 17] [[(5, none)], [(5, none)], [(13, some 0), (14, some 1)], [(1, none)], [(15, some 2), (16, some 3)]] 5 (by kernel_rfl) (by kernel_rfl) (by rfl) ?_
  intro W hW
  have hBa_ : W.heap[w.heap.size]? = some (.cells #[.int .u64 s0, .int .u64 s1, .int .u64 s2, .int .u64 s3] 25 (0, 0)) := by rw [hW]; exact (by repeat (first | (with_reducible exact HBa.out) | (with_reducible exact set4 HBa.out _ _ _ _) | (with_reducible refine heap_new' ?_ _; simp; done) | (with_reducible refine keep4 ?_ (by omega) _ _ _ _) | (with_reducible refine heap_old ?_ _) | (with_reducible refine heap_drew ?_) | (with_reducible refine heap_set_ne ?_ (by simp <;> omega) _)))
  have hBr_ : W.heap[w.heap.size + 1]? = some (.cells #[.int .u64 0, .int .u64 0, .int .u64 0, .int .u64 0] 25 (0, 0)) := by rw [hW]; exact (by repeat (first | (with_reducible exact HBr.out) | (with_reducible exact set4 HBr.out _ _ _ _) | (with_reducible refine heap_new' ?_ _; simp; done) | (with_reducible refine keep4 ?_ (by omega) _ _ _ _) | (with_reducible refine heap_old ?_ _) | (with_reducible refine heap_drew ?_) | (with_reducible refine heap_set_ne ?_ (by simp <;> omega) _)))
  have hBe_ : W.heap[wa.heap.size]? = some (.cells #[.int .u64 18446744073709551614, .int .u64 18446744073709551615, .int .u64 18446744073709551615, .int .u64 1152921504606846975] 25 (0, 0)) := by rw [hW]; exact (by repeat (first | (with_reducible exact HBe.out) | (with_reducible exact set4 HBe.out _ _ _ _) | (with_reducible refine heap_new' ?_ _; simp; done) | (with_reducible refine keep4 ?_ (by omega) _ _ _ _) | (with_reducible refine heap_old ?_ _) | (with_reducible refine heap_drew ?_) | (with_reducible refine heap_set_ne ?_ (by simp <;> omega) _)))
  have hBo_ : W.heap[wb.heap.size]? = some (.cells #[.int .u64 t0, .int .u64 t1, .int .u64 t2, .int .u64 t3] 25 (0, 0)) := by rw [hW]; exact (by repeat (first | (with_reducible refine heap_new' ?_ _; simp; done) | (with_reducible refine keep4 ?_ (by omega) _ _ _ _) | (with_reducible refine heap_old ?_ _) | (with_reducible refine heap_drew ?_) | (with_reducible refine heap_set_ne ?_ (by simp <;> omega) _)))
  have HB0 : Below w.heap.size w W := by rw [hW]; have hB0 := HB.out; have hS0 := hB0.size; first | exact hB0.drew | exact (set4_below hB0 (by omega) _ _ _ _).drew | go_grown
  change Rg.Chain' _ _ _ _ _ [(0, 1, 13, [(5, none)]), (1, 1, 14, [(5, none)]), (2, 1, 15, [(13, some 0), (14, some 1)]), (3, 1, 16, [(1, none)]), (4, 0, 17, [(15, some 2), (16, some 3)])] [(0, 1, 13, [(5, none)]), (1, 1, 14, [(5, none)]), (2, 1, 15, [(13, some 0), (14, some 1)]), (3, 1, 16, [(1, none)]), (4, 0, 17, [(15, some 2), (16, some 3)])] _
  apply Rg.ch_def (by rfl) (fun a w1 _ => Rg.wanted_none (by rfl))
  · rintro a w1 hb ⟨e5, -⟩
    conv at e5 => rhs; whnf
    have n5 := e5
    simp only [Act.eval, Array.getD_eq_getD_getElem?] at n5
    apply Rg.gives_value
    · conv => lhs; simp [go_sem, n5, cells4 (heap_keep' hb hBa_), cells4 (heap_keep' hb hBr_), cells4 (heap_keep' hb hBe_), cells4 (heap_keep' hb hBo_)]
    · exact ⟨rfl, Below.refl _ _⟩
  apply Rg.ch_def (by rfl) (fun a w1 _ => Rg.wanted_none (by rfl))
  · rintro a w1 hb ⟨e5, -⟩
    conv at e5 => rhs; whnf
    have n5 := e5
    simp only [Act.eval, Array.getD_eq_getD_getElem?] at n5
    apply Rg.gives_value
    · conv => lhs; simp [go_sem, n5, cells4 (heap_keep' hb hBa_), cells4 (heap_keep' hb hBr_), cells4 (heap_keep' hb hBe_), cells4 (heap_keep' hb hBo_)]
    · exact ⟨rfl, Below.refl _ _⟩
  apply Rg.ch_def (by rfl) (fun a w1 _ => Rg.wanted_none (by rfl))
  · rintro a w1 hb ⟨e13, e14, -⟩
    replace e13 : a.eval (.tmp 13) = _ := e13
    replace e14 : a.eval (.tmp 14) = _ := e14
    apply Rg.gives_enter
    · apply run_call Try.func48 (by kernel_rfl) rfl _ (by rfl)
      conv => lhs; simp only [List.map_toArray, List.map_cons, List.map_nil, eval_const_, eval_global_, e13, e14]
    · refine (FM.out _).mono ?_
      rintro e w2 ⟨rfl, hb2⟩
      exact ⟨_, rfl, rfl, hb2⟩
  apply Rg.ch_def (by rfl) (fun a w1 _ => Rg.wanted_none (by rfl))
  · rintro a w1 hb ⟨e1, -⟩
    conv at e1 => rhs; whnf
    have n1 := e1
    simp only [Act.eval, Array.getD_eq_getD_getElem?] at n1
    apply Rg.gives_value
    · conv => lhs; simp [go_sem, n1, cells4 (heap_keep' hb hBa_), cells4 (heap_keep' hb hBr_), cells4 (heap_keep' hb hBe_), cells4 (heap_keep' hb hBo_)]
    · exact ⟨rfl, Below.refl _ _⟩
  apply Rg.ch_pure (by rfl)
  · rintro a w1 ⟨e15, e16, -⟩
    replace e15 : a.eval (.tmp 15) = _ := e15
    have n15 := e15
    simp only [Act.eval, Array.getD_eq_getD_getElem?] at n15
    replace e16 : a.eval (.tmp 16) = _ := e16
    have n16 := e16
    simp only [Act.eval, Array.getD_eq_getD_getElem?] at n16
    apply Rg.yields_run (Rg.wanted_none (by rfl))
    intro w2
    conv => lhs; simp [go_sem, n15, n16, E1]
  intro w1 hb1
  rintro _ rfl _ rfl _ rfl _ rfl _ rfl
  change Go.wpList _ _ _ _ _ _
  simp only [List.drop_succ_cons, List.drop_zero, List.drop_nil, Act.put, List.setIfInBounds_toArray, List.set_cons_succ, List.set_cons_zero]
  change Go.NoPanic _ _ _ _
  refine NoPanic.normal ?_
  have HBn : Hid (Below w.heap.size w w1) := Lib.hid (below_call HB0 HB0.size hb1)
  have hBa__ := heap_keep' hb1 hBa_
  have hBr__ := heap_keep' hb1 hBr_
  have hBe__ := heap_keep' hb1 hBe_
  have hBo__ := heap_keep' hb1 hBo_
  clear hb1 HB0 HB hBa_ HBa cBa fBa zBa hBr_ HBr cBr fBr zBr hBe_ HBe cBe fBe zBe hBo_
  clear hW
  obtain ⟨wc, rfl⟩ : ∃ x : World, x = w1 := ⟨_, rfl⟩
  have HB := HBn; clear HBn
  have HBa := Lib.hid hBa__; have cBa := cells4 hBa__; have fBa := frozen_of hBa__; have zBa := lt_of_heap hBa__; clear hBa__
  have HBr := Lib.hid hBr__; have cBr := cells4 hBr__; have fBr := frozen_of hBr__; have zBr := lt_of_heap hBr__; clear hBr__
  have HBe := Lib.hid hBe__; have cBe := cells4 hBe__; have fBe := frozen_of hBe__; have zBe := lt_of_heap hBe__; clear hBe__
  have HBo := Lib.hid hBo__; have cBo := cells4 hBo__; have fBo := frozen_of hBo__; have zBo := lt_of_heap hBo__; clear hBo__
  go_wp2
  refine Rg.region_ (n := 38) [0, 0, 3, 0, 15] [1, 1, 1, 1, 0] [24, 25, 26, 27, 28] [[(5, none)], [(5, none)], [(24, some 0), (25, some 1)], [(1, none)], [(26, some 2), (27, some 3)]] 5 (by kernel_rfl) (by kernel_rfl) (by rfl) ?_
  intro W hW
  have hBa_ : W.heap[w.heap.size]? = some (.cells #[.int .u64 s0, .int .u64 s1, .int .u64 s2, .int .u64 s3] 25 (0, 0)) := by rw [hW]; exact (by repeat (first | (with_reducible exact HBa.out) | (with_reducible exact set4 HBa.out _ _ _ _) | (with_reducible refine heap_new' ?_ _; simp; done) | (with_reducible refine keep4 ?_ (by omega) _ _ _ _) | (with_reducible refine heap_old ?_ _) | (with_reducible refine heap_drew ?_) | (with_reducible refine heap_set_ne ?_ (by simp <;> omega) _)))
  have hBr_ : W.heap[w.heap.size + 1]? = some (.cells #[.int .u64 0, .int .u64 0, .int .u64 0, .int .u64 0] 25 (0, 0)) := by rw [hW]; exact (by repeat (first | (with_reducible exact HBr.out) | (with_reducible exact set4 HBr.out _ _ _ _) | (with_reducible refine heap_new' ?_ _; simp; done) | (with_reducible refine keep4 ?_ (by omega) _ _ _ _) | (with_reducible refine heap_old ?_ _) | (with_reducible refine heap_drew ?_) | (with_reducible refine heap_set_ne ?_ (by simp <;> omega) _)))
  have hBe_ : W.heap[wa.heap.size]? = some (.cells #[.int .u64 18446744073709551614, .int .u64 18446744073709551615, .int .u64 18446744073709551615, .int .u64 1152921504606846975] 25 (0, 0)) := by rw [hW]; exact (by repeat (first | (with_reducible exact HBe.out) | (with_reducible exact set4 HBe.out _ _ _ _) | (with_reducible refine heap_new' ?_ _; simp; done) | (with_reducible refine keep4 ?_ (by omega) _ _ _ _) | (with_reducible refine heap_old ?_ _) | (with_reducible refine heap_drew ?_) | (with_reducible refine heap_set_ne ?_ (by simp <;> omega) _)))
  have hBo_ : W.heap[wb.heap.size]? = some (.cells #[.int .u64 t0, .int .u64 t1, .int .u64 t2, .int .u64 t3] 25 (0, 0)) := by rw [hW]; exact (by repeat (first | (with_reducible exact HBo.out) | (with_reducible exact set4 HBo.out _ _ _ _) | (with_reducible refine heap_new' ?_ _; simp; done) | (with_reducible refine keep4 ?_ (by omega) _ _ _ _) | (with_reducible refine heap_old ?_ _) | (with_reducible refine heap_drew ?_) | (with_reducible refine heap_set_ne ?_ (by simp <;> omega) _)))
  have HB0 : Below w.heap.size w W := by rw [hW]; have hB0 := HB.out; have hS0 := hB0.size; first | exact hB0.drew | exact (set4_below hB0 (by omega) _ _ _ _).drew | go_grown
  change Rg.Chain' _ _ _ _ _ [(0, 1, 24, [(5, none)]), (1, 1, 25, [(5, none)]), (2, 1, 26, [(24, some 0), (25, some 1)]), (3, 1, 27, [(1, none)]), (4, 0, 28, [(26, some 2), (27, some 3)])] [(0, 1, 24, [(5, none)]), (1, 1, 25, [(5, none)]), (2, 1, 26, [(24, some 0), (25, some 1)]), (3, 1, 27, [(1, none)]), (4, 0, 28, [(26, some 2), (27, some 3)])] _
  apply Rg.ch_def (by rfl) (fun a w1 _ => Rg.wanted_none (by rfl))
  · rintro a w1 hb ⟨e5, -⟩
    conv at e5 => rhs; whnf
    have n5 := e5
    simp only [Act.eval, Array.getD_eq_getD_getElem?] at n5
    apply Rg.gives_value
    · conv => lhs; simp [go_sem, n5, cells4 (heap_keep' hb hBa_), cells4 (heap_keep' hb hBr_), cells4 (heap_keep' hb hBe_), cells4 (heap_keep' hb hBo_)]
    · exact ⟨rfl, Below.refl _ _⟩
  apply Rg.ch_def (by rfl) (fun a w1 _ => Rg.wanted_none (by rfl))
  · rintro a w1 hb ⟨e5, -⟩
    conv at e5 => rhs; whnf
    have n5 := e5
    simp only [Act.eval, Array.getD_eq_getD_getElem?] at n5
    apply Rg.gives_value
    · conv => lhs; simp [go_sem, n5, cells4 (heap_keep' hb hBa_), cells4 (heap_keep' hb hBr_), cells4 (heap_keep' hb hBe_), cells4 (heap_keep' hb hBo_)]
    · exact ⟨rfl, Below.refl _ _⟩
  apply Rg.ch_def (by rfl) (fun a w1 _ => Rg.wanted_none (by rfl))
  · rintro a w1 hb ⟨e24, e25, -⟩
    replace e24 : a.eval (.tmp 24) = _ := e24
    replace e25 : a.eval (.tmp 25) = _ := e25
    apply Rg.gives_enter
    · apply run_call Try.func48 (by kernel_rfl) rfl _ (by rfl)
      conv => lhs; simp only [List.map_toArray, List.map_cons, List.map_nil, eval_const_, eval_global_, e24, e25]
    · refine (FM.out _).mono ?_
      rintro e w2 ⟨rfl, hb2⟩
      exact ⟨_, rfl, rfl, hb2⟩
  apply Rg.ch_def (by rfl) (fun a w1 _ => Rg.wanted_none (by rfl))
  · rintro a w1 hb ⟨e1, -⟩
    conv at e1 => rhs; whnf
    have n1 := e1
    simp only [Act.eval, Array.getD_eq_getD_getElem?] at n1
    apply Rg.gives_value
    · conv => lhs; simp [go_sem, n1, cells4 (heap_keep' hb hBa_), cells4 (heap_keep' hb hBr_), cells4 (heap_keep' hb hBe_), cells4 (heap_keep' hb hBo_)]
    · exact ⟨rfl, Below.refl _ _⟩
  apply Rg.ch_pure (by rfl)
  · rintro a w1 ⟨e26, e27, -⟩
    replace e26 : a.eval (.tmp 26) = _ := e26
    have n26 := e26
    simp only [Act.eval, Array.getD_eq_getD_getElem?] at n26
    replace e27 : a.eval (.tmp 27) = _ := e27
    have n27 := e27
    simp only [Act.eval, Array.getD_eq_getD_getElem?] at n27
    apply Rg.yields_run (Rg.wanted_none (by rfl))
    intro w2
    conv => lhs; simp [go_sem, n26, n27, E1]
  intro w1 hb1
  rintro _ rfl _ rfl _ rfl _ rfl _ rfl
  change Go.wpList _ _ _ _ _ _
  simp only [List.drop_succ_cons, List.drop_zero, List.drop_nil, Act.put, List.setIfInBounds_toArray, List.set_cons_succ, List.set_cons_zero]
  change Go.NoPanic _ _ _ _
  refine NoPanic.normal ?_
  have HBn : Hid (Below w.heap.size w w1) := Lib.hid (below_call HB0 HB0.size hb1)
  have hBa__ := heap_keep' hb1 hBa_
  have hBr__ := heap_keep' hb1 hBr_
  have hBe__ := heap_keep' hb1 hBe_
  have hBo__ := heap_keep' hb1 hBo_
  clear hb1 HB0 HB hBa_ HBa cBa fBa zBa hBr_ HBr cBr fBr zBr hBe_ HBe cBe fBe zBe hBo_ HBo cBo fBo zBo
  clear hW
  obtain ⟨wd, rfl⟩ : ∃ x : World, x = w1 := ⟨_, rfl⟩
  have HB := HBn; clear HBn
  have HBa := Lib.hid hBa__; have cBa := cells4 hBa__; have fBa := frozen_of hBa__; have zBa := lt_of_heap hBa__; clear hBa__
  have HBr := Lib.hid hBr__; have cBr := cells4 hBr__; have fBr := frozen_of hBr__; have zBr := lt_of_heap hBr__; clear hBr__
  have HBe := Lib.hid hBe__; have cBe := cells4 hBe__; have fBe := frozen_of hBe__; have zBe := lt_of_heap hBe__; clear hBe__
  have HBo := Lib.hid hBo__; have cBo := cells4 hBo__; have fBo := frozen_of hBo__; have zBo := lt_of_heap hBo__; clear hBo__
  go_wp2
  have hK := set4 HBr.out (.int .u64 t0) (.int .u64 t1) (.int .u64 t2) (.int .u64 t3)
  have hL : Below w.heap.size w _ := set4_below (b := w.heap.size + 1) HB.out (by omega) (.int .u64 t0) (.int .u64 t1) (.int .u64 t2) (.int .u64 t3)
  obtain ⟨v, hv⟩ : ∃ x, x = ((((wd.setCell ⟨w.heap.size + 1, 0, none⟩ (.int .u64 t0)).setCell ⟨w.heap.size + 1, 1, none⟩ (.int .u64 t1)).setCell ⟨w.heap.size + 1, 2, none⟩ (.int .u64 t2)).setCell ⟨w.heap.size + 1, 3, none⟩ (.int .u64 t3)) := ⟨_, rfl⟩
  rw [← hv] at hK hL ⊢
  clear hv
  have hQ := cells4 hK
  exact bodyPost_ret (v := .tuple #[.agg #[.int .u64 t0, .int .u64 t1, .int .u64 t2, .int .u64 t3], .bool true]) (by simp [results, Try.results36, go_sem, hQ]) rfl ⟨rfl, hL⟩

set_option maxHeartbeats 4000000 in
theorem root_A1 (a0 a1 a2 a3 s0 s1 s2 s3 t0 t1 t2 t3 m0 m1 m2 m3 : Nat) (FS : Hid (∀ w : World, Calls Try.prog 47 #[.agg #[.int .u64 a0, .int .u64 a1, .int .u64 a2, .int .u64 a3]] w fun e w' => e = .returned (.agg #[.int .u64 s0, .int .u64 s1, .int .u64 s2, .int .u64 s3]) ∧ Below w.heap.size w w')) (FP : Hid (∀ w : World, Calls Try.prog 34 #[.agg #[.int .u64 s0, .int .u64 s1, .int .u64 s2, .int .u64 s3], .agg #[.int .u64 18446744073709551614, .int .u64 18446744073709551615, .int .u64 18446744073709551615, .int .u64 1152921504606846975]] w fun e w' => e = .returned (.agg #[.int .u64 t0, .int .u64 t1, .int .u64 t2, .int .u64 t3]) ∧ Below w.heap.size w w')) (FM : Hid (∀ w : World, Calls Try.prog 48 #[.agg #[.int .u64 t0, .int .u64 t1, .int .u64 t2, .int .u64 t3], .agg #[.int .u64 t0, .int .u64 t1, .int .u64 t2, .int .u64 t3]] w fun e w' => e = .returned (.agg #[.int .u64 m0, .int .u64 m1, .int .u64 m2, .int .u64 m3]) ∧ Below w.heap.size w w')) (E1 : eqL [(m0 : Int), m1, m2, m3] [(s0 : Int), s1, s2, s3] = true) (EB : bits .and .u64 (t0 : Int) 1 = 1) (n0 n1 n2 n3 : Nat) (FN : Hid (∀ w : World, Calls Try.prog 26 #[.agg #[.int .u64 0, .int .u64 0, .int .u64 0, .int .u64 0], .agg #[.int .u64 t0, .int .u64 t1, .int .u64 t2, .int .u64 t3]] w fun e w' => e = .returned (.agg #[.int .u64 n0, .int .u64 n1, .int .u64 n2, .int .u64 n3]) ∧ Below w.heap.size w w')) (w : World) : Calls Try.prog 36 #[.agg #[.int .u64 a0, .int .u64 a1, .int .u64 a2, .int .u64 a3]] w fun e w' => e = .returned (.tuple #[.agg #[.int .u64 n0, .int .u64 n1, .int .u64 n2, .int .u64 n3], .bool true]) ∧ Below w.heap.size w w' := by
  go_enter Try.func36, Try.ntmps36
  go_wp2_with (fail)
  go_at_call 47
  refine (FS.out _).mono ?_
  rintro e wa ⟨rfl, hb⟩
  have HBn : Hid (Below w.heap.size w wa) := Lib.hid (below_call (by first | go_grown) (by first | (simp; omega) | simp | omega) hb)
  have hBa_ : wa.heap[w.heap.size]? = some (.cells #[.int .u64 a0, .int .u64 a1, .int .u64 a2, .int .u64 a3] 25 (0, 0)) := heap_keep' hb (by repeat (first | (with_reducible refine heap_new' ?_ _; simp; done) | (with_reducible refine keep4 ?_ (by omega) _ _ _ _) | (with_reducible refine heap_old ?_ _) | (with_reducible refine heap_drew ?_) | (with_reducible refine heap_set_ne ?_ (by simp <;> omega) _)))
  have hBr_ : wa.heap[w.heap.size + 1]? = some (.cells #[.int .u64 0, .int .u64 0, .int .u64 0, .int .u64 0] 25 (0, 0)) := heap_keep' hb (by repeat (first | (with_reducible refine heap_new' ?_ _; simp; done) | (with_reducible refine keep4 ?_ (by omega) _ _ _ _) | (with_reducible refine heap_old ?_ _) | (with_reducible refine heap_drew ?_) | (with_reducible refine heap_set_ne ?_ (by simp <;> omega) _)))
  clear hb
  have HB := HBn; clear HBn
  have HBa := Lib.hid hBa_; have cBa := cells4 hBa_; have fBa := frozen_of hBa_; have zBa := lt_of_heap hBa_; clear hBa_
  have HBr := Lib.hid hBr_; have cBr := cells4 hBr_; have fBr := frozen_of hBr_; have zBr := lt_of_heap hBr_; clear hBr_
  go_wp2_with (fail)
  go_at_call 34
  refine (FP.out _).mono ?_
  rintro e wb ⟨rfl, hb⟩
  have HBn : Hid (Below w.heap.size w wb) := Lib.hid (below_call (by have hB0 := HB.out; have hS0 := hB0.size; first | exact hB0 | exact set4_below hB0 (by omega) _ _ _ _ | go_grown) (by have hB0 := HB.out; have hS0 := hB0.size; first | exact hS0 | (rw [size4]; exact hS0) | (simp; omega) | simp | omega) hb)
  have hBa_ : wb.heap[w.heap.size]? = some (.cells #[.int .u64 s0, .int .u64 s1, .int .u64 s2, .int .u64 s3] 25 (0, 0)) := heap_keep' hb (by repeat (first | (with_reducible exact HBa.out) | (with_reducible exact set4 HBa.out _ _ _ _) | (with_reducible refine heap_new' ?_ _; simp; done) | (with_reducible refine keep4 ?_ (by omega) _ _ _ _) | (with_reducible refine heap_old ?_ _) | (with_reducible refine heap_drew ?_) | (with_reducible refine heap_set_ne ?_ (by simp <;> omega) _)))
  have hBr_ : wb.heap[w.heap.size + 1]? = some (.cells #[.int .u64 0, .int .u64 0, .int .u64 0, .int .u64 0] 25 (0, 0)) := heap_keep' hb (by repeat (first | (with_reducible exact HBr.out) | (with_reducible exact set4 HBr.out _ _ _ _) | (with_reducible refine heap_new' ?_ _; simp; done) | (with_reducible refine keep4 ?_ (by omega) _ _ _ _) | (with_reducible refine heap_old ?_ _) | (with_reducible refine heap_drew ?_) | (with_reducible refine heap_set_ne ?_ (by simp <;> omega) _)))
  have hBe_ : wb.heap[wa.heap.size]? = some (.cells #[.int .u64 18446744073709551614, .int .u64 18446744073709551615, .int .u64 18446744073709551615, .int .u64 1152921504606846975] 25 (0, 0)) := heap_keep' hb (by repeat (first | (with_reducible refine heap_new' ?_ _; simp; done) | (with_reducible refine keep4 ?_ (by omega) _ _ _ _) | (with_reducible refine heap_old ?_ _) | (with_reducible refine heap_drew ?_) | (with_reducible refine heap_set_ne ?_ (by simp <;> omega) _)))
  clear hb HB HBa cBa fBa zBa HBr cBr fBr zBr
  have HB := HBn; clear HBn
  have HBa := Lib.hid hBa_; have cBa := cells4 hBa_; have fBa := frozen_of hBa_; have zBa := lt_of_heap hBa_; clear hBa_
  have HBr := Lib.hid hBr_; have cBr := cells4 hBr_; have fBr := frozen_of hBr_; have zBr := lt_of_heap hBr_; clear hBr_
  have HBe := Lib.hid hBe_; have cBe := cells4 hBe_; have fBe := frozen_of hBe_; have zBe := lt_of_heap hBe_; clear hBe_
  have q1 := zBr; have q2 := zBe
  go_wp2
  refine Rg.region_ (n := 38) [0, 0, 3, 0, 15] [1, 1, 1, 1, 0] [13, 14, 15, 16, 17] [[(5, none)], [(5, none)], [(13, some 0), (14, some 1)], [(1, none)], [(15, some 2), (16, some 3)]] 5 (by kernel_rfl) (by kernel_rfl) (by rfl) ?_
  intro W hW
  have hBa_ : W.heap[w.heap.size]? = some (.cells #[.int .u64 s0, .int .u64 s1, .int .u64 s2, .int .u64 s3] 25 (0, 0)) := by rw [hW]; exact (by repeat (first | (with_reducible exact HBa.out) | (with_reducible exact set4 HBa.out _ _ _ _) | (with_reducible refine heap_new' ?_ _; simp; done) | (with_reducible refine keep4 ?_ (by omega) _ _ _ _) | (with_reducible refine heap_old ?_ _) | (with_reducible refine heap_drew ?_) | (with_reducible refine heap_set_ne ?_ (by simp <;> omega) _)))
  have hBr_ : W.heap[w.heap.size + 1]? = some (.cells #[.int .u64 0, .int .u64 0, .int .u64 0, .int .u64 0] 25 (0, 0)) := by rw [hW]; exact (by repeat (first | (with_reducible exact HBr.out) | (with_reducible exact set4 HBr.out _ _ _ _) | (with_reducible refine heap_new' ?_ _; simp; done) | (with_reducible refine keep4 ?_ (by omega) _ _ _ _) | (with_reducible refine heap_old ?_ _) | (with_reducible refine heap_drew ?_) | (with_reducible refine heap_set_ne ?_ (by simp <;> omega) _)))
  have hBe_ : W.heap[wa.heap.size]? = some (.cells #[.int .u64 18446744073709551614, .int .u64 18446744073709551615, .int .u64 18446744073709551615, .int .u64 1152921504606846975] 25 (0, 0)) := by rw [hW]; exact (by repeat (first | (with_reducible exact HBe.out) | (with_reducible exact set4 HBe.out _ _ _ _) | (with_reducible refine heap_new' ?_ _; simp; done) | (with_reducible refine keep4 ?_ (by omega) _ _ _ _) | (with_reducible refine heap_old ?_ _) | (with_reducible refine heap_drew ?_) | (with_reducible refine heap_set_ne ?_ (by simp <;> omega) _)))
  have hBo_ : W.heap[wb.heap.size]? = some (.cells #[.int .u64 t0, .int .u64 t1, .int .u64 t2, .int .u64 t3] 25 (0, 0)) := by rw [hW]; exact (by repeat (first | (with_reducible refine heap_new' ?_ _; simp; done) | (with_reducible refine keep4 ?_ (by omega) _ _ _ _) | (with_reducible refine heap_old ?_ _) | (with_reducible refine heap_drew ?_) | (with_reducible refine heap_set_ne ?_ (by simp <;> omega) _)))
  have HB0 : Below w.heap.size w W := by rw [hW]; have hB0 := HB.out; have hS0 := hB0.size; first | exact hB0.drew | exact (set4_below hB0 (by omega) _ _ _ _).drew | go_grown
  change Rg.Chain' _ _ _ _ _ [(0, 1, 13, [(5, none)]), (1, 1, 14, [(5, none)]), (2, 1, 15, [(13, some 0), (14, some 1)]), (3, 1, 16, [(1, none)]), (4, 0, 17, [(15, some 2), (16, some 3)])] [(0, 1, 13, [(5, none)]), (1, 1, 14, [(5, none)]), (2, 1, 15, [(13, some 0), (14, some 1)]), (3, 1, 16, [(1, none)]), (4, 0, 17, [(15, some 2), (16, some 3)])] _
  apply Rg.ch_def (by rfl) (fun a w1 _ => Rg.wanted_none (by rfl))
  · rintro a w1 hb ⟨e5, -⟩
    conv at e5 => rhs; whnf
    have n5 := e5
    simp only [Act.eval, Array.getD_eq_getD_getElem?] at n5
    apply Rg.gives_value
    · conv => lhs; simp [go_sem, n5, cells4 (heap_keep' hb hBa_), cells4 (heap_keep' hb hBr_), cells4 (heap_keep' hb hBe_), cells4 (heap_keep' hb hBo_)]
    · exact ⟨rfl, Below.refl _ _⟩
  apply Rg.ch_def (by rfl) (fun a w1 _ => Rg.wanted_none (by rfl))
  · rintro a w1 hb ⟨e5, -⟩
    conv at e5 => rhs; whnf
    have n5 := e5
    simp only [Act.eval, Array.getD_eq_getD_getElem?] at n5
    apply Rg.gives_value
    · conv => lhs; simp [go_sem, n5, cells4 (heap_keep' hb hBa_), cells4 (heap_keep' hb hBr_), cells4 (heap_keep' hb hBe_), cells4 (heap_keep' hb hBo_)]
    · exact ⟨rfl, Below.refl _ _⟩
  apply Rg.ch_def (by rfl) (fun a w1 _ => Rg.wanted_none (by rfl))
  · rintro a w1 hb ⟨e13, e14, -⟩
    replace e13 : a.eval (.tmp 13) = _ := e13
    replace e14 : a.eval (.tmp 14) = _ := e14
    apply Rg.gives_enter
    · apply run_call Try.func48 (by kernel_rfl) rfl _ (by rfl)
      conv => lhs; simp only [List.map_toArray, List.map_cons, List.map_nil, eval_const_, eval_global_, e13, e14]
    · refine (FM.out _).mono ?_
      rintro e w2 ⟨rfl, hb2⟩
      exact ⟨_, rfl, rfl, hb2⟩
  apply Rg.ch_def (by rfl) (fun a w1 _ => Rg.wanted_none (by rfl))
  · rintro a w1 hb ⟨e1, -⟩
    conv at e1 => rhs; whnf
    have n1 := e1
    simp only [Act.eval, Array.getD_eq_getD_getElem?] at n1
    apply Rg.gives_value
    · conv => lhs; simp [go_sem, n1, cells4 (heap_keep' hb hBa_), cells4 (heap_keep' hb hBr_), cells4 (heap_keep' hb hBe_), cells4 (heap_keep' hb hBo_)]
    · exact ⟨rfl, Below.refl _ _⟩
  apply Rg.ch_pure (by rfl)
  · rintro a w1 ⟨e15, e16, -⟩
    replace e15 : a.eval (.tmp 15) = _ := e15
    have n15 := e15
    simp only [Act.eval, Array.getD_eq_getD_getElem?] at n15
    replace e16 : a.eval (.tmp 16) = _ := e16
    have n16 := e16
    simp only [Act.eval, Array.getD_eq_getD_getElem?] at n16
    apply Rg.yields_run (Rg.wanted_none (by rfl))
    intro w2
    conv => lhs; simp [go_sem, n15, n16, E1]
  intro w1 hb1
  rintro _ rfl _ rfl _ rfl _ rfl _ rfl
  change Go.wpList _ _ _ _ _ _
  simp only [List.drop_succ_cons, List.drop_zero, List.drop_nil, Act.put, List.setIfInBounds_toArray, List.set_cons_succ, List.set_cons_zero]
  change Go.NoPanic _ _ _ _
  refine NoPanic.normal ?_
  have HBn : Hid (Below w.heap.size w w1) := Lib.hid (below_call HB0 HB0.size hb1)
  have hBa__ := heap_keep' hb1 hBa_
  have hBr__ := heap_keep' hb1 hBr_
  have hBe__ := heap_keep' hb1 hBe_
  have hBo__ := heap_keep' hb1 hBo_
  clear hb1 HB0 HB hBa_ HBa cBa fBa zBa hBr_ HBr cBr fBr zBr hBe_ HBe cBe fBe zBe hBo_
  clear hW
  obtain ⟨wc, rfl⟩ : ∃ x : World, x = w1 := ⟨_, rfl⟩
  have HB := HBn; clear HBn
  have HBa := Lib.hid hBa__; have cBa := cells4 hBa__; have fBa := frozen_of hBa__; have zBa := lt_of_heap hBa__; clear hBa__
  have HBr := Lib.hid hBr__; have cBr := cells4 hBr__; have fBr := frozen_of hBr__; have zBr := lt_of_heap hBr__; clear hBr__
  have HBe := Lib.hid hBe__; have cBe := cells4 hBe__; have fBe := frozen_of hBe__; have zBe := lt_of_heap hBe__; clear hBe__
  have HBo := Lib.hid hBo__; have cBo := cells4 hBo__; have fBo := frozen_of hBo__; have zBo := lt_of_heap hBo__; clear hBo__
  go_wp2
  refine Rg.region_ (n := 38) [0, 0, 3, 0, 15] [1, 1, 1, 1, 0] [24, 25, 26, 27, 28] [[(5, none)], [(5, none)], [(24, some 0), (25, some 1)], [(1, none)], [(26, some 2), (27, some 3)]] 5 (by kernel_rfl) (by kernel_rfl) (by rfl) ?_
  intro W hW
  have hBa_ : W.heap[w.heap.size]? = some (.cells #[.int .u64 s0, .int .u64 s1, .int .u64 s2, .int .u64 s3] 25 (0, 0)) := by rw [hW]; exact (by repeat (first | (with_reducible exact HBa.out) | (with_reducible exact set4 HBa.out _ _ _ _) | (with_reducible refine heap_new' ?_ _; simp; done) | (with_reducible refine keep4 ?_ (by omega) _ _ _ _) | (with_reducible refine heap_old ?_ _) | (with_reducible refine heap_drew ?_) | (with_reducible refine heap_set_ne ?_ (by simp <;> omega) _)))
  have hBr_ : W.heap[w.heap.size + 1]? = some (.cells #[.int .u64 0, .int .u64 0, .int .u64 0, .int .u64 0] 25 (0, 0)) := by rw [hW]; exact (by repeat (first | (with_reducible exact HBr.out) | (with_reducible exact set4 HBr.out _ _ _ _) | (with_reducible refine heap_new' ?_ _; simp; done) | (with_reducible refine keep4 ?_ (by omega) _ _ _ _) | (with_reducible refine heap_old ?_ _) | (with_reducible refine heap_drew ?_) | (with_reducible refine heap_set_ne ?_ (by simp <;> omega) _)))
  have hBe_ : W.heap[wa.heap.size]? = some (.cells #[.int .u64 18446744073709551614, .int .u64 18446744073709551615, .int .u64 18446744073709551615, .int .u64 1152921504606846975] 25 (0, 0)) := by rw [hW]; exact (by repeat (first | (with_reducible exact HBe.out) | (with_reducible exact set4 HBe.out _ _ _ _) | (with_reducible refine heap_new' ?_ _; simp; done) | (with_reducible refine keep4 ?_ (by omega) _ _ _ _) | (with_reducible refine heap_old ?_ _) | (with_reducible refine heap_drew ?_) | (with_reducible refine heap_set_ne ?_ (by simp <;> omega) _)))
  have hBo_ : W.heap[wb.heap.size]? = some (.cells #[.int .u64 t0, .int .u64 t1, .int .u64 t2, .int .u64 t3] 25 (0, 0)) := by rw [hW]; exact (by repeat (first | (with_reducible exact HBo.out) | (with_reducible exact set4 HBo.out _ _ _ _) | (with_reducible refine heap_new' ?_ _; simp; done) | (with_reducible refine keep4 ?_ (by omega) _ _ _ _) | (with_reducible refine heap_old ?_ _) | (with_reducible refine heap_drew ?_) | (with_reducible refine heap_set_ne ?_ (by simp <;> omega) _)))
  have HB0 : Below w.heap.size w W := by rw [hW]; have hB0 := HB.out; have hS0 := hB0.size; first | exact hB0.drew | exact (set4_below hB0 (by omega) _ _ _ _).drew | go_grown
  change Rg.Chain' _ _ _ _ _ [(0, 1, 24, [(5, none)]), (1, 1, 25, [(5, none)]), (2, 1, 26, [(24, some 0), (25, some 1)]), (3, 1, 27, [(1, none)]), (4, 0, 28, [(26, some 2), (27, some 3)])] [(0, 1, 24, [(5, none)]), (1, 1, 25, [(5, none)]), (2, 1, 26, [(24, some 0), (25, some 1)]), (3, 1, 27, [(1, none)]), (4, 0, 28, [(26, some 2), (27, some 3)])] _
  apply Rg.ch_def (by rfl) (fun a w1 _ => Rg.wanted_none (by rfl))
  · rintro a w1 hb ⟨e5, -⟩
    conv at e5 => rhs; whnf
    have n5 := e5
    simp only [Act.eval, Array.getD_eq_getD_getElem?] at n5
    apply Rg.gives_value
    · conv => lhs; simp [go_sem, n5, cells4 (heap_keep' hb hBa_), cells4 (heap_keep' hb hBr_), cells4 (heap_keep' hb hBe_), cells4 (heap_keep' hb hBo_)]
    · exact ⟨rfl, Below.refl _ _⟩
  apply Rg.ch_def (by rfl) (fun a w1 _ => Rg.wanted_none (by rfl))
  · rintro a w1 hb ⟨e5, -⟩
    conv at e5 => rhs; whnf
    have n5 := e5
    simp only [Act.eval, Array.getD_eq_getD_getElem?] at n5
    apply Rg.gives_value
    · conv => lhs; simp [go_sem, n5, cells4 (heap_keep' hb hBa_), cells4 (heap_keep' hb hBr_), cells4 (heap_keep' hb hBe_), cells4 (heap_keep' hb hBo_)]
    · exact ⟨rfl, Below.refl _ _⟩
  apply Rg.ch_def (by rfl) (fun a w1 _ => Rg.wanted_none (by rfl))
  · rintro a w1 hb ⟨e24, e25, -⟩
    replace e24 : a.eval (.tmp 24) = _ := e24
    replace e25 : a.eval (.tmp 25) = _ := e25
    apply Rg.gives_enter
    · apply run_call Try.func48 (by kernel_rfl) rfl _ (by rfl)
      conv => lhs; simp only [List.map_toArray, List.map_cons, List.map_nil, eval_const_, eval_global_, e24, e25]
    · refine (FM.out _).mono ?_
      rintro e w2 ⟨rfl, hb2⟩
      exact ⟨_, rfl, rfl, hb2⟩
  apply Rg.ch_def (by rfl) (fun a w1 _ => Rg.wanted_none (by rfl))
  · rintro a w1 hb ⟨e1, -⟩
    conv at e1 => rhs; whnf
    have n1 := e1
    simp only [Act.eval, Array.getD_eq_getD_getElem?] at n1
    apply Rg.gives_value
    · conv => lhs; simp [go_sem, n1, cells4 (heap_keep' hb hBa_), cells4 (heap_keep' hb hBr_), cells4 (heap_keep' hb hBe_), cells4 (heap_keep' hb hBo_)]
    · exact ⟨rfl, Below.refl _ _⟩
  apply Rg.ch_pure (by rfl)
  · rintro a w1 ⟨e26, e27, -⟩
    replace e26 : a.eval (.tmp 26) = _ := e26
    have n26 := e26
    simp only [Act.eval, Array.getD_eq_getD_getElem?] at n26
    replace e27 : a.eval (.tmp 27) = _ := e27
    have n27 := e27
    simp only [Act.eval, Array.getD_eq_getD_getElem?] at n27
    apply Rg.yields_run (Rg.wanted_none (by rfl))
    intro w2
    conv => lhs; simp [go_sem, n26, n27, E1]
  intro w1 hb1
  rintro _ rfl _ rfl _ rfl _ rfl _ rfl
  change Go.wpList _ _ _ _ _ _
  simp only [List.drop_succ_cons, List.drop_zero, List.drop_nil, Act.put, List.setIfInBounds_toArray, List.set_cons_succ, List.set_cons_zero]
  change Go.NoPanic _ _ _ _
  refine NoPanic.normal ?_
  have HBn : Hid (Below w.heap.size w w1) := Lib.hid (below_call HB0 HB0.size hb1)
  have hBa__ := heap_keep' hb1 hBa_
  have hBr__ := heap_keep' hb1 hBr_
  have hBe__ := heap_keep' hb1 hBe_
  have hBo__ := heap_keep' hb1 hBo_
  clear hb1 HB0 HB hBa_ HBa cBa fBa zBa hBr_ HBr cBr fBr zBr hBe_ HBe cBe fBe zBe hBo_ HBo cBo fBo zBo
  clear hW
  obtain ⟨wd, rfl⟩ : ∃ x : World, x = w1 := ⟨_, rfl⟩
  have HB := HBn; clear HBn
  have HBa := Lib.hid hBa__; have cBa := cells4 hBa__; have fBa := frozen_of hBa__; have zBa := lt_of_heap hBa__; clear hBa__
  have HBr := Lib.hid hBr__; have cBr := cells4 hBr__; have fBr := frozen_of hBr__; have zBr := lt_of_heap hBr__; clear hBr__
  have HBe := Lib.hid hBe__; have cBe := cells4 hBe__; have fBe := frozen_of hBe__; have zBe := lt_of_heap hBe__; clear hBe__
  have HBo := Lib.hid hBo__; have cBo := cells4 hBo__; have fBo := frozen_of hBo__; have zBo := lt_of_heap hBo__; clear hBo__
  go_wp2_with (fail)
  go_at_call 26
  refine (FN.out _).mono ?_
  rintro e wz ⟨rfl, hb⟩
  have HBn : Hid (Below w.heap.size w wz) := Lib.hid (below_call (by have hB0 := HB.out; have hS0 := hB0.size; first | exact hB0 | exact set4_below hB0 (by omega) _ _ _ _ | go_grown) (by have hB0 := HB.out; have hS0 := hB0.size; first | exact hS0 | (rw [size4]; exact hS0) | (simp; omega) | simp | omega) hb)
  have hBa_ : wz.heap[w.heap.size]? = some (.cells #[.int .u64 s0, .int .u64 s1, .int .u64 s2, .int .u64 s3] 25 (0, 0)) := heap_keep' hb (by repeat (first | (with_reducible exact HBa.out) | (with_reducible exact set4 HBa.out _ _ _ _) | (with_reducible refine heap_new' ?_ _; simp; done) | (with_reducible refine keep4 ?_ (by omega) _ _ _ _) | (with_reducible refine heap_old ?_ _) | (with_reducible refine heap_drew ?_) | (with_reducible refine heap_set_ne ?_ (by simp <;> omega) _)))
  have hBr_ : wz.heap[w.heap.size + 1]? = some (.cells #[.int .u64 0, .int .u64 0, .int .u64 0, .int .u64 0] 25 (0, 0)) := heap_keep' hb (by repeat (first | (with_reducible exact HBr.out) | (with_reducible exact set4 HBr.out _ _ _ _) | (with_reducible refine heap_new' ?_ _; simp; done) | (with_reducible refine keep4 ?_ (by omega) _ _ _ _) | (with_reducible refine heap_old ?_ _) | (with_reducible refine heap_drew ?_) | (with_reducible refine heap_set_ne ?_ (by simp <;> omega) _)))
  have hBe_ : wz.heap[wa.heap.size]? = some (.cells #[.int .u64 18446744073709551614, .int .u64 18446744073709551615, .int .u64 18446744073709551615, .int .u64 1152921504606846975] 25 (0, 0)) := heap_keep' hb (by repeat (first | (with_reducible exact HBe.out) | (with_reducible exact set4 HBe.out _ _ _ _) | (with_reducible refine heap_new' ?_ _; simp; done) | (with_reducible refine keep4 ?_ (by omega) _ _ _ _) | (with_reducible refine heap_old ?_ _) | (with_reducible refine heap_drew ?_) | (with_reducible refine heap_set_ne ?_ (by simp <;> omega) _)))
  have hBo_ : wz.heap[wb.heap.size]? = some (.cells #[.int .u64 t0, .int .u64 t1, .int .u64 t2, .int .u64 t3] 25 (0, 0)) := heap_keep' hb (by repeat (first | (with_reducible exact HBo.out) | (with_reducible exact set4 HBo.out _ _ _ _) | (with_reducible refine heap_new' ?_ _; simp; done) | (with_reducible refine keep4 ?_ (by omega) _ _ _ _) | (with_reducible refine heap_old ?_ _) | (with_reducible refine heap_drew ?_) | (with_reducible refine heap_set_ne ?_ (by simp <;> omega) _)))
  clear hb HB HBa cBa fBa zBa HBr cBr fBr zBr HBe cBe fBe zBe HBo cBo fBo zBo
  have HB := HBn; clear HBn
  have HBa := Lib.hid hBa_; have cBa := cells4 hBa_; have fBa := frozen_of hBa_; have zBa := lt_of_heap hBa_; clear hBa_
  have HBr := Lib.hid hBr_; have cBr := cells4 hBr_; have fBr := frozen_of hBr_; have zBr := lt_of_heap hBr_; clear hBr_
  have HBe := Lib.hid hBe_; have cBe := cells4 hBe_; have fBe := frozen_of hBe_; have zBe := lt_of_heap hBe_; clear hBe_
  have HBo := Lib.hid hBo_; have cBo := cells4 hBo_; have fBo := frozen_of hBo_; have zBo := lt_of_heap hBo_; clear hBo_
  go_wp2
  have hK := set4 (keep4 (b' := wb.heap.size) HBr.out (by omega) (.int .u64 n0) (.int .u64 n1) (.int .u64 n2) (.int .u64 n3)) (.int .u64 n0) (.int .u64 n1) (.int .u64 n2) (.int .u64 n3)
  have hL : Below w.heap.size w _ := set4_below (b := w.heap.size + 1) (set4_below (b := wb.heap.size) HB.out (by omega) (.int .u64 n0) (.int .u64 n1) (.int .u64 n2) (.int .u64 n3)) (by omega) (.int .u64 n0) (.int .u64 n1) (.int .u64 n2) (.int .u64 n3)
  obtain ⟨v, hv⟩ : ∃ x, x = ((((((((wz.setCell ⟨wb.heap.size, 0, none⟩ (.int .u64 n0)).setCell ⟨wb.heap.size, 1, none⟩ (.int .u64 n1)).setCell ⟨wb.heap.size, 2, none⟩ (.int .u64 n2)).setCell ⟨wb.heap.size, 3, none⟩ (.int .u64 n3)).setCell ⟨w.heap.size + 1, 0, none⟩ (.int .u64 n0)).setCell ⟨w.heap.size + 1, 1, none⟩ (.int .u64 n1)).setCell ⟨w.heap.size + 1, 2, none⟩ (.int .u64 n2)).setCell ⟨w.heap.size + 1, 3, none⟩ (.int .u64 n3)) := ⟨_, rfl⟩
  rw [← hv] at hK hL ⊢
  clear hv
  have hQ := cells4 hK
  exact bodyPost_ret (v := .tuple #[.agg #[.int .u64 n0, .int .u64 n1, .int .u64 n2, .int .u64 n3], .bool true]) (by simp [results, Try.results36, go_sem, hQ]) rfl ⟨rfl, hL⟩

end Go.Proofs.Ytldnjbpcdojffaa
