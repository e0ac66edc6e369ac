/- @@NUM 25 The walk of residue's Root. Conditions: words are below 2^64. -/
import Derived.Test.YtldnjbpcdojffaaR14
namespace Go.Proofs.Ytldnjbpcdojffaa
set_option linter.unusedVariables false
set_option linter.unusedSimpArgs false
open Go Go.RowKit
open Pl (V V8 W4 T256 pP)
attribute [local go_sem ↓] eql_num neq_num


set_option maxHeartbeats 4000000 in
theorem root_C (a0 a1 a2 a3 s0 s1 s2 s3 t0 t1 t2 t3 m0 m1 m2 m3 : Nat) (FS : Hid (∀ w : World, Calls Try.prog 47 #[.agg #[.int .u64 a0, .int .u64 a1, .int .u64 a2, .int .u64 a3]] w fun e w' => e = .returned (.agg #[.int .u64 s0, .int .u64 s1, .int .u64 s2, .int .u64 s3]) ∧ Below w.heap.size w w')) (FP : Hid (∀ w : World, Calls Try.prog 34 #[.agg #[.int .u64 s0, .int .u64 s1, .int .u64 s2, .int .u64 s3], .agg #[.int .u64 18446744073709551614, .int .u64 18446744073709551615, .int .u64 18446744073709551615, .int .u64 1152921504606846975]] w fun e w' => e = .returned (.agg #[.int .u64 t0, .int .u64 t1, .int .u64 t2, .int .u64 t3]) ∧ Below w.heap.size w w')) (FM : Hid (∀ w : World, Calls Try.prog 48 #[.agg #[.int .u64 t0, .int .u64 t1, .int .u64 t2, .int .u64 t3], .agg #[.int .u64 t0, .int .u64 t1, .int .u64 t2, .int .u64 t3]] w fun e w' => e = .returned (.agg #[.int .u64 m0, .int .u64 m1, .int .u64 m2, .int .u64 m3]) ∧ Below w.heap.size w w')) (E1 : eqL [(m0 : Int), m1, m2, m3] [(s0 : Int), s1, s2, s3] = false) (i0 i1 i2 i3 u0 u1 u2 u3 k0 k1 k2 k3 : Nat) (FI : Hid (∀ w : World, Calls Try.prog 34 #[.agg #[.int .u64 2, .int .u64 0, .int .u64 0, .int .u64 0], .agg #[.int .u64 18446744073709551611, .int .u64 18446744073709551615, .int .u64 18446744073709551615, .int .u64 2305843009213693951]] w fun e w' => e = .returned (.agg #[.int .u64 i0, .int .u64 i1, .int .u64 i2, .int .u64 i3]) ∧ Below w.heap.size w w')) (FU : Hid (∀ w : World, Calls Try.prog 48 #[.agg #[.int .u64 t0, .int .u64 t1, .int .u64 t2, .int .u64 t3], .agg #[.int .u64 i0, .int .u64 i1, .int .u64 i2, .int .u64 i3]] w fun e w' => e = .returned (.agg #[.int .u64 u0, .int .u64 u1, .int .u64 u2, .int .u64 u3]) ∧ Below w.heap.size w w')) (FK : Hid (∀ w : World, Calls Try.prog 48 #[.agg #[.int .u64 u0, .int .u64 u1, .int .u64 u2, .int .u64 u3], .agg #[.int .u64 u0, .int .u64 u1, .int .u64 u2, .int .u64 u3]] w fun e w' => e = .returned (.agg #[.int .u64 k0, .int .u64 k1, .int .u64 k2, .int .u64 k3]) ∧ Below w.heap.size w w')) (E2 : eqL [(k0 : Int), k1, k2, k3] [(s0 : Int), s1, s2, s3] = false) (w : World) : Calls Try.prog 36 #[.agg #[.int .u64 a0, .int .u64 a1, .int .u64 a2, .int .u64 a3]] w fun e w' => e = .returned (.tuple #[.agg #[.int .u64 0, .int .u64 0, .int .u64 0, .int .u64 0], .bool false]) ∧ Below w.heap.size w w' := by
  go_enter Try.func36, Try.ntmps36
  go_wp2_with (fail)
  go_at_call 47
  refine (FS.out _).mono ?_
  rintro e wa ⟨rfl, hb⟩
  have HBn : Hid (Below w.heap.size w wa) := Lib.hid (below_call (by first | go_grown) (by first | (simp; omega) | simp | omega) hb)
  have hBa_ : wa.heap[w.heap.size]? = some (.cells #[.int .u64 a0, .int .u64 a1, .int .u64 a2, .int .u64 a3] 25 (0, 0)) := heap_keep' hb (by repeat (first | (with_reducible refine heap_new' ?_ _; simp; done) | (with_reducible refine keep4 ?_ (by omega) _ _ _ _) | (with_reducible refine heap_old ?_ _) | (with_reducible refine heap_drew ?_) | (with_reducible refine heap_set_ne ?_ (by simp <;> omega) _)))
  have hBr_ : wa.heap[w.heap.size + 1]? = some (.cells #[.int .u64 0, .int .u64 0, .int .u64 0, .int .u64 0] 25 (0, 0)) := heap_keep' hb (by repeat (first | (with_reducible refine heap_new' ?_ _; simp; done) | (with_reducible refine keep4 ?_ (by omega) _ _ _ _) | (with_reducible refine heap_old ?_ _) | (with_reducible refine heap_drew ?_) | (with_reducible refine heap_set_ne ?_ (by simp <;> omega) _)))
  clear hb
  have HB := HBn; clear HBn
  have HBa := Lib.hid hBa_; have cBa := cells4 hBa_; have fBa := frozen_of hBa_; have zBa := lt_of_heap hBa_; clear hBa_
  have HBr := Lib.hid hBr_; have cBr := cells4 hBr_; have fBr := frozen_of hBr_; have zBr := lt_of_heap hBr_; clear hBr_
  go_wp2_with (fail)
  go_at_call 34
  refine (FP.out _).mono ?_
  rintro e wb ⟨rfl, hb⟩
  have HBn : Hid (Below w.heap.size w wb) := Lib.hid (below_call (by have hB0 := HB.out; have hS0 := hB0.size; first | exact hB0 | exact set4_below hB0 (by omega) _ _ _ _ | go_grown) (by have hB0 := HB.out; have hS0 := hB0.size; first | exact hS0 | (rw [size4]; exact hS0) | (simp; omega) | simp | omega) hb)
  have hBa_ : wb.heap[w.heap.size]? = some (.cells #[.int .u64 s0, .int .u64 s1, .int .u64 s2, .int .u64 s3] 25 (0, 0)) := heap_keep' hb (by repeat (first | (with_reducible exact HBa.out) | (with_reducible exact set4 HBa.out _ _ _ _) | (with_reducible refine heap_new' ?_ _; simp; done) | (with_reducible refine keep4 ?_ (by omega) _ _ _ _) | (with_reducible refine heap_old ?_ _) | (with_reducible refine heap_drew ?_) | (with_reducible refine heap_set_ne ?_ (by simp <;> omega) _)))
  have hBr_ : wb.heap[w.heap.size + 1]? = some (.cells #[.int .u64 0, .int .u64 0, .int .u64 0, .int .u64 0] 25 (0, 0)) := heap_keep' hb (by repeat (first | (with_reducible exact HBr.out) | (with_reducible exact set4 HBr.out _ _ _ _) | (with_reducible refine heap_new' ?_ _; simp; done) | (with_reducible refine keep4 ?_ (by omega) _ _ _ _) | (with_reducible refine heap_old ?_ _) | (with_reducible refine heap_drew ?_) | (with_reducible refine heap_set_ne ?_ (by simp <;> omega) _)))
  have hBe_ : wb.heap[wa.heap.size]? = some (.cells #[.int .u64 18446744073709551614, .int .u64 18446744073709551615, .int .u64 18446744073709551615, .int .u64 1152921504606846975] 25 (0, 0)) := heap_keep' hb (by repeat (first | (with_reducible refine heap_new' ?_ _; simp; done) | (with_reducible refine keep4 ?_ (by omega) _ _ _ _) | (with_reducible refine heap_old ?_ _) | (with_reducible refine heap_drew ?_) | (with_reducible refine heap_set_ne ?_ (by simp <;> omega) _)))
  clear hb HB HBa cBa fBa zBa HBr cBr fBr zBr
  have HB := HBn; clear HBn
  have HBa := Lib.hid hBa_; have cBa := cells4 hBa_; have fBa := frozen_of hBa_; have zBa := lt_of_heap hBa_; clear hBa_
  have HBr := Lib.hid hBr_; have cBr := cells4 hBr_; have fBr := frozen_of hBr_; have zBr := lt_of_heap hBr_; clear hBr_
  have HBe := Lib.hid hBe_; have cBe := cells4 hBe_; have fBe := frozen_of hBe_; have zBe := lt_of_heap hBe_; clear hBe_
  have q1 := zBr; have q2 := zBe
  go_wp2
  refine Rg.region_ (n := 38) [0, 0, 3, 0, 15] [1, 1, 1, 1, 0] [13, 14, 15, 16, 17] [[(5, none)], [(5, none)], [(13, some 0), (14, some 1)], [(1, none)], [(15, some 2), (16, some 3)]] 5 (by kernel_rfl) (by kernel_rfl) (by rfl) ?_
  intro W hW
  have hBa_ : W.heap[w.heap.size]? = some (.cells #[.int .u64 s0, .int .u64 s1, .int .u64 s2, .int .u64 s3] 25 (0, 0)) := by rw [hW]; exact (by repeat (first | (with_reducible exact HBa.out) | (with_reducible exact set4 HBa.out _ _ _ _) | (with_reducible refine heap_new' ?_ _; simp; done) | (with_reducible refine keep4 ?_ (by omega) _ _ _ _) | (with_reducible refine heap_old ?_ _) | (with_reducible refine heap_drew ?_) | (with_reducible refine heap_set_ne ?_ (by simp <;> omega) _)))
  have hBr_ : W.heap[w.heap.size + 1]? = some (.cells #[.int .u64 0, .int .u64 0, .int .u64 0, .int .u64 0] 25 (0, 0)) := by rw [hW]; exact (by repeat (first | (with_reducible exact HBr.out) | (with_reducible exact set4 HBr.out _ _ _ _) | (with_reducible refine heap_new' ?_ _; simp; done) | (with_reducible refine keep4 ?_ (by omega) _ _ _ _) | (with_reducible refine heap_old ?_ _) | (with_reducible refine heap_drew ?_) | (with_reducible refine heap_set_ne ?_ (by simp <;> omega) _)))
  have hBe_ : W.heap[wa.heap.size]? = some (.cells #[.int .u64 18446744073709551614, .int .u64 18446744073709551615, .int .u64 18446744073709551615, .int .u64 1152921504606846975] 25 (0, 0)) := by rw [hW]; exact (by repeat (first | (with_reducible exact HBe.out) | (with_reducible exact set4 HBe.out _ _ _ _) | (with_reducible refine heap_new' ?_ _; simp; done) | (with_reducible refine keep4 ?_ (by omega) _ _ _ _) | (with_reducible refine heap_old ?_ _) | (with_reducible refine heap_drew ?_) | (with_reducible refine heap_set_ne ?_ (by simp <;> omega) _)))
  have hBo_ : W.heap[wb.heap.size]? = some (.cells #[.int .u64 t0, .int .u64 t1, .int .u64 t2, .int .u64 t3] 25 (0, 0)) := by rw [hW]; exact (by repeat (first | (with_reducible refine heap_new' ?_ _; simp; done) | (with_reducible refine keep4 ?_ (by omega) _ _ _ _) | (with_reducible refine heap_old ?_ _) | (with_reducible refine heap_drew ?_) | (with_reducible refine heap_set_ne ?_ (by simp <;> omega) _)))
  have HB0 : Below w.heap.size w W := by rw [hW]; have hB0 := HB.out; have hS0 := hB0.size; first | exact hB0.drew | exact (set4_below hB0 (by omega) _ _ _ _).drew | go_grown
  change Rg.Chain' _ _ _ _ _ [(0, 1, 13, [(5, none)]), (1, 1, 14, [(5, none)]), (2, 1, 15, [(13, some 0), (14, some 1)]), (3, 1, 16, [(1, none)]), (4, 0, 17, [(15, some 2), (16, some 3)])] [(0, 1, 13, [(5, none)]), (1, 1, 14, [(5, none)]), (2, 1, 15, [(13, some 0), (14, some 1)]), (3, 1, 16, [(1, none)]), (4, 0, 17, [(15, some 2), (16, some 3)])] _
  apply Rg.ch_def (by rfl) (fun a w1 _ => Rg.wanted_none (by rfl))
  · rintro a w1 hb ⟨e5, -⟩
    conv at e5 => rhs; whnf
    have n5 := e5
    simp only [Act.eval, Array.getD_eq_getD_getElem?] at n5
    apply Rg.gives_value
    · conv => lhs; simp [go_sem, n5, cells4 (heap_keep' hb hBa_), cells4 (heap_keep' hb hBr_), cells4 (heap_keep' hb hBe_), cells4 (heap_keep' hb hBo_)]
    · exact ⟨rfl, Below.refl _ _⟩
  apply Rg.ch_def (by rfl) (fun a w1 _ => Rg.wanted_none (by rfl))
  · rintro a w1 hb ⟨e5, -⟩
    conv at e5 => rhs; whnf
    have n5 := e5
    simp only [Act.eval, Array.getD_eq_getD_getElem?] at n5
    apply Rg.gives_value
    · conv => lhs; simp [go_sem, n5, cells4 (heap_keep' hb hBa_), cells4 (heap_keep' hb hBr_), cells4 (heap_keep' hb hBe_), cells4 (heap_keep' hb hBo_)]
    · exact ⟨rfl, Below.refl _ _⟩
  apply Rg.ch_def (by rfl) (fun a w1 _ => Rg.wanted_none (by rfl))
  · rintro a w1 hb ⟨e13, e14, -⟩
    replace e13 : a.eval (.tmp 13) = _ := e13
    replace e14 : a.eval (.tmp 14) = _ := e14
    apply Rg.gives_enter
    · apply run_call Try.func48 (by kernel_rfl) rfl _ (by rfl)
      conv => lhs; simp only [List.map_toArray, List.map_cons, List.map_nil, eval_const_, eval_global_, e13, e14]
    · refine (FM.out _).mono ?_
      rintro e w2 ⟨rfl, hb2⟩
      exact ⟨_, rfl, rfl, hb2⟩
  apply Rg.ch_def (by rfl) (fun a w1 _ => Rg.wanted_none (by rfl))
  · rintro a w1 hb ⟨e1, -⟩
    conv at e1 => rhs; whnf
    have n1 := e1
    simp only [Act.eval, Array.getD_eq_getD_getElem?] at n1
    apply Rg.gives_value
    · conv => lhs; simp [go_sem, n1, cells4 (heap_keep' hb hBa_), cells4 (heap_keep' hb hBr_), cells4 (heap_keep' hb hBe_), cells4 (heap_keep' hb hBo_)]
    · exact ⟨rfl, Below.refl _ _⟩
  apply Rg.ch_pure (by rfl)
  · rintro a w1 ⟨e15, e16, -⟩
    replace e15 : a.eval (.tmp 15) = _ := e15
    have n15 := e15
    simp only [Act.eval, Array.getD_eq_getD_getElem?] at n15
    replace e16 : a.eval (.tmp 16) = _ := e16
    have n16 := e16
    simp only [Act.eval, Array.getD_eq_getD_getElem?] at n16
    apply Rg.yields_run (Rg.wanted_none (by rfl))
    intro w2
    conv => lhs; simp [go_sem, n15, n16, E1]
  intro w1 hb1
  rintro _ rfl _ rfl _ rfl _ rfl _ rfl
  change Go.wpList _ _ _ _ _ _
  simp only [List.drop_succ_cons, List.drop_zero, List.drop_nil, Act.put, List.setIfInBounds_toArray, List.set_cons_succ, List.set_cons_zero]
  change Go.NoPanic _ _ _ _
  refine NoPanic.normal ?_
  have HBn : Hid (Below w.heap.size w w1) := Lib.hid (below_call HB0 HB0.size hb1)
  have hBa__ := heap_keep' hb1 hBa_
  have hBr__ := heap_keep' hb1 hBr_
  have hBe__ := heap_keep' hb1 hBe_
  have hBo__ := heap_keep' hb1 hBo_
  clear hb1 HB0 HB hBa_ HBa cBa fBa zBa hBr_ HBr cBr fBr zBr hBe_ HBe cBe fBe zBe hBo_
  clear hW
  obtain ⟨wc, rfl⟩ : ∃ x : World, x = w1 := ⟨_, rfl⟩
  have HB := HBn; clear HBn
  have HBa := Lib.hid hBa__; have cBa := cells4 hBa__; have fBa := frozen_of hBa__; have zBa := lt_of_heap hBa__; clear hBa__
  have HBr := Lib.hid hBr__; have cBr := cells4 hBr__; have fBr := frozen_of hBr__; have zBr := lt_of_heap hBr__; clear hBr__
  have HBe := Lib.hid hBe__; have cBe := cells4 hBe__; have fBe := frozen_of hBe__; have zBe := lt_of_heap hBe__; clear hBe__
  have HBo := Lib.hid hBo__; have cBo := cells4 hBo__; have fBo := frozen_of hBo__; have zBo := lt_of_heap hBo__; clear hBo__
  have q3 := zBo
  go_wp2
  refine Rg.region_ (n := 38) [0, 0, 0, 6, 15, 31] [1, 0, 1, 1, 1, 2] [19, 20, 21, 22, 23, 0] [[(5, none)], [], [(6, none)], [(20, some 1), (21, some 2)], [(19, some 0), (22, some 3)], [(5, none), (23, some 4)]] 5 (by kernel_rfl) (by kernel_rfl) (by rfl) ?_
  intro W hW
  have hBa_ : W.heap[w.heap.size]? = some (.cells #[.int .u64 s0, .int .u64 s1, .int .u64 s2, .int .u64 s3] 25 (0, 0)) := by rw [hW]; exact (by repeat (first | (with_reducible exact HBa.out) | (with_reducible exact set4 HBa.out _ _ _ _) | (with_reducible refine heap_new' ?_ _; simp; done) | (with_reducible refine keep4 ?_ (by omega) _ _ _ _) | (with_reducible refine heap_old ?_ _) | (with_reducible refine heap_drew ?_) | (with_reducible refine heap_set_ne ?_ (by simp <;> omega) _)))
  have hBr_ : W.heap[w.heap.size + 1]? = some (.cells #[.int .u64 0, .int .u64 0, .int .u64 0, .int .u64 0] 25 (0, 0)) := by rw [hW]; exact (by repeat (first | (with_reducible exact HBr.out) | (with_reducible exact set4 HBr.out _ _ _ _) | (with_reducible refine heap_new' ?_ _; simp; done) | (with_reducible refine keep4 ?_ (by omega) _ _ _ _) | (with_reducible refine heap_old ?_ _) | (with_reducible refine heap_drew ?_) | (with_reducible refine heap_set_ne ?_ (by simp <;> omega) _)))
  have hBe_ : W.heap[wa.heap.size]? = some (.cells #[.int .u64 18446744073709551614, .int .u64 18446744073709551615, .int .u64 18446744073709551615, .int .u64 1152921504606846975] 25 (0, 0)) := by rw [hW]; exact (by repeat (first | (with_reducible exact HBe.out) | (with_reducible exact set4 HBe.out _ _ _ _) | (with_reducible refine heap_new' ?_ _; simp; done) | (with_reducible refine keep4 ?_ (by omega) _ _ _ _) | (with_reducible refine heap_old ?_ _) | (with_reducible refine heap_drew ?_) | (with_reducible refine heap_set_ne ?_ (by simp <;> omega) _)))
  have hBo_ : W.heap[wb.heap.size]? = some (.cells #[.int .u64 t0, .int .u64 t1, .int .u64 t2, .int .u64 t3] 25 (0, 0)) := by rw [hW]; exact (by repeat (first | (with_reducible exact HBo.out) | (with_reducible exact set4 HBo.out _ _ _ _) | (with_reducible refine heap_new' ?_ _; simp; done) | (with_reducible refine keep4 ?_ (by omega) _ _ _ _) | (with_reducible refine heap_old ?_ _) | (with_reducible refine heap_drew ?_) | (with_reducible refine heap_set_ne ?_ (by simp <;> omega) _)))
  have hBq_ : W.heap[wc.heap.size]? = some (.cells #[.int .u64 18446744073709551611, .int .u64 18446744073709551615, .int .u64 18446744073709551615, .int .u64 2305843009213693951] 25 (0, 0)) := by rw [hW]; exact (by repeat (first | (with_reducible refine heap_new' ?_ _; simp; done) | (with_reducible refine keep4 ?_ (by omega) _ _ _ _) | (with_reducible refine heap_old ?_ _) | (with_reducible refine heap_drew ?_) | (with_reducible refine heap_set_ne ?_ (by simp <;> omega) _)))
  have HB0 : Below w.heap.size w W := by rw [hW]; have hB0 := HB.out; have hS0 := hB0.size; first | exact hB0.drew | exact (set4_below hB0 (by omega) _ _ _ _).drew | go_grown
  change Rg.Chain' _ _ _ _ _ [(0, 1, 19, [(5, none)]), (1, 0, 20, []), (2, 1, 21, [(6, none)]), (3, 1, 22, [(20, some 1), (21, some 2)]), (4, 1, 23, [(19, some 0), (22, some 3)])] [(0, 1, 19, [(5, none)]), (1, 0, 20, []), (2, 1, 21, [(6, none)]), (3, 1, 22, [(20, some 1), (21, some 2)]), (4, 1, 23, [(19, some 0), (22, some 3)])] _
  apply Rg.ch_def (by rfl) (fun a w1 _ => Rg.wanted_none (by rfl))
  · rintro a w1 hb ⟨e5, -⟩
    conv at e5 => rhs; whnf
    have n5 := e5
    simp only [Act.eval, Array.getD_eq_getD_getElem?] at n5
    apply Rg.gives_value
    · conv => lhs; simp [go_sem, n5, cells4 (heap_keep' hb hBa_), cells4 (heap_keep' hb hBr_), cells4 (heap_keep' hb hBe_), cells4 (heap_keep' hb hBo_), cells4 (heap_keep' hb hBq_)]
    · exact ⟨rfl, Below.refl _ _⟩
  apply Rg.ch_pure (by rfl)
  · rintro a w1 -
    apply Rg.yields_run (Rg.wanted_none (by rfl))
    intro w2
    conv => lhs; simp [go_sem]
  apply Rg.ch_def (by rfl) (fun a w1 _ => Rg.wanted_none (by rfl))
  · rintro a w1 hb ⟨e6, -⟩
    conv at e6 => rhs; whnf
    have n6 := e6
    simp only [Act.eval, Array.getD_eq_getD_getElem?] at n6
    apply Rg.gives_value
    · conv => lhs; simp [go_sem, n6, cells4 (heap_keep' hb hBa_), cells4 (heap_keep' hb hBr_), cells4 (heap_keep' hb hBe_), cells4 (heap_keep' hb hBo_), cells4 (heap_keep' hb hBq_)]
    · exact ⟨rfl, Below.refl _ _⟩
  apply Rg.ch_def (by rfl) (fun a w1 _ => Rg.wanted_none (by rfl))
  · rintro a w1 hb ⟨e20, e21, -⟩
    replace e20 : a.eval (.tmp 20) = _ := e20
    replace e21 : a.eval (.tmp 21) = _ := e21
    apply Rg.gives_enter
    · apply run_call Try.func34 (by kernel_rfl) rfl _ (by rfl)
      conv => lhs; simp only [List.map_toArray, List.map_cons, List.map_nil, eval_const_, eval_global_, e20, e21]
    · refine (FI.out _).mono ?_
      rintro e w2 ⟨rfl, hb2⟩
      exact ⟨_, rfl, rfl, hb2⟩
  apply Rg.ch_def (by rfl) (fun a w1 _ => Rg.wanted_none (by rfl))
  · rintro a w1 hb ⟨e19, e22, -⟩
    replace e19 : a.eval (.tmp 19) = _ := e19
    replace e22 : a.eval (.tmp 22) = _ := e22
    apply Rg.gives_enter
    · apply run_call Try.func48 (by kernel_rfl) rfl _ (by rfl)
      conv => lhs; simp only [List.map_toArray, List.map_cons, List.map_nil, eval_const_, eval_global_, e19, e22]
    · refine (FU.out _).mono ?_
      rintro e w2 ⟨rfl, hb2⟩
      exact ⟨_, rfl, rfl, hb2⟩
  intro w1 hb1
  rintro _ rfl _ rfl _ rfl _ rfl _ rfl
  change Go.wpList _ _ _ _ _ _
  simp only [List.drop_succ_cons, List.drop_zero, List.drop_nil, Act.put, List.setIfInBounds_toArray, List.set_cons_succ, List.set_cons_zero]
  have HBn : Hid (Below w.heap.size w w1) := Lib.hid (below_call HB0 HB0.size hb1)
  have hBa__ := heap_keep' hb1 hBa_
  have hBr__ := heap_keep' hb1 hBr_
  have hBe__ := heap_keep' hb1 hBe_
  have hBo__ := heap_keep' hb1 hBo_
  have hBq__ := heap_keep' hb1 hBq_
  clear hb1 HB0 HB hBa_ HBa cBa fBa zBa hBr_ HBr cBr fBr zBr hBe_ HBe cBe fBe zBe hBo_ HBo cBo fBo zBo hBq_
  clear hW
  obtain ⟨wd, rfl⟩ : ∃ x : World, x = w1 := ⟨_, rfl⟩
  have HB := HBn; clear HBn
  have HBa := Lib.hid hBa__; have cBa := cells4 hBa__; have fBa := frozen_of hBa__; have zBa := lt_of_heap hBa__; clear hBa__
  have HBr := Lib.hid hBr__; have cBr := cells4 hBr__; have fBr := frozen_of hBr__; have zBr := lt_of_heap hBr__; clear hBr__
  have HBe := Lib.hid hBe__; have cBe := cells4 hBe__; have fBe := frozen_of hBe__; have zBe := lt_of_heap hBe__; clear hBe__
  have HBo := Lib.hid hBo__; have cBo := cells4 hBo__; have fBo := frozen_of hBo__; have zBo := lt_of_heap hBo__; clear hBo__
  have HBq := Lib.hid hBq__; have cBq := cells4 hBq__; have fBq := frozen_of hBq__; have zBq := lt_of_heap hBq__; clear hBq__
  go_wp2
  refine NoPanic.normal ?_
  go_wp2
  refine Rg.region_ (n := 38) [0, 0, 3, 0, 15] [1, 1, 1, 1, 0] [24, 25, 26, 27, 28] [[(5, none)], [(5, none)], [(24, some 0), (25, some 1)], [(1, none)], [(26, some 2), (27, some 3)]] 5 (by kernel_rfl) (by kernel_rfl) (by rfl) ?_
  intro W hW
  have hBa_ : W.heap[w.heap.size]? = some (.cells #[.int .u64 s0, .int .u64 s1, .int .u64 s2, .int .u64 s3] 25 (0, 0)) := by rw [hW]; exact (by repeat (first | (with_reducible exact HBa.out) | (with_reducible exact set4 HBa.out _ _ _ _) | (with_reducible refine heap_new' ?_ _; simp; done) | (with_reducible refine keep4 ?_ (by omega) _ _ _ _) | (with_reducible refine heap_old ?_ _) | (with_reducible refine heap_drew ?_) | (with_reducible refine heap_set_ne ?_ (by simp <;> omega) _)))
  have hBr_ : W.heap[w.heap.size + 1]? = some (.cells #[.int .u64 0, .int .u64 0, .int .u64 0, .int .u64 0] 25 (0, 0)) := by rw [hW]; exact (by repeat (first | (with_reducible exact HBr.out) | (with_reducible exact set4 HBr.out _ _ _ _) | (with_reducible refine heap_new' ?_ _; simp; done) | (with_reducible refine keep4 ?_ (by omega) _ _ _ _) | (with_reducible refine heap_old ?_ _) | (with_reducible refine heap_drew ?_) | (with_reducible refine heap_set_ne ?_ (by simp <;> omega) _)))
  have hBe_ : W.heap[wa.heap.size]? = some (.cells #[.int .u64 18446744073709551614, .int .u64 18446744073709551615, .int .u64 18446744073709551615, .int .u64 1152921504606846975] 25 (0, 0)) := by rw [hW]; exact (by repeat (first | (with_reducible exact HBe.out) | (with_reducible exact set4 HBe.out _ _ _ _) | (with_reducible refine heap_new' ?_ _; simp; done) | (with_reducible refine keep4 ?_ (by omega) _ _ _ _) | (with_reducible refine heap_old ?_ _) | (with_reducible refine heap_drew ?_) | (with_reducible refine heap_set_ne ?_ (by simp <;> omega) _)))
  have hBo_ : W.heap[wb.heap.size]? = some (.cells #[.int .u64 u0, .int .u64 u1, .int .u64 u2, .int .u64 u3] 25 (0, 0)) := by rw [hW]; exact (by repeat (first | (with_reducible exact HBo.out) | (with_reducible exact set4 HBo.out _ _ _ _) | (with_reducible refine heap_new' ?_ _; simp; done) | (with_reducible refine keep4 ?_ (by omega) _ _ _ _) | (with_reducible refine heap_old ?_ _) | (with_reducible refine heap_drew ?_) | (with_reducible refine heap_set_ne ?_ (by simp <;> omega) _)))
  have hBq_ : W.heap[wc.heap.size]? = some (.cells #[.int .u64 18446744073709551611, .int .u64 18446744073709551615, .int .u64 18446744073709551615, .int .u64 2305843009213693951] 25 (0, 0)) := by rw [hW]; exact (by repeat (first | (with_reducible exact HBq.out) | (with_reducible exact set4 HBq.out _ _ _ _) | (with_reducible refine heap_new' ?_ _; simp; done) | (with_reducible refine keep4 ?_ (by omega) _ _ _ _) | (with_reducible refine heap_old ?_ _) | (with_reducible refine heap_drew ?_) | (with_reducible refine heap_set_ne ?_ (by simp <;> omega) _)))
  have HB0 : Below w.heap.size w W := by rw [hW]; have hB0 := HB.out; have hS0 := hB0.size; first | exact hB0.drew | exact (set4_below hB0 (by omega) _ _ _ _).drew | go_grown
  change Rg.Chain' _ _ _ _ _ [(0, 1, 24, [(5, none)]), (1, 1, 25, [(5, none)]), (2, 1, 26, [(24, some 0), (25, some 1)]), (3, 1, 27, [(1, none)]), (4, 0, 28, [(26, some 2), (27, some 3)])] [(0, 1, 24, [(5, none)]), (1, 1, 25, [(5, none)]), (2, 1, 26, [(24, some 0), (25, some 1)]), (3, 1, 27, [(1, none)]), (4, 0, 28, [(26, some 2), (27, some 3)])] _
  apply Rg.ch_def (by rfl) (fun a w1 _ => Rg.wanted_none (by rfl))
  · rintro a w1 hb ⟨e5, -⟩
    conv at e5 => rhs; whnf
    have n5 := e5
    simp only [Act.eval, Array.getD_eq_getD_getElem?] at n5
    apply Rg.gives_value
    · conv => lhs; simp [go_sem, n5, cells4 (heap_keep' hb hBa_), cells4 (heap_keep' hb hBr_), cells4 (heap_keep' hb hBe_), cells4 (heap_keep' hb hBo_), cells4 (heap_keep' hb hBq_)]
    · exact ⟨rfl, Below.refl _ _⟩
  apply Rg.ch_def (by rfl) (fun a w1 _ => Rg.wanted_none (by rfl))
  · rintro a w1 hb ⟨e5, -⟩
    conv at e5 => rhs; whnf
    have n5 := e5
    simp only [Act.eval, Array.getD_eq_getD_getElem?] at n5
    apply Rg.gives_value
    · conv => lhs; simp [go_sem, n5, cells4 (heap_keep' hb hBa_), cells4 (heap_keep' hb hBr_), cells4 (heap_keep' hb hBe_), cells4 (heap_keep' hb hBo_), cells4 (heap_keep' hb hBq_)]
    · exact ⟨rfl, Below.refl _ _⟩
  apply Rg.ch_def (by rfl) (fun a w1 _ => Rg.wanted_none (by rfl))
  · rintro a w1 hb ⟨e24, e25, -⟩
    replace e24 : a.eval (.tmp 24) = _ := e24
    replace e25 : a.eval (.tmp 25) = _ := e25
    apply Rg.gives_enter
    · apply run_call Try.func48 (by kernel_rfl) rfl _ (by rfl)
      conv => lhs; simp only [List.map_toArray, List.map_cons, List.map_nil, eval_const_, eval_global_, e24, e25]
    · refine (FK.out _).mono ?_
      rintro e w2 ⟨rfl, hb2⟩
      exact ⟨_, rfl, rfl, hb2⟩
  apply Rg.ch_def (by rfl) (fun a w1 _ => Rg.wanted_none (by rfl))
  · rintro a w1 hb ⟨e1, -⟩
    conv at e1 => rhs; whnf
    have n1 := e1
    simp only [Act.eval, Array.getD_eq_getD_getElem?] at n1
    apply Rg.gives_value
    · conv => lhs; simp [go_sem, n1, cells4 (heap_keep' hb hBa_), cells4 (heap_keep' hb hBr_), cells4 (heap_keep' hb hBe_), cells4 (heap_keep' hb hBo_), cells4 (heap_keep' hb hBq_)]
    · exact ⟨rfl, Below.refl _ _⟩
  apply Rg.ch_pure (by rfl)
  · rintro a w1 ⟨e26, e27, -⟩
    replace e26 : a.eval (.tmp 26) = _ := e26
    have n26 := e26
    simp only [Act.eval, Array.getD_eq_getD_getElem?] at n26
    replace e27 : a.eval (.tmp 27) = _ := e27
    have n27 := e27
    simp only [Act.eval, Array.getD_eq_getD_getElem?] at n27
    apply Rg.yields_run (Rg.wanted_none (by rfl))
    intro w2
    conv => lhs; simp [go_sem, n26, n27, E2]
  intro w1 hb1
  rintro _ rfl _ rfl _ rfl _ rfl _ rfl
  change Go.wpList _ _ _ _ _ _
  simp only [List.drop_succ_cons, List.drop_zero, List.drop_nil, Act.put, List.setIfInBounds_toArray, List.set_cons_succ, List.set_cons_zero]
  change Go.NoPanic _ _ _ _
  refine NoPanic.normal ?_
  have HBn : Hid (Below w.heap.size w w1) := Lib.hid (below_call HB0 HB0.size hb1)
  have hBa__ := heap_keep' hb1 hBa_
  have hBr__ := heap_keep' hb1 hBr_
  have hBe__ := heap_keep' hb1 hBe_
  have hBo__ := heap_keep' hb1 hBo_
  have hBq__ := heap_keep' hb1 hBq_
  clear hb1 HB0 HB hBa_ HBa cBa fBa zBa hBr_ HBr cBr fBr zBr hBe_ HBe cBe fBe zBe hBo_ HBo cBo fBo zBo hBq_ HBq cBq fBq zBq
  clear hW
  obtain ⟨we, rfl⟩ : ∃ x : World, x = w1 := ⟨_, rfl⟩
  have HB := HBn; clear HBn
  have HBa := Lib.hid hBa__; have cBa := cells4 hBa__; have fBa := frozen_of hBa__; have zBa := lt_of_heap hBa__; clear hBa__
  have HBr := Lib.hid hBr__; have cBr := cells4 hBr__; have fBr := frozen_of hBr__; have zBr := lt_of_heap hBr__; clear hBr__
  have HBe := Lib.hid hBe__; have cBe := cells4 hBe__; have fBe := frozen_of hBe__; have zBe := lt_of_heap hBe__; clear hBe__
  have HBo := Lib.hid hBo__; have cBo := cells4 hBo__; have fBo := frozen_of hBo__; have zBo := lt_of_heap hBo__; clear hBo__
  have HBq := Lib.hid hBq__; have cBq := cells4 hBq__; have fBq := frozen_of hBq__; have zBq := lt_of_heap hBq__; clear hBq__
  go_wp2
  have hK := set4 HBr.out (.int .u64 0) (.int .u64 0) (.int .u64 0) (.int .u64 0)
  have hL : Below w.heap.size w _ := set4_below (b := w.heap.size + 1) HB.out (by omega) (.int .u64 0) (.int .u64 0) (.int .u64 0) (.int .u64 0)
  obtain ⟨v, hv⟩ : ∃ x, x = ((((we.setCell ⟨w.heap.size + 1, 0, none⟩ (.int .u64 0)).setCell ⟨w.heap.size + 1, 1, none⟩ (.int .u64 0)).setCell ⟨w.heap.size + 1, 2, none⟩ (.int .u64 0)).setCell ⟨w.heap.size + 1, 3, none⟩ (.int .u64 0)) := ⟨_, rfl⟩
  rw [← hv] at hK hL ⊢
  clear hv
  have hQ := cells4 hK
  exact bodyPost_ret (v := .tuple #[.agg #[.int .u64 0, .int .u64 0, .int .u64 0, .int .u64 0], .bool false]) (by simp [results, Try.results36, go_sem, hQ]) rfl ⟨rfl, hL⟩

end Go.Proofs.Ytldnjbpcdojffaa
