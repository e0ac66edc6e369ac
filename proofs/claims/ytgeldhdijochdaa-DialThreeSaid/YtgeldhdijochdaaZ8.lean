/- @@NUM 26 The walk of residue's Root. Conditions: words are below 2^64. -/
import Derived.Test.YtgeldhdijochdaaZ7
import Derived.Test.YtgeldhdijochdaaZ5
import Derived.Test.YtgeldhdijochdaaZ6
set_option linter.unusedSectionVars false
namespace Go.Proofs.Ytgeldhdijochdaa
set_option linter.unusedVariables false
set_option linter.unusedSimpArgs false
open Go Go.RowKit
open Pl (V V8 W4 T256 pP)
attribute [local go_sem ↓] eql_num neq_num


set_option maxHeartbeats 4000000 in
theorem root_B0 (a0 a1 a2 a3 s0 s1 s2 s3 t0 t1 t2 t3 m0 m1 m2 m3 : Nat) (FS : Hid (∀ w : World, Calls Try.prog 48 #[.agg #[.int .u64 a0, .int .u64 a1, .int .u64 a2, .int .u64 a3]] w fun e w' => e = .returned (.agg #[.int .u64 s0, .int .u64 s1, .int .u64 s2, .int .u64 s3]) ∧ Below w.heap.size w w')) (FP : Hid (∀ w : World, Calls Try.prog 59 #[.agg #[.int .u64 s0, .int .u64 s1, .int .u64 s2, .int .u64 s3], .agg #[.int .u64 18446744073709551614, .int .u64 18446744073709551615, .int .u64 18446744073709551615, .int .u64 1152921504606846975]] w fun e w' => e = .returned (.agg #[.int .u64 t0, .int .u64 t1, .int .u64 t2, .int .u64 t3]) ∧ Below w.heap.size w w')) (FM : Hid (∀ w : World, Calls Try.prog 46 #[.agg #[.int .u64 t0, .int .u64 t1, .int .u64 t2, .int .u64 t3], .agg #[.int .u64 t0, .int .u64 t1, .int .u64 t2, .int .u64 t3]] w fun e w' => e = .returned (.agg #[.int .u64 m0, .int .u64 m1, .int .u64 m2, .int .u64 m3]) ∧ Below w.heap.size w w')) (E1 : eqL [(m0 : Int), m1, m2, m3] [(s0 : Int), s1, s2, s3] = false) (i0 i1 i2 i3 u0 u1 u2 u3 k0 k1 k2 k3 : Nat) (FI : Hid (∀ w : World, Calls Try.prog 59 #[.agg #[.int .u64 2, .int .u64 0, .int .u64 0, .int .u64 0], .agg #[.int .u64 18446744073709551611, .int .u64 18446744073709551615, .int .u64 18446744073709551615, .int .u64 2305843009213693951]] w fun e w' => e = .returned (.agg #[.int .u64 i0, .int .u64 i1, .int .u64 i2, .int .u64 i3]) ∧ Below w.heap.size w w')) (FU : Hid (∀ w : World, Calls Try.prog 46 #[.agg #[.int .u64 t0, .int .u64 t1, .int .u64 t2, .int .u64 t3], .agg #[.int .u64 i0, .int .u64 i1, .int .u64 i2, .int .u64 i3]] w fun e w' => e = .returned (.agg #[.int .u64 u0, .int .u64 u1, .int .u64 u2, .int .u64 u3]) ∧ Below w.heap.size w w')) (FK : Hid (∀ w : World, Calls Try.prog 46 #[.agg #[.int .u64 u0, .int .u64 u1, .int .u64 u2, .int .u64 u3], .agg #[.int .u64 u0, .int .u64 u1, .int .u64 u2, .int .u64 u3]] w fun e w' => e = .returned (.agg #[.int .u64 k0, .int .u64 k1, .int .u64 k2, .int .u64 k3]) ∧ Below w.heap.size w w')) (E2 : eqL [(k0 : Int), k1, k2, k3] [(s0 : Int), s1, s2, s3] = true) (EB : bits .and .u64 (u0 : Int) 1 = 0) (w : World) : Calls Try.prog 58 #[.agg #[.int .u64 a0, .int .u64 a1, .int .u64 a2, .int .u64 a3]] w fun e w' => e = .returned (.tuple #[.agg #[.int .u64 u0, .int .u64 u1, .int .u64 u2, .int .u64 u3], .bool true]) ∧ Below w.heap.size w w' := by
  go_enter Try.func58, Try.ntmps58
  go_wp2_with (fail)
  go_at_call 48
  refine (FS.out _).mono ?_
  rintro e wa ⟨rfl, hb⟩
  have HBn : Hid (Below w.heap.size w wa) := Lib.hid ((fun (h : Below _ _ _) => below_call h h.size hb) (by first | go_grown))
  have hBa_ : wa.heap[w.heap.size]? = some (.cells #[.int .u64 a0, .int .u64 a1, .int .u64 a2, .int .u64 a3] 26 (0, 0)) := heap_keep' hb (by repeat (first | (with_reducible refine heap_new' ?_ _; simp; done) | (with_reducible refine keep4 ?_ (by omega) _ _ _ _) | (with_reducible refine heap_old ?_ _) | (with_reducible refine heap_drew ?_) | (with_reducible refine heap_set_ne ?_ (by simp <;> omega) _)))
  have hBr_ : wa.heap[w.heap.size + 1]? = some (.cells #[.int .u64 0, .int .u64 0, .int .u64 0, .int .u64 0] 26 (0, 0)) := heap_keep' hb (by repeat (first | (with_reducible refine heap_new' ?_ _; simp; done) | (with_reducible refine keep4 ?_ (by omega) _ _ _ _) | (with_reducible refine heap_old ?_ _) | (with_reducible refine heap_drew ?_) | (with_reducible refine heap_set_ne ?_ (by simp <;> omega) _)))
  clear hb
  have HB := HBn; clear HBn
  have HBa := Lib.hid hBa_; have cBa := cells4 hBa_; have fBa := frozen_of hBa_; have zBa := lt_of_heap hBa_; clear hBa_
  have HBr := Lib.hid hBr_; have cBr := cells4 hBr_; have fBr := frozen_of hBr_; have zBr := lt_of_heap hBr_; clear hBr_
  go_wp2_with (fail)
  go_at_call 59
  refine (FP.out _).mono ?_
  rintro e wb ⟨rfl, hb⟩
  have HBn : Hid (Below w.heap.size w wb) := Lib.hid ((fun (h : Below _ _ _) => below_call h h.size hb) (by have hB0 := HB.out; have hS0 := hB0.size; first | (with_reducible exact hB0) | (with_reducible exact set4_below hB0 (by omega) _ _ _ _) | (with_reducible exact set4_below (set4_below hB0 (by omega) _ _ _ _) (by omega) _ _ _ _) | (with_reducible exact set4_below (set4_below (set4_below (set4_below hB0 (by omega) _ _ _ _) (by omega) _ _ _ _) (by omega) _ _ _ _) (by omega) _ _ _ _) | go_grown))
  have hBa_ : wb.heap[w.heap.size]? = some (.cells #[.int .u64 s0, .int .u64 s1, .int .u64 s2, .int .u64 s3] 26 (0, 0)) := heap_keep' hb (by repeat (first | (with_reducible exact HBa.out) | (with_reducible exact set4 HBa.out _ _ _ _) | (with_reducible apply set4) | (with_reducible refine heap_new' ?_ _; simp; done) | (with_reducible refine keep4 ?_ (by omega) _ _ _ _) | (with_reducible refine heap_old ?_ _) | (with_reducible refine heap_drew ?_) | (with_reducible refine heap_set_ne ?_ (by simp <;> omega) _)))
  have hBr_ : wb.heap[w.heap.size + 1]? = some (.cells #[.int .u64 0, .int .u64 0, .int .u64 0, .int .u64 0] 26 (0, 0)) := heap_keep' hb (by repeat (first | (with_reducible exact HBr.out) | (with_reducible exact set4 HBr.out _ _ _ _) | (with_reducible apply set4) | (with_reducible refine heap_new' ?_ _; simp; done) | (with_reducible refine keep4 ?_ (by omega) _ _ _ _) | (with_reducible refine heap_old ?_ _) | (with_reducible refine heap_drew ?_) | (with_reducible refine heap_set_ne ?_ (by simp <;> omega) _)))
  have hBe_ : wb.heap[wa.heap.size]? = some (.cells #[.int .u64 18446744073709551614, .int .u64 18446744073709551615, .int .u64 18446744073709551615, .int .u64 1152921504606846975] 26 (0, 0)) := heap_keep' hb (by repeat (first | (with_reducible refine heap_new' ?_ _; simp; done) | (with_reducible refine keep4 ?_ (by omega) _ _ _ _) | (with_reducible refine heap_old ?_ _) | (with_reducible refine heap_drew ?_) | (with_reducible refine heap_set_ne ?_ (by simp <;> omega) _)))
  clear hb HB HBa cBa fBa zBa HBr cBr fBr zBr
  have HB := HBn; clear HBn
  have HBa := Lib.hid hBa_; have cBa := cells4 hBa_; have fBa := frozen_of hBa_; have zBa := lt_of_heap hBa_; clear hBa_
  have HBr := Lib.hid hBr_; have cBr := cells4 hBr_; have fBr := frozen_of hBr_; have zBr := lt_of_heap hBr_; clear hBr_
  have HBe := Lib.hid hBe_; have cBe := cells4 hBe_; have fBe := frozen_of hBe_; have zBe := lt_of_heap hBe_; clear hBe_
  have q1 := zBr; have q2 := zBe
  go_wp2
  refine Rg.region_ (n := 38) [0, 0, 3, 0, 15] [1, 1, 1, 1, 0] [13, 14, 15, 16, 17] [[(5, none)], [(5, none)], [(13, some 0), (14, some 1)], [(1, none)], [(15, some 2), (16, some 3)]] 5 (by kernel_rfl) (by kernel_rfl) (by rfl) ?_
  intro W hW
  have hBa_ : W.heap[w.heap.size]? = some (.cells #[.int .u64 s0, .int .u64 s1, .int .u64 s2, .int .u64 s3] 26 (0, 0)) := by rw [hW]; exact (by repeat (first | (with_reducible exact HBa.out) | (with_reducible exact set4 HBa.out _ _ _ _) | (with_reducible apply set4) | (with_reducible refine heap_new' ?_ _; simp; done) | (with_reducible refine keep4 ?_ (by omega) _ _ _ _) | (with_reducible refine heap_old ?_ _) | (with_reducible refine heap_drew ?_) | (with_reducible refine heap_set_ne ?_ (by simp <;> omega) _)))
  have hBr_ : W.heap[w.heap.size + 1]? = some (.cells #[.int .u64 0, .int .u64 0, .int .u64 0, .int .u64 0] 26 (0, 0)) := by rw [hW]; exact (by repeat (first | (with_reducible exact HBr.out) | (with_reducible exact set4 HBr.out _ _ _ _) | (with_reducible apply set4) | (with_reducible refine heap_new' ?_ _; simp; done) | (with_reducible refine keep4 ?_ (by omega) _ _ _ _) | (with_reducible refine heap_old ?_ _) | (with_reducible refine heap_drew ?_) | (with_reducible refine heap_set_ne ?_ (by simp <;> omega) _)))
  have hBe_ : W.heap[wa.heap.size]? = some (.cells #[.int .u64 18446744073709551614, .int .u64 18446744073709551615, .int .u64 18446744073709551615, .int .u64 1152921504606846975] 26 (0, 0)) := by rw [hW]; exact (by repeat (first | (with_reducible exact HBe.out) | (with_reducible exact set4 HBe.out _ _ _ _) | (with_reducible apply set4) | (with_reducible refine heap_new' ?_ _; simp; done) | (with_reducible refine keep4 ?_ (by omega) _ _ _ _) | (with_reducible refine heap_old ?_ _) | (with_reducible refine heap_drew ?_) | (with_reducible refine heap_set_ne ?_ (by simp <;> omega) _)))
  have hBo_ : W.heap[wb.heap.size]? = some (.cells #[.int .u64 t0, .int .u64 t1, .int .u64 t2, .int .u64 t3] 26 (0, 0)) := by rw [hW]; exact (by repeat (first | (with_reducible refine heap_new' ?_ _; simp; done) | (with_reducible refine keep4 ?_ (by omega) _ _ _ _) | (with_reducible refine heap_old ?_ _) | (with_reducible refine heap_drew ?_) | (with_reducible refine heap_set_ne ?_ (by simp <;> omega) _)))
  have HB0 : Below w.heap.size w W := by rw [hW]; have hB0 := HB.out; have hS0 := hB0.size; first | exact hB0.drew | exact (set4_below hB0 (by omega) _ _ _ _).drew | go_grown
  change Rg.Chain' _ _ _ _ _ [(0, 1, 13, [(5, none)]), (1, 1, 14, [(5, none)]), (2, 1, 15, [(13, some 0), (14, some 1)]), (3, 1, 16, [(1, none)]), (4, 0, 17, [(15, some 2), (16, some 3)])] [(0, 1, 13, [(5, none)]), (1, 1, 14, [(5, none)]), (2, 1, 15, [(13, some 0), (14, some 1)]), (3, 1, 16, [(1, none)]), (4, 0, 17, [(15, some 2), (16, some 3)])] _
  apply Rg.ch_def (by rfl) (fun a w1 _ => Rg.wanted_none (by rfl))
  · rintro a w1 hb ⟨e5, -⟩
    conv at e5 => rhs; whnf
    have n5 := e5
    simp only [Act.eval, Array.getD_eq_getD_getElem?] at n5
    apply Rg.gives_value
    · conv => lhs; simp [go_sem, n5, cells4 (heap_keep' hb hBa_), cells4 (heap_keep' hb hBr_), cells4 (heap_keep' hb hBe_), cells4 (heap_keep' hb hBo_)]
    · exact ⟨rfl, Below.refl _ _⟩
  apply Rg.ch_def (by rfl) (fun a w1 _ => Rg.wanted_none (by rfl))
  · rintro a w1 hb ⟨e5, -⟩
    conv at e5 => rhs; whnf
    have n5 := e5
    simp only [Act.eval, Array.getD_eq_getD_getElem?] at n5
    apply Rg.gives_value
    · conv => lhs; simp [go_sem, n5, cells4 (heap_keep' hb hBa_), cells4 (heap_keep' hb hBr_), cells4 (heap_keep' hb hBe_), cells4 (heap_keep' hb hBo_)]
    · exact ⟨rfl, Below.refl _ _⟩
  apply Rg.ch_def (by rfl) (fun a w1 _ => Rg.wanted_none (by rfl))
  · rintro a w1 hb ⟨e13, e14, -⟩
    replace e13 : a.eval (.tmp 13) = _ := e13
    replace e14 : a.eval (.tmp 14) = _ := e14
    apply Rg.gives_enter
    · apply run_call Try.func46 (by kernel_rfl) rfl _ (by rfl)
      conv => lhs; simp only [List.map_toArray, List.map_cons, List.map_nil, eval_const_, eval_global_, e13, e14]
    · refine (FM.out _).mono ?_
      rintro e w2 ⟨rfl, hb2⟩
      exact ⟨_, rfl, rfl, hb2⟩
  apply Rg.ch_def (by rfl) (fun a w1 _ => Rg.wanted_none (by rfl))
  · rintro a w1 hb ⟨e1, -⟩
    conv at e1 => rhs; whnf
    have n1 := e1
    simp only [Act.eval, Array.getD_eq_getD_getElem?] at n1
    apply Rg.gives_value
    · conv => lhs; simp [go_sem, n1, cells4 (heap_keep' hb hBa_), cells4 (heap_keep' hb hBr_), cells4 (heap_keep' hb hBe_), cells4 (heap_keep' hb hBo_)]
    · exact ⟨rfl, Below.refl _ _⟩
  apply Rg.ch_pure (by rfl)
  · rintro a w1 ⟨e15, e16, -⟩
    replace e15 : a.eval (.tmp 15) = _ := e15
    have n15 := e15
    simp only [Act.eval, Array.getD_eq_getD_getElem?] at n15
    replace e16 : a.eval (.tmp 16) = _ := e16
    have n16 := e16
    simp only [Act.eval, Array.getD_eq_getD_getElem?] at n16
    apply Rg.yields_run (Rg.wanted_none (by rfl))
    intro w2
    conv => lhs; simp [go_sem, n15, n16, E1]
  intro w1 hb1
  rintro _ rfl _ rfl _ rfl _ rfl _ rfl
  change Go.wpList _ _ _ _ _ _
  simp only [List.drop_succ_cons, List.drop_zero, List.drop_nil, Act.put, List.setIfInBounds_toArray, List.set_cons_succ, List.set_cons_zero]
  change Go.NoPanic _ _ _ _
  refine NoPanic.normal ?_
  have HBn : Hid (Below w.heap.size w w1) := Lib.hid (below_call HB0 HB0.size hb1)
  have hBa__ := heap_keep' hb1 hBa_
  have hBr__ := heap_keep' hb1 hBr_
  have hBe__ := heap_keep' hb1 hBe_
  have hBo__ := heap_keep' hb1 hBo_
  clear hb1 HB0 HB hBa_ HBa cBa fBa zBa hBr_ HBr cBr fBr zBr hBe_ HBe cBe fBe zBe hBo_
  clear hW
  obtain ⟨wc, rfl⟩ : ∃ x : World, x = w1 := ⟨_, rfl⟩
  have HB := HBn; clear HBn
  have HBa := Lib.hid hBa__; have cBa := cells4 hBa__; have fBa := frozen_of hBa__; have zBa := lt_of_heap hBa__; clear hBa__
  have HBr := Lib.hid hBr__; have cBr := cells4 hBr__; have fBr := frozen_of hBr__; have zBr := lt_of_heap hBr__; clear hBr__
  have HBe := Lib.hid hBe__; have cBe := cells4 hBe__; have fBe := frozen_of hBe__; have zBe := lt_of_heap hBe__; clear hBe__
  have HBo := Lib.hid hBo__; have cBo := cells4 hBo__; have fBo := frozen_of hBo__; have zBo := lt_of_heap hBo__; clear hBo__
  have q3 := zBo
  go_wp2
  refine Rg.region_ (n := 38) [0, 0, 0, 6, 15, 31] [1, 0, 1, 1, 1, 2] [19, 20, 21, 22, 23, 0] [[(5, none)], [], [(6, none)], [(20, some 1), (21, some 2)], [(19, some 0), (22, some 3)], [(5, none), (23, some 4)]] 5 (by kernel_rfl) (by kernel_rfl) (by rfl) ?_
  intro W hW
  have hBa_ : W.heap[w.heap.size]? = some (.cells #[.int .u64 s0, .int .u64 s1, .int .u64 s2, .int .u64 s3] 26 (0, 0)) := by rw [hW]; exact (by repeat (first | (with_reducible exact HBa.out) | (with_reducible exact set4 HBa.out _ _ _ _) | (with_reducible apply set4) | (with_reducible refine heap_new' ?_ _; simp; done) | (with_reducible refine keep4 ?_ (by omega) _ _ _ _) | (with_reducible refine heap_old ?_ _) | (with_reducible refine heap_drew ?_) | (with_reducible refine heap_set_ne ?_ (by simp <;> omega) _)))
  have hBr_ : W.heap[w.heap.size + 1]? = some (.cells #[.int .u64 0, .int .u64 0, .int .u64 0, .int .u64 0] 26 (0, 0)) := by rw [hW]; exact (by repeat (first | (with_reducible exact HBr.out) | (with_reducible exact set4 HBr.out _ _ _ _) | (with_reducible apply set4) | (with_reducible refine heap_new' ?_ _; simp; done) | (with_reducible refine keep4 ?_ (by omega) _ _ _ _) | (with_reducible refine heap_old ?_ _) | (with_reducible refine heap_drew ?_) | (with_reducible refine heap_set_ne ?_ (by simp <;> omega) _)))
  have hBe_ : W.heap[wa.heap.size]? = some (.cells #[.int .u64 18446744073709551614, .int .u64 18446744073709551615, .int .u64 18446744073709551615, .int .u64 1152921504606846975] 26 (0, 0)) := by rw [hW]; exact (by repeat (first | (with_reducible exact HBe.out) | (with_reducible exact set4 HBe.out _ _ _ _) | (with_reducible apply set4) | (with_reducible refine heap_new' ?_ _; simp; done) | (with_reducible refine keep4 ?_ (by omega) _ _ _ _) | (with_reducible refine heap_old ?_ _) | (with_reducible refine heap_drew ?_) | (with_reducible refine heap_set_ne ?_ (by simp <;> omega) _)))
  have hBo_ : W.heap[wb.heap.size]? = some (.cells #[.int .u64 t0, .int .u64 t1, .int .u64 t2, .int .u64 t3] 26 (0, 0)) := by rw [hW]; exact (by repeat (first | (with_reducible exact HBo.out) | (with_reducible exact set4 HBo.out _ _ _ _) | (with_reducible apply set4) | (with_reducible refine heap_new' ?_ _; simp; done) | (with_reducible refine keep4 ?_ (by omega) _ _ _ _) | (with_reducible refine heap_old ?_ _) | (with_reducible refine heap_drew ?_) | (with_reducible refine heap_set_ne ?_ (by simp <;> omega) _)))
  have hBq_ : W.heap[wc.heap.size]? = some (.cells #[.int .u64 18446744073709551611, .int .u64 18446744073709551615, .int .u64 18446744073709551615, .int .u64 2305843009213693951] 26 (0, 0)) := by rw [hW]; exact (by repeat (first | (with_reducible refine heap_new' ?_ _; simp; done) | (with_reducible refine keep4 ?_ (by omega) _ _ _ _) | (with_reducible refine heap_old ?_ _) | (with_reducible refine heap_drew ?_) | (with_reducible refine heap_set_ne ?_ (by simp <;> omega) _)))
  have HB0 : Below w.heap.size w W := by rw [hW]; have hB0 := HB.out; have hS0 := hB0.size; first | exact hB0.drew | exact (set4_below hB0 (by omega) _ _ _ _).drew | go_grown
  change Rg.Chain' _ _ _ _ _ [(0, 1, 19, [(5, none)]), (1, 0, 20, []), (2, 1, 21, [(6, none)]), (3, 1, 22, [(20, some 1), (21, some 2)]), (4, 1, 23, [(19, some 0), (22, some 3)])] [(0, 1, 19, [(5, none)]), (1, 0, 20, []), (2, 1, 21, [(6, none)]), (3, 1, 22, [(20, some 1), (21, some 2)]), (4, 1, 23, [(19, some 0), (22, some 3)])] _
  apply Rg.ch_def (by rfl) (fun a w1 _ => Rg.wanted_none (by rfl))
  · rintro a w1 hb ⟨e5, -⟩
    conv at e5 => rhs; whnf
    have n5 := e5
    simp only [Act.eval, Array.getD_eq_getD_getElem?] at n5
    apply Rg.gives_value
    · conv => lhs; simp [go_sem, n5, cells4 (heap_keep' hb hBa_), cells4 (heap_keep' hb hBr_), cells4 (heap_keep' hb hBe_), cells4 (heap_keep' hb hBo_), cells4 (heap_keep' hb hBq_)]
    · exact ⟨rfl, Below.refl _ _⟩
  apply Rg.ch_pure (by rfl)
  · rintro a w1 -
    apply Rg.yields_run (Rg.wanted_none (by rfl))
    intro w2
    conv => lhs; simp [go_sem]
  apply Rg.ch_def (by rfl) (fun a w1 _ => Rg.wanted_none (by rfl))
  · rintro a w1 hb ⟨e6, -⟩
    conv at e6 => rhs; whnf
    have n6 := e6
    simp only [Act.eval, Array.getD_eq_getD_getElem?] at n6
    apply Rg.gives_value
    · conv => lhs; simp [go_sem, n6, cells4 (heap_keep' hb hBa_), cells4 (heap_keep' hb hBr_), cells4 (heap_keep' hb hBe_), cells4 (heap_keep' hb hBo_), cells4 (heap_keep' hb hBq_)]
    · exact ⟨rfl, Below.refl _ _⟩
  apply Rg.ch_def (by rfl) (fun a w1 _ => Rg.wanted_none (by rfl))
  · rintro a w1 hb ⟨e20, e21, -⟩
    replace e20 : a.eval (.tmp 20) = _ := e20
    replace e21 : a.eval (.tmp 21) = _ := e21
    apply Rg.gives_enter
    · apply run_call Try.func59 (by kernel_rfl) rfl _ (by rfl)
      conv => lhs; simp only [List.map_toArray, List.map_cons, List.map_nil, eval_const_, eval_global_, e20, e21]
    · refine (FI.out _).mono ?_
      rintro e w2 ⟨rfl, hb2⟩
      exact ⟨_, rfl, rfl, hb2⟩
  apply Rg.ch_def (by rfl) (fun a w1 _ => Rg.wanted_none (by rfl))
  · rintro a w1 hb ⟨e19, e22, -⟩
    replace e19 : a.eval (.tmp 19) = _ := e19
    replace e22 : a.eval (.tmp 22) = _ := e22
    apply Rg.gives_enter
    · apply run_call Try.func46 (by kernel_rfl) rfl _ (by rfl)
      conv => lhs; simp only [List.map_toArray, List.map_cons, List.map_nil, eval_const_, eval_global_, e19, e22]
    · refine (FU.out _).mono ?_
      rintro e w2 ⟨rfl, hb2⟩
      exact ⟨_, rfl, rfl, hb2⟩
  intro w1 hb1
  rintro _ rfl _ rfl _ rfl _ rfl _ rfl
  change Go.wpList _ _ _ _ _ _
  simp only [List.drop_succ_cons, List.drop_zero, List.drop_nil, Act.put, List.setIfInBounds_toArray, List.set_cons_succ, List.set_cons_zero]
  have HBn : Hid (Below w.heap.size w w1) := Lib.hid (below_call HB0 HB0.size hb1)
  have hBa__ := heap_keep' hb1 hBa_
  have hBr__ := heap_keep' hb1 hBr_
  have hBe__ := heap_keep' hb1 hBe_
  have hBo__ := heap_keep' hb1 hBo_
  have hBq__ := heap_keep' hb1 hBq_
  clear hb1 HB0 HB hBa_ HBa cBa fBa zBa hBr_ HBr cBr fBr zBr hBe_ HBe cBe fBe zBe hBo_ HBo cBo fBo zBo hBq_
  clear hW
  obtain ⟨wd, rfl⟩ : ∃ x : World, x = w1 := ⟨_, rfl⟩
  have HB := HBn; clear HBn
  have HBa := Lib.hid hBa__; have cBa := cells4 hBa__; have fBa := frozen_of hBa__; have zBa := lt_of_heap hBa__; clear hBa__
  have HBr := Lib.hid hBr__; have cBr := cells4 hBr__; have fBr := frozen_of hBr__; have zBr := lt_of_heap hBr__; clear hBr__
  have HBe := Lib.hid hBe__; have cBe := cells4 hBe__; have fBe := frozen_of hBe__; have zBe := lt_of_heap hBe__; clear hBe__
  have HBo := Lib.hid hBo__; have cBo := cells4 hBo__; have fBo := frozen_of hBo__; have zBo := lt_of_heap hBo__; clear hBo__
  have HBq := Lib.hid hBq__; have cBq := cells4 hBq__; have fBq := frozen_of hBq__; have zBq := lt_of_heap hBq__; clear hBq__
  go_wp2
  refine NoPanic.normal ?_
  go_wp2
  refine Rg.region_ (n := 38) [0, 0, 3, 0, 15] [1, 1, 1, 1, 0] [24, 25, 26, 27, 28] [[(5, none)], [(5, none)], [(24, some 0), (25, some 1)], [(1, none)], [(26, some 2), (27, some 3)]] 5 (by kernel_rfl) (by kernel_rfl) (by rfl) ?_
  intro W hW
  have hBa_ : W.heap[w.heap.size]? = some (.cells #[.int .u64 s0, .int .u64 s1, .int .u64 s2, .int .u64 s3] 26 (0, 0)) := by rw [hW]; exact (by repeat (first | (with_reducible exact HBa.out) | (with_reducible exact set4 HBa.out _ _ _ _) | (with_reducible apply set4) | (with_reducible refine heap_new' ?_ _; simp; done) | (with_reducible refine keep4 ?_ (by omega) _ _ _ _) | (with_reducible refine heap_old ?_ _) | (with_reducible refine heap_drew ?_) | (with_reducible refine heap_set_ne ?_ (by simp <;> omega) _)))
  have hBr_ : W.heap[w.heap.size + 1]? = some (.cells #[.int .u64 0, .int .u64 0, .int .u64 0, .int .u64 0] 26 (0, 0)) := by rw [hW]; exact (by repeat (first | (with_reducible exact HBr.out) | (with_reducible exact set4 HBr.out _ _ _ _) | (with_reducible apply set4) | (with_reducible refine heap_new' ?_ _; simp; done) | (with_reducible refine keep4 ?_ (by omega) _ _ _ _) | (with_reducible refine heap_old ?_ _) | (with_reducible refine heap_drew ?_) | (with_reducible refine heap_set_ne ?_ (by simp <;> omega) _)))
  have hBe_ : W.heap[wa.heap.size]? = some (.cells #[.int .u64 18446744073709551614, .int .u64 18446744073709551615, .int .u64 18446744073709551615, .int .u64 1152921504606846975] 26 (0, 0)) := by rw [hW]; exact (by repeat (first | (with_reducible exact HBe.out) | (with_reducible exact set4 HBe.out _ _ _ _) | (with_reducible apply set4) | (with_reducible refine heap_new' ?_ _; simp; done) | (with_reducible refine keep4 ?_ (by omega) _ _ _ _) | (with_reducible refine heap_old ?_ _) | (with_reducible refine heap_drew ?_) | (with_reducible refine heap_set_ne ?_ (by simp <;> omega) _)))
  have hBo_ : W.heap[wb.heap.size]? = some (.cells #[.int .u64 u0, .int .u64 u1, .int .u64 u2, .int .u64 u3] 26 (0, 0)) := by rw [hW]; exact (by repeat (first | (with_reducible exact HBo.out) | (with_reducible exact set4 HBo.out _ _ _ _) | (with_reducible apply set4) | (with_reducible refine heap_new' ?_ _; simp; done) | (with_reducible refine keep4 ?_ (by omega) _ _ _ _) | (with_reducible refine heap_old ?_ _) | (with_reducible refine heap_drew ?_) | (with_reducible refine heap_set_ne ?_ (by simp <;> omega) _)))
  have hBq_ : W.heap[wc.heap.size]? = some (.cells #[.int .u64 18446744073709551611, .int .u64 18446744073709551615, .int .u64 18446744073709551615, .int .u64 2305843009213693951] 26 (0, 0)) := by rw [hW]; exact (by repeat (first | (with_reducible exact HBq.out) | (with_reducible exact set4 HBq.out _ _ _ _) | (with_reducible apply set4) | (with_reducible refine heap_new' ?_ _; simp; done) | (with_reducible refine keep4 ?_ (by omega) _ _ _ _) | (with_reducible refine heap_old ?_ _) | (with_reducible refine heap_drew ?_) | (with_reducible refine heap_set_ne ?_ (by simp <;> omega) _)))
  have HB0 : Below w.heap.size w W := by rw [hW]; have hB0 := HB.out; have hS0 := hB0.size; first | exact hB0.drew | exact (set4_below hB0 (by omega) _ _ _ _).drew | go_grown
  change Rg.Chain' _ _ _ _ _ [(0, 1, 24, [(5, none)]), (1, 1, 25, [(5, none)]), (2, 1, 26, [(24, some 0), (25, some 1)]), (3, 1, 27, [(1, none)]), (4, 0, 28, [(26, some 2), (27, some 3)])] [(0, 1, 24, [(5, none)]), (1, 1, 25, [(5, none)]), (2, 1, 26, [(24, some 0), (25, some 1)]), (3, 1, 27, [(1, none)]), (4, 0, 28, [(26, some 2), (27, some 3)])] _
  apply Rg.ch_def (by rfl) (fun a w1 _ => Rg.wanted_none (by rfl))
  · rintro a w1 hb ⟨e5, -⟩
    conv at e5 => rhs; whnf
    have n5 := e5
    simp only [Act.eval, Array.getD_eq_getD_getElem?] at n5
    apply Rg.gives_value
    · conv => lhs; simp [go_sem, n5, cells4 (heap_keep' hb hBa_), cells4 (heap_keep' hb hBr_), cells4 (heap_keep' hb hBe_), cells4 (heap_keep' hb hBo_), cells4 (heap_keep' hb hBq_)]
    · exact ⟨rfl, Below.refl _ _⟩
  apply Rg.ch_def (by rfl) (fun a w1 _ => Rg.wanted_none (by rfl))
  · rintro a w1 hb ⟨e5, -⟩
    conv at e5 => rhs; whnf
    have n5 := e5
    simp only [Act.eval, Array.getD_eq_getD_getElem?] at n5
    apply Rg.gives_value
    · conv => lhs; simp [go_sem, n5, cells4 (heap_keep' hb hBa_), cells4 (heap_keep' hb hBr_), cells4 (heap_keep' hb hBe_), cells4 (heap_keep' hb hBo_), cells4 (heap_keep' hb hBq_)]
    · exact ⟨rfl, Below.refl _ _⟩
  apply Rg.ch_def (by rfl) (fun a w1 _ => Rg.wanted_none (by rfl))
  · rintro a w1 hb ⟨e24, e25, -⟩
    replace e24 : a.eval (.tmp 24) = _ := e24
    replace e25 : a.eval (.tmp 25) = _ := e25
    apply Rg.gives_enter
    · apply run_call Try.func46 (by kernel_rfl) rfl _ (by rfl)
      conv => lhs; simp only [List.map_toArray, List.map_cons, List.map_nil, eval_const_, eval_global_, e24, e25]
    · refine (FK.out _).mono ?_
      rintro e w2 ⟨rfl, hb2⟩
      exact ⟨_, rfl, rfl, hb2⟩
  apply Rg.ch_def (by rfl) (fun a w1 _ => Rg.wanted_none (by rfl))
  · rintro a w1 hb ⟨e1, -⟩
    conv at e1 => rhs; whnf
    have n1 := e1
    simp only [Act.eval, Array.getD_eq_getD_getElem?] at n1
    apply Rg.gives_value
    · conv => lhs; simp [go_sem, n1, cells4 (heap_keep' hb hBa_), cells4 (heap_keep' hb hBr_), cells4 (heap_keep' hb hBe_), cells4 (heap_keep' hb hBo_), cells4 (heap_keep' hb hBq_)]
    · exact ⟨rfl, Below.refl _ _⟩
  apply Rg.ch_pure (by rfl)
  · rintro a w1 ⟨e26, e27, -⟩
    replace e26 : a.eval (.tmp 26) = _ := e26
    have n26 := e26
    simp only [Act.eval, Array.getD_eq_getD_getElem?] at n26
    replace e27 : a.eval (.tmp 27) = _ := e27
    have n27 := e27
    simp only [Act.eval, Array.getD_eq_getD_getElem?] at n27
    apply Rg.yields_run (Rg.wanted_none (by rfl))
    intro w2
    conv => lhs; simp [go_sem, n26, n27, E2]
  intro w1 hb1
  rintro _ rfl _ rfl _ rfl _ rfl _ rfl
  change Go.wpList _ _ _ _ _ _
  simp only [List.drop_succ_cons, List.drop_zero, List.drop_nil, Act.put, List.setIfInBounds_toArray, List.set_cons_succ, List.set_cons_zero]
  change Go.NoPanic _ _ _ _
  refine NoPanic.normal ?_
  have HBn : Hid (Below w.heap.size w w1) := Lib.hid (below_call HB0 HB0.size hb1)
  have hBa__ := heap_keep' hb1 hBa_
  have hBr__ := heap_keep' hb1 hBr_
  have hBe__ := heap_keep' hb1 hBe_
  have hBo__ := heap_keep' hb1 hBo_
  have hBq__ := heap_keep' hb1 hBq_
  clear hb1 HB0 HB hBa_ HBa cBa fBa zBa hBr_ HBr cBr fBr zBr hBe_ HBe cBe fBe zBe hBo_ HBo cBo fBo zBo hBq_ HBq cBq fBq zBq
  clear hW
  obtain ⟨we, rfl⟩ : ∃ x : World, x = w1 := ⟨_, rfl⟩
  have HB := HBn; clear HBn
  have HBa := Lib.hid hBa__; have cBa := cells4 hBa__; have fBa := frozen_of hBa__; have zBa := lt_of_heap hBa__; clear hBa__
  have HBr := Lib.hid hBr__; have cBr := cells4 hBr__; have fBr := frozen_of hBr__; have zBr := lt_of_heap hBr__; clear hBr__
  have HBe := Lib.hid hBe__; have cBe := cells4 hBe__; have fBe := frozen_of hBe__; have zBe := lt_of_heap hBe__; clear hBe__
  have HBo := Lib.hid hBo__; have cBo := cells4 hBo__; have fBo := frozen_of hBo__; have zBo := lt_of_heap hBo__; clear hBo__
  have HBq := Lib.hid hBq__; have cBq := cells4 hBq__; have fBq := frozen_of hBq__; have zBq := lt_of_heap hBq__; clear hBq__
  go_wp2
  have hK := set4 HBr.out (.int .u64 u0) (.int .u64 u1) (.int .u64 u2) (.int .u64 u3)
  have hL : Below w.heap.size w _ := set4_below (b := w.heap.size + 1) HB.out (by omega) (.int .u64 u0) (.int .u64 u1) (.int .u64 u2) (.int .u64 u3)
  obtain ⟨v, hv⟩ : ∃ x, x = ((((we.setCell ⟨w.heap.size + 1, 0, none⟩ (.int .u64 u0)).setCell ⟨w.heap.size + 1, 1, none⟩ (.int .u64 u1)).setCell ⟨w.heap.size + 1, 2, none⟩ (.int .u64 u2)).setCell ⟨w.heap.size + 1, 3, none⟩ (.int .u64 u3)) := ⟨_, rfl⟩
  rw [← hv] at hK hL ⊢
  clear hv
  have hQ := cells4 hK
  exact bodyPost_ret (v := .tuple #[.agg #[.int .u64 u0, .int .u64 u1, .int .u64 u2, .int .u64 u3], .bool true]) (by simp [results, Try.results58, go_sem, hQ]) rfl ⟨rfl, hL⟩

set_option maxHeartbeats 4000000 in
theorem root_B1 (a0 a1 a2 a3 s0 s1 s2 s3 t0 t1 t2 t3 m0 m1 m2 m3 : Nat) (FS : Hid (∀ w : World, Calls Try.prog 48 #[.agg #[.int .u64 a0, .int .u64 a1, .int .u64 a2, .int .u64 a3]] w fun e w' => e = .returned (.agg #[.int .u64 s0, .int .u64 s1, .int .u64 s2, .int .u64 s3]) ∧ Below w.heap.size w w')) (FP : Hid (∀ w : World, Calls Try.prog 59 #[.agg #[.int .u64 s0, .int .u64 s1, .int .u64 s2, .int .u64 s3], .agg #[.int .u64 18446744073709551614, .int .u64 18446744073709551615, .int .u64 18446744073709551615, .int .u64 1152921504606846975]] w fun e w' => e = .returned (.agg #[.int .u64 t0, .int .u64 t1, .int .u64 t2, .int .u64 t3]) ∧ Below w.heap.size w w')) (FM : Hid (∀ w : World, Calls Try.prog 46 #[.agg #[.int .u64 t0, .int .u64 t1, .int .u64 t2, .int .u64 t3], .agg #[.int .u64 t0, .int .u64 t1, .int .u64 t2, .int .u64 t3]] w fun e w' => e = .returned (.agg #[.int .u64 m0, .int .u64 m1, .int .u64 m2, .int .u64 m3]) ∧ Below w.heap.size w w')) (E1 : eqL [(m0 : Int), m1, m2, m3] [(s0 : Int), s1, s2, s3] = false) (i0 i1 i2 i3 u0 u1 u2 u3 k0 k1 k2 k3 : Nat) (FI : Hid (∀ w : World, Calls Try.prog 59 #[.agg #[.int .u64 2, .int .u64 0, .int .u64 0, .int .u64 0], .agg #[.int .u64 18446744073709551611, .int .u64 18446744073709551615, .int .u64 18446744073709551615, .int .u64 2305843009213693951]] w fun e w' => e = .returned (.agg #[.int .u64 i0, .int .u64 i1, .int .u64 i2, .int .u64 i3]) ∧ Below w.heap.size w w')) (FU : Hid (∀ w : World, Calls Try.prog 46 #[.agg #[.int .u64 t0, .int .u64 t1, .int .u64 t2, .int .u64 t3], .agg #[.int .u64 i0, .int .u64 i1, .int .u64 i2, .int .u64 i3]] w fun e w' => e = .returned (.agg #[.int .u64 u0, .int .u64 u1, .int .u64 u2, .int .u64 u3]) ∧ Below w.heap.size w w')) (FK : Hid (∀ w : World, Calls Try.prog 46 #[.agg #[.int .u64 u0, .int .u64 u1, .int .u64 u2, .int .u64 u3], .agg #[.int .u64 u0, .int .u64 u1, .int .u64 u2, .int .u64 u3]] w fun e w' => e = .returned (.agg #[.int .u64 k0, .int .u64 k1, .int .u64 k2, .int .u64 k3]) ∧ Below w.heap.size w w')) (E2 : eqL [(k0 : Int), k1, k2, k3] [(s0 : Int), s1, s2, s3] = true) (EB : bits .and .u64 (u0 : Int) 1 = 1) (n0 n1 n2 n3 : Nat) (FN : Hid (∀ w : World, Calls Try.prog 23 #[.agg #[.int .u64 0, .int .u64 0, .int .u64 0, .int .u64 0], .agg #[.int .u64 u0, .int .u64 u1, .int .u64 u2, .int .u64 u3]] w fun e w' => e = .returned (.agg #[.int .u64 n0, .int .u64 n1, .int .u64 n2, .int .u64 n3]) ∧ Below w.heap.size w w')) (w : World) : Calls Try.prog 58 #[.agg #[.int .u64 a0, .int .u64 a1, .int .u64 a2, .int .u64 a3]] w fun e w' => e = .returned (.tuple #[.agg #[.int .u64 n0, .int .u64 n1, .int .u64 n2, .int .u64 n3], .bool true]) ∧ Below w.heap.size w w' := by
  go_enter Try.func58, Try.ntmps58
  go_wp2_with (fail)
  go_at_call 48
  refine (FS.out _).mono ?_
  rintro e wa ⟨rfl, hb⟩
  have HBn : Hid (Below w.heap.size w wa) := Lib.hid ((fun (h : Below _ _ _) => below_call h h.size hb) (by first | go_grown))
  have hBa_ : wa.heap[w.heap.size]? = some (.cells #[.int .u64 a0, .int .u64 a1, .int .u64 a2, .int .u64 a3] 26 (0, 0)) := heap_keep' hb (by repeat (first | (with_reducible refine heap_new' ?_ _; simp; done) | (with_reducible refine keep4 ?_ (by omega) _ _ _ _) | (with_reducible refine heap_old ?_ _) | (with_reducible refine heap_drew ?_) | (with_reducible refine heap_set_ne ?_ (by simp <;> omega) _)))
  have hBr_ : wa.heap[w.heap.size + 1]? = some (.cells #[.int .u64 0, .int .u64 0, .int .u64 0, .int .u64 0] 26 (0, 0)) := heap_keep' hb (by repeat (first | (with_reducible refine heap_new' ?_ _; simp; done) | (with_reducible refine keep4 ?_ (by omega) _ _ _ _) | (with_reducible refine heap_old ?_ _) | (with_reducible refine heap_drew ?_) | (with_reducible refine heap_set_ne ?_ (by simp <;> omega) _)))
  clear hb
  have HB := HBn; clear HBn
  have HBa := Lib.hid hBa_; have cBa := cells4 hBa_; have fBa := frozen_of hBa_; have zBa := lt_of_heap hBa_; clear hBa_
  have HBr := Lib.hid hBr_; have cBr := cells4 hBr_; have fBr := frozen_of hBr_; have zBr := lt_of_heap hBr_; clear hBr_
  go_wp2_with (fail)
  go_at_call 59
  refine (FP.out _).mono ?_
  rintro e wb ⟨rfl, hb⟩
  have HBn : Hid (Below w.heap.size w wb) := Lib.hid ((fun (h : Below _ _ _) => below_call h h.size hb) (by have hB0 := HB.out; have hS0 := hB0.size; first | (with_reducible exact hB0) | (with_reducible exact set4_below hB0 (by omega) _ _ _ _) | (with_reducible exact set4_below (set4_below hB0 (by omega) _ _ _ _) (by omega) _ _ _ _) | (with_reducible exact set4_below (set4_below (set4_below (set4_below hB0 (by omega) _ _ _ _) (by omega) _ _ _ _) (by omega) _ _ _ _) (by omega) _ _ _ _) | go_grown))
  have hBa_ : wb.heap[w.heap.size]? = some (.cells #[.int .u64 s0, .int .u64 s1, .int .u64 s2, .int .u64 s3] 26 (0, 0)) := heap_keep' hb (by repeat (first | (with_reducible exact HBa.out) | (with_reducible exact set4 HBa.out _ _ _ _) | (with_reducible apply set4) | (with_reducible refine heap_new' ?_ _; simp; done) | (with_reducible refine keep4 ?_ (by omega) _ _ _ _) | (with_reducible refine heap_old ?_ _) | (with_reducible refine heap_drew ?_) | (with_reducible refine heap_set_ne ?_ (by simp <;> omega) _)))
  have hBr_ : wb.heap[w.heap.size + 1]? = some (.cells #[.int .u64 0, .int .u64 0, .int .u64 0, .int .u64 0] 26 (0, 0)) := heap_keep' hb (by repeat (first | (with_reducible exact HBr.out) | (with_reducible exact set4 HBr.out _ _ _ _) | (with_reducible apply set4) | (with_reducible refine heap_new' ?_ _; simp; done) | (with_reducible refine keep4 ?_ (by omega) _ _ _ _) | (with_reducible refine heap_old ?_ _) | (with_reducible refine heap_drew ?_) | (with_reducible refine heap_set_ne ?_ (by simp <;> omega) _)))
  have hBe_ : wb.heap[wa.heap.size]? = some (.cells #[.int .u64 18446744073709551614, .int .u64 18446744073709551615, .int .u64 18446744073709551615, .int .u64 1152921504606846975] 26 (0, 0)) := heap_keep' hb (by repeat (first | (with_reducible refine heap_new' ?_ _; simp; done) | (with_reducible refine keep4 ?_ (by omega) _ _ _ _) | (with_reducible refine heap_old ?_ _) | (with_reducible refine heap_drew ?_) | (with_reducible refine heap_set_ne ?_ (by simp <;> omega) _)))
  clear hb HB HBa cBa fBa zBa HBr cBr fBr zBr
  have HB := HBn; clear HBn
  have HBa := Lib.hid hBa_; have cBa := cells4 hBa_; have fBa := frozen_of hBa_; have zBa := lt_of_heap hBa_; clear hBa_
  have HBr := Lib.hid hBr_; have cBr := cells4 hBr_; have fBr := frozen_of hBr_; have zBr := lt_of_heap hBr_; clear hBr_
  have HBe := Lib.hid hBe_; have cBe := cells4 hBe_; have fBe := frozen_of hBe_; have zBe := lt_of_heap hBe_; clear hBe_
  have q1 := zBr; have q2 := zBe
  go_wp2
  refine Rg.region_ (n := 38) [0, 0, 3, 0, 15] [1, 1, 1, 1, 0] [13, 14, 15, 16, 17] [[(5, none)], [(5, none)], [(13, some 0), (14, some 1)], [(1, none)], [(15, some 2), (16, some 3)]] 5 (by kernel_rfl) (by kernel_rfl) (by rfl) ?_
  intro W hW
  have hBa_ : W.heap[w.heap.size]? = some (.cells #[.int .u64 s0, .int .u64 s1, .int .u64 s2, .int .u64 s3] 26 (0, 0)) := by rw [hW]; exact (by repeat (first | (with_reducible exact HBa.out) | (with_reducible exact set4 HBa.out _ _ _ _) | (with_reducible apply set4) | (with_reducible refine heap_new' ?_ _; simp; done) | (with_reducible refine keep4 ?_ (by omega) _ _ _ _) | (with_reducible refine heap_old ?_ _) | (with_reducible refine heap_drew ?_) | (with_reducible refine heap_set_ne ?_ (by simp <;> omega) _)))
  have hBr_ : W.heap[w.heap.size + 1]? = some (.cells #[.int .u64 0, .int .u64 0, .int .u64 0, .int .u64 0] 26 (0, 0)) := by rw [hW]; exact (by repeat (first | (with_reducible exact HBr.out) | (with_reducible exact set4 HBr.out _ _ _ _) | (with_reducible apply set4) | (with_reducible refine heap_new' ?_ _; simp; done) | (with_reducible refine keep4 ?_ (by omega) _ _ _ _) | (with_reducible refine heap_old ?_ _) | (with_reducible refine heap_drew ?_) | (with_reducible refine heap_set_ne ?_ (by simp <;> omega) _)))
  have hBe_ : W.heap[wa.heap.size]? = some (.cells #[.int .u64 18446744073709551614, .int .u64 18446744073709551615, .int .u64 18446744073709551615, .int .u64 1152921504606846975] 26 (0, 0)) := by rw [hW]; exact (by repeat (first | (with_reducible exact HBe.out) | (with_reducible exact set4 HBe.out _ _ _ _) | (with_reducible apply set4) | (with_reducible refine heap_new' ?_ _; simp; done) | (with_reducible refine keep4 ?_ (by omega) _ _ _ _) | (with_reducible refine heap_old ?_ _) | (with_reducible refine heap_drew ?_) | (with_reducible refine heap_set_ne ?_ (by simp <;> omega) _)))
  have hBo_ : W.heap[wb.heap.size]? = some (.cells #[.int .u64 t0, .int .u64 t1, .int .u64 t2, .int .u64 t3] 26 (0, 0)) := by rw [hW]; exact (by repeat (first | (with_reducible refine heap_new' ?_ _; simp; done) | (with_reducible refine keep4 ?_ (by omega) _ _ _ _) | (with_reducible refine heap_old ?_ _) | (with_reducible refine heap_drew ?_) | (with_reducible refine heap_set_ne ?_ (by simp <;> omega) _)))
  have HB0 : Below w.heap.size w W := by rw [hW]; have hB0 := HB.out; have hS0 := hB0.size; first | exact hB0.drew | exact (set4_below hB0 (by omega) _ _ _ _).drew | go_grown
  change Rg.Chain' _ _ _ _ _ [(0, 1, 13, [(5, none)]), (1, 1, 14, [(5, none)]), (2, 1, 15, [(13, some 0), (14, some 1)]), (3, 1, 16, [(1, none)]), (4, 0, 17, [(15, some 2), (16, some 3)])] [(0, 1, 13, [(5, none)]), (1, 1, 14, [(5, none)]), (2, 1, 15, [(13, some 0), (14, some 1)]), (3, 1, 16, [(1, none)]), (4, 0, 17, [(15, some 2), (16, some 3)])] _
  apply Rg.ch_def (by rfl) (fun a w1 _ => Rg.wanted_none (by rfl))
  · rintro a w1 hb ⟨e5, -⟩
    conv at e5 => rhs; whnf
    have n5 := e5
    simp only [Act.eval, Array.getD_eq_getD_getElem?] at n5
    apply Rg.gives_value
    · conv => lhs; simp [go_sem, n5, cells4 (heap_keep' hb hBa_), cells4 (heap_keep' hb hBr_), cells4 (heap_keep' hb hBe_), cells4 (heap_keep' hb hBo_)]
    · exact ⟨rfl, Below.refl _ _⟩
  apply Rg.ch_def (by rfl) (fun a w1 _ => Rg.wanted_none (by rfl))
  · rintro a w1 hb ⟨e5, -⟩
    conv at e5 => rhs; whnf
    have n5 := e5
    simp only [Act.eval, Array.getD_eq_getD_getElem?] at n5
    apply Rg.gives_value
    · conv => lhs; simp [go_sem, n5, cells4 (heap_keep' hb hBa_), cells4 (heap_keep' hb hBr_), cells4 (heap_keep' hb hBe_), cells4 (heap_keep' hb hBo_)]
    · exact ⟨rfl, Below.refl _ _⟩
  apply Rg.ch_def (by rfl) (fun a w1 _ => Rg.wanted_none (by rfl))
  · rintro a w1 hb ⟨e13, e14, -⟩
    replace e13 : a.eval (.tmp 13) = _ := e13
    replace e14 : a.eval (.tmp 14) = _ := e14
    apply Rg.gives_enter
    · apply run_call Try.func46 (by kernel_rfl) rfl _ (by rfl)
      conv => lhs; simp only [List.map_toArray, List.map_cons, List.map_nil, eval_const_, eval_global_, e13, e14]
    · refine (FM.out _).mono ?_
      rintro e w2 ⟨rfl, hb2⟩
      exact ⟨_, rfl, rfl, hb2⟩
  apply Rg.ch_def (by rfl) (fun a w1 _ => Rg.wanted_none (by rfl))
  · rintro a w1 hb ⟨e1, -⟩
    conv at e1 => rhs; whnf
    have n1 := e1
    simp only [Act.eval, Array.getD_eq_getD_getElem?] at n1
    apply Rg.gives_value
    · conv => lhs; simp [go_sem, n1, cells4 (heap_keep' hb hBa_), cells4 (heap_keep' hb hBr_), cells4 (heap_keep' hb hBe_), cells4 (heap_keep' hb hBo_)]
    · exact ⟨rfl, Below.refl _ _⟩
  apply Rg.ch_pure (by rfl)
  · rintro a w1 ⟨e15, e16, -⟩
    replace e15 : a.eval (.tmp 15) = _ := e15
    have n15 := e15
    simp only [Act.eval, Array.getD_eq_getD_getElem?] at n15
    replace e16 : a.eval (.tmp 16) = _ := e16
    have n16 := e16
    simp only [Act.eval, Array.getD_eq_getD_getElem?] at n16
    apply Rg.yields_run (Rg.wanted_none (by rfl))
    intro w2
    conv => lhs; simp [go_sem, n15, n16, E1]
  intro w1 hb1
  rintro _ rfl _ rfl _ rfl _ rfl _ rfl
  change Go.wpList _ _ _ _ _ _
  simp only [List.drop_succ_cons, List.drop_zero, List.drop_nil, Act.put, List.setIfInBounds_toArray, List.set_cons_succ, List.set_cons_zero]
  change Go.NoPanic _ _ _ _
  refine NoPanic.normal ?_
  have HBn : Hid (Below w.heap.size w w1) := Lib.hid (below_call HB0 HB0.size hb1)
  have hBa__ := heap_keep' hb1 hBa_
  have hBr__ := heap_keep' hb1 hBr_
  have hBe__ := heap_keep' hb1 hBe_
  have hBo__ := heap_keep' hb1 hBo_
  clear hb1 HB0 HB hBa_ HBa cBa fBa zBa hBr_ HBr cBr fBr zBr hBe_ HBe cBe fBe zBe hBo_
  clear hW
  obtain ⟨wc, rfl⟩ : ∃ x : World, x = w1 := ⟨_, rfl⟩
  have HB := HBn; clear HBn
  have HBa := Lib.hid hBa__; have cBa := cells4 hBa__; have fBa := frozen_of hBa__; have zBa := lt_of_heap hBa__; clear hBa__
  have HBr := Lib.hid hBr__; have cBr := cells4 hBr__; have fBr := frozen_of hBr__; have zBr := lt_of_heap hBr__; clear hBr__
  have HBe := Lib.hid hBe__; have cBe := cells4 hBe__; have fBe := frozen_of hBe__; have zBe := lt_of_heap hBe__; clear hBe__
  have HBo := Lib.hid hBo__; have cBo := cells4 hBo__; have fBo := frozen_of hBo__; have zBo := lt_of_heap hBo__; clear hBo__
  have q3 := zBo
  go_wp2
  refine Rg.region_ (n := 38) [0, 0, 0, 6, 15, 31] [1, 0, 1, 1, 1, 2] [19, 20, 21, 22, 23, 0] [[(5, none)], [], [(6, none)], [(20, some 1), (21, some 2)], [(19, some 0), (22, some 3)], [(5, none), (23, some 4)]] 5 (by kernel_rfl) (by kernel_rfl) (by rfl) ?_
  intro W hW
  have hBa_ : W.heap[w.heap.size]? = some (.cells #[.int .u64 s0, .int .u64 s1, .int .u64 s2, .int .u64 s3] 26 (0, 0)) := by rw [hW]; exact (by repeat (first | (with_reducible exact HBa.out) | (with_reducible exact set4 HBa.out _ _ _ _) | (with_reducible apply set4) | (with_reducible refine heap_new' ?_ _; simp; done) | (with_reducible refine keep4 ?_ (by omega) _ _ _ _) | (with_reducible refine heap_old ?_ _) | (with_reducible refine heap_drew ?_) | (with_reducible refine heap_set_ne ?_ (by simp <;> omega) _)))
  have hBr_ : W.heap[w.heap.size + 1]? = some (.cells #[.int .u64 0, .int .u64 0, .int .u64 0, .int .u64 0] 26 (0, 0)) := by rw [hW]; exact (by repeat (first | (with_reducible exact HBr.out) | (with_reducible exact set4 HBr.out _ _ _ _) | (with_reducible apply set4) | (with_reducible refine heap_new' ?_ _; simp; done) | (with_reducible refine keep4 ?_ (by omega) _ _ _ _) | (with_reducible refine heap_old ?_ _) | (with_reducible refine heap_drew ?_) | (with_reducible refine heap_set_ne ?_ (by simp <;> omega) _)))
  have hBe_ : W.heap[wa.heap.size]? = some (.cells #[.int .u64 18446744073709551614, .int .u64 18446744073709551615, .int .u64 18446744073709551615, .int .u64 1152921504606846975] 26 (0, 0)) := by rw [hW]; exact (by repeat (first | (with_reducible exact HBe.out) | (with_reducible exact set4 HBe.out _ _ _ _) | (with_reducible apply set4) | (with_reducible refine heap_new' ?_ _; simp; done) | (with_reducible refine keep4 ?_ (by omega) _ _ _ _) | (with_reducible refine heap_old ?_ _) | (with_reducible refine heap_drew ?_) | (with_reducible refine heap_set_ne ?_ (by simp <;> omega) _)))
  have hBo_ : W.heap[wb.heap.size]? = some (.cells #[.int .u64 t0, .int .u64 t1, .int .u64 t2, .int .u64 t3] 26 (0, 0)) := by rw [hW]; exact (by repeat (first | (with_reducible exact HBo.out) | (with_reducible exact set4 HBo.out _ _ _ _) | (with_reducible apply set4) | (with_reducible refine heap_new' ?_ _; simp; done) | (with_reducible refine keep4 ?_ (by omega) _ _ _ _) | (with_reducible refine heap_old ?_ _) | (with_reducible refine heap_drew ?_) | (with_reducible refine heap_set_ne ?_ (by simp <;> omega) _)))
  have hBq_ : W.heap[wc.heap.size]? = some (.cells #[.int .u64 18446744073709551611, .int .u64 18446744073709551615, .int .u64 18446744073709551615, .int .u64 2305843009213693951] 26 (0, 0)) := by rw [hW]; exact (by repeat (first | (with_reducible refine heap_new' ?_ _; simp; done) | (with_reducible refine keep4 ?_ (by omega) _ _ _ _) | (with_reducible refine heap_old ?_ _) | (with_reducible refine heap_drew ?_) | (with_reducible refine heap_set_ne ?_ (by simp <;> omega) _)))
  have HB0 : Below w.heap.size w W := by rw [hW]; have hB0 := HB.out; have hS0 := hB0.size; first | exact hB0.drew | exact (set4_below hB0 (by omega) _ _ _ _).drew | go_grown
  change Rg.Chain' _ _ _ _ _ [(0, 1, 19, [(5, none)]), (1, 0, 20, []), (2, 1, 21, [(6, none)]), (3, 1, 22, [(20, some 1), (21, some 2)]), (4, 1, 23, [(19, some 0), (22, some 3)])] [(0, 1, 19, [(5, none)]), (1, 0, 20, []), (2, 1, 21, [(6, none)]), (3, 1, 22, [(20, some 1), (21, some 2)]), (4, 1, 23, [(19, some 0), (22, some 3)])] _
  apply Rg.ch_def (by rfl) (fun a w1 _ => Rg.wanted_none (by rfl))
  · rintro a w1 hb ⟨e5, -⟩
    conv at e5 => rhs; whnf
    have n5 := e5
    simp only [Act.eval, Array.getD_eq_getD_getElem?] at n5
    apply Rg.gives_value
    · conv => lhs; simp [go_sem, n5, cells4 (heap_keep' hb hBa_), cells4 (heap_keep' hb hBr_), cells4 (heap_keep' hb hBe_), cells4 (heap_keep' hb hBo_), cells4 (heap_keep' hb hBq_)]
    · exact ⟨rfl, Below.refl _ _⟩
  apply Rg.ch_pure (by rfl)
  · rintro a w1 -
    apply Rg.yields_run (Rg.wanted_none (by rfl))
    intro w2
    conv => lhs; simp [go_sem]
  apply Rg.ch_def (by rfl) (fun a w1 _ => Rg.wanted_none (by rfl))
  · rintro a w1 hb ⟨e6, -⟩
    conv at e6 => rhs; whnf
    have n6 := e6
    simp only [Act.eval, Array.getD_eq_getD_getElem?] at n6
    apply Rg.gives_value
    · conv => lhs; simp [go_sem, n6, cells4 (heap_keep' hb hBa_), cells4 (heap_keep' hb hBr_), cells4 (heap_keep' hb hBe_), cells4 (heap_keep' hb hBo_), cells4 (heap_keep' hb hBq_)]
    · exact ⟨rfl, Below.refl _ _⟩
  apply Rg.ch_def (by rfl) (fun a w1 _ => Rg.wanted_none (by rfl))
  · rintro a w1 hb ⟨e20, e21, -⟩
    replace e20 : a.eval (.tmp 20) = _ := e20
    replace e21 : a.eval (.tmp 21) = _ := e21
    apply Rg.gives_enter
    · apply run_call Try.func59 (by kernel_rfl) rfl _ (by rfl)
      conv => lhs; simp only [List.map_toArray, List.map_cons, List.map_nil, eval_const_, eval_global_, e20, e21]
    · refine (FI.out _).mono ?_
      rintro e w2 ⟨rfl, hb2⟩
      exact ⟨_, rfl, rfl, hb2⟩
  apply Rg.ch_def (by rfl) (fun a w1 _ => Rg.wanted_none (by rfl))
  · rintro a w1 hb ⟨e19, e22, -⟩
    replace e19 : a.eval (.tmp 19) = _ := e19
    replace e22 : a.eval (.tmp 22) = _ := e22
    apply Rg.gives_enter
    · apply run_call Try.func46 (by kernel_rfl) rfl _ (by rfl)
      conv => lhs; simp only [List.map_toArray, List.map_cons, List.map_nil, eval_const_, eval_global_, e19, e22]
    · refine (FU.out _).mono ?_
      rintro e w2 ⟨rfl, hb2⟩
      exact ⟨_, rfl, rfl, hb2⟩
  intro w1 hb1
  rintro _ rfl _ rfl _ rfl _ rfl _ rfl
  change Go.wpList _ _ _ _ _ _
  simp only [List.drop_succ_cons, List.drop_zero, List.drop_nil, Act.put, List.setIfInBounds_toArray, List.set_cons_succ, List.set_cons_zero]
  have HBn : Hid (Below w.heap.size w w1) := Lib.hid (below_call HB0 HB0.size hb1)
  have hBa__ := heap_keep' hb1 hBa_
  have hBr__ := heap_keep' hb1 hBr_
  have hBe__ := heap_keep' hb1 hBe_
  have hBo__ := heap_keep' hb1 hBo_
  have hBq__ := heap_keep' hb1 hBq_
  clear hb1 HB0 HB hBa_ HBa cBa fBa zBa hBr_ HBr cBr fBr zBr hBe_ HBe cBe fBe zBe hBo_ HBo cBo fBo zBo hBq_
  clear hW
  obtain ⟨wd, rfl⟩ : ∃ x : World, x = w1 := ⟨_, rfl⟩
  have HB := HBn; clear HBn
  have HBa := Lib.hid hBa__; have cBa := cells4 hBa__; have fBa := frozen_of hBa__; have zBa := lt_of_heap hBa__; clear hBa__
  have HBr := Lib.hid hBr__; have cBr := cells4 hBr__; have fBr := frozen_of hBr__; have zBr := lt_of_heap hBr__; clear hBr__
  have HBe := Lib.hid hBe__; have cBe := cells4 hBe__; have fBe := frozen_of hBe__; have zBe := lt_of_heap hBe__; clear hBe__
  have HBo := Lib.hid hBo__; have cBo := cells4 hBo__; have fBo := frozen_of hBo__; have zBo := lt_of_heap hBo__; clear hBo__
  have HBq := Lib.hid hBq__; have cBq := cells4 hBq__; have fBq := frozen_of hBq__; have zBq := lt_of_heap hBq__; clear hBq__
  go_wp2
  refine NoPanic.normal ?_
  go_wp2
  refine Rg.region_ (n := 38) [0, 0, 3, 0, 15] [1, 1, 1, 1, 0] [24, 25, 26, 27, 28] [[(5, none)], [(5, none)], [(24, some 0), (25, some 1)], [(1, none)], [(26, some 2), (27, some 3)]] 5 (by kernel_rfl) (by kernel_rfl) (by rfl) ?_
  intro W hW
  have hBa_ : W.heap[w.heap.size]? = some (.cells #[.int .u64 s0, .int .u64 s1, .int .u64 s2, .int .u64 s3] 26 (0, 0)) := by rw [hW]; exact (by repeat (first | (with_reducible exact HBa.out) | (with_reducible exact set4 HBa.out _ _ _ _) | (with_reducible apply set4) | (with_reducible refine heap_new' ?_ _; simp; done) | (with_reducible refine keep4 ?_ (by omega) _ _ _ _) | (with_reducible refine heap_old ?_ _) | (with_reducible refine heap_drew ?_) | (with_reducible refine heap_set_ne ?_ (by simp <;> omega) _)))
  have hBr_ : W.heap[w.heap.size + 1]? = some (.cells #[.int .u64 0, .int .u64 0, .int .u64 0, .int .u64 0] 26 (0, 0)) := by rw [hW]; exact (by repeat (first | (with_reducible exact HBr.out) | (with_reducible exact set4 HBr.out _ _ _ _) | (with_reducible apply set4) | (with_reducible refine heap_new' ?_ _; simp; done) | (with_reducible refine keep4 ?_ (by omega) _ _ _ _) | (with_reducible refine heap_old ?_ _) | (with_reducible refine heap_drew ?_) | (with_reducible refine heap_set_ne ?_ (by simp <;> omega) _)))
  have hBe_ : W.heap[wa.heap.size]? = some (.cells #[.int .u64 18446744073709551614, .int .u64 18446744073709551615, .int .u64 18446744073709551615, .int .u64 1152921504606846975] 26 (0, 0)) := by rw [hW]; exact (by repeat (first | (with_reducible exact HBe.out) | (with_reducible exact set4 HBe.out _ _ _ _) | (with_reducible apply set4) | (with_reducible refine heap_new' ?_ _; simp; done) | (with_reducible refine keep4 ?_ (by omega) _ _ _ _) | (with_reducible refine heap_old ?_ _) | (with_reducible refine heap_drew ?_) | (with_reducible refine heap_set_ne ?_ (by simp <;> omega) _)))
  have hBo_ : W.heap[wb.heap.size]? = some (.cells #[.int .u64 u0, .int .u64 u1, .int .u64 u2, .int .u64 u3] 26 (0, 0)) := by rw [hW]; exact (by repeat (first | (with_reducible exact HBo.out) | (with_reducible exact set4 HBo.out _ _ _ _) | (with_reducible apply set4) | (with_reducible refine heap_new' ?_ _; simp; done) | (with_reducible refine keep4 ?_ (by omega) _ _ _ _) | (with_reducible refine heap_old ?_ _) | (with_reducible refine heap_drew ?_) | (with_reducible refine heap_set_ne ?_ (by simp <;> omega) _)))
  have hBq_ : W.heap[wc.heap.size]? = some (.cells #[.int .u64 18446744073709551611, .int .u64 18446744073709551615, .int .u64 18446744073709551615, .int .u64 2305843009213693951] 26 (0, 0)) := by rw [hW]; exact (by repeat (first | (with_reducible exact HBq.out) | (with_reducible exact set4 HBq.out _ _ _ _) | (with_reducible apply set4) | (with_reducible refine heap_new' ?_ _; simp; done) | (with_reducible refine keep4 ?_ (by omega) _ _ _ _) | (with_reducible refine heap_old ?_ _) | (with_reducible refine heap_drew ?_) | (with_reducible refine heap_set_ne ?_ (by simp <;> omega) _)))
  have HB0 : Below w.heap.size w W := by rw [hW]; have hB0 := HB.out; have hS0 := hB0.size; first | exact hB0.drew | exact (set4_below hB0 (by omega) _ _ _ _).drew | go_grown
  change Rg.Chain' _ _ _ _ _ [(0, 1, 24, [(5, none)]), (1, 1, 25, [(5, none)]), (2, 1, 26, [(24, some 0), (25, some 1)]), (3, 1, 27, [(1, none)]), (4, 0, 28, [(26, some 2), (27, some 3)])] [(0, 1, 24, [(5, none)]), (1, 1, 25, [(5, none)]), (2, 1, 26, [(24, some 0), (25, some 1)]), (3, 1, 27, [(1, none)]), (4, 0, 28, [(26, some 2), (27, some 3)])] _
  apply Rg.ch_def (by rfl) (fun a w1 _ => Rg.wanted_none (by rfl))
  · rintro a w1 hb ⟨e5, -⟩
    conv at e5 => rhs; whnf
    have n5 := e5
    simp only [Act.eval, Array.getD_eq_getD_getElem?] at n5
    apply Rg.gives_value
    · conv => lhs; simp [go_sem, n5, cells4 (heap_keep' hb hBa_), cells4 (heap_keep' hb hBr_), cells4 (heap_keep' hb hBe_), cells4 (heap_keep' hb hBo_), cells4 (heap_keep' hb hBq_)]
    · exact ⟨rfl, Below.refl _ _⟩
  apply Rg.ch_def (by rfl) (fun a w1 _ => Rg.wanted_none (by rfl))
  · rintro a w1 hb ⟨e5, -⟩
    conv at e5 => rhs; whnf
    have n5 := e5
    simp only [Act.eval, Array.getD_eq_getD_getElem?] at n5
    apply Rg.gives_value
    · conv => lhs; simp [go_sem, n5, cells4 (heap_keep' hb hBa_), cells4 (heap_keep' hb hBr_), cells4 (heap_keep' hb hBe_), cells4 (heap_keep' hb hBo_), cells4 (heap_keep' hb hBq_)]
    · exact ⟨rfl, Below.refl _ _⟩
  apply Rg.ch_def (by rfl) (fun a w1 _ => Rg.wanted_none (by rfl))
  · rintro a w1 hb ⟨e24, e25, -⟩
    replace e24 : a.eval (.tmp 24) = _ := e24
    replace e25 : a.eval (.tmp 25) = _ := e25
    apply Rg.gives_enter
    · apply run_call Try.func46 (by kernel_rfl) rfl _ (by rfl)
      conv => lhs; simp only [List.map_toArray, List.map_cons, List.map_nil, eval_const_, eval_global_, e24, e25]
    · refine (FK.out _).mono ?_
      rintro e w2 ⟨rfl, hb2⟩
      exact ⟨_, rfl, rfl, hb2⟩
  apply Rg.ch_def (by rfl) (fun a w1 _ => Rg.wanted_none (by rfl))
  · rintro a w1 hb ⟨e1, -⟩
    conv at e1 => rhs; whnf
    have n1 := e1
    simp only [Act.eval, Array.getD_eq_getD_getElem?] at n1
    apply Rg.gives_value
    · conv => lhs; simp [go_sem, n1, cells4 (heap_keep' hb hBa_), cells4 (heap_keep' hb hBr_), cells4 (heap_keep' hb hBe_), cells4 (heap_keep' hb hBo_), cells4 (heap_keep' hb hBq_)]
    · exact ⟨rfl, Below.refl _ _⟩
  apply Rg.ch_pure (by rfl)
  · rintro a w1 ⟨e26, e27, -⟩
    replace e26 : a.eval (.tmp 26) = _ := e26
    have n26 := e26
    simp only [Act.eval, Array.getD_eq_getD_getElem?] at n26
    replace e27 : a.eval (.tmp 27) = _ := e27
    have n27 := e27
    simp only [Act.eval, Array.getD_eq_getD_getElem?] at n27
    apply Rg.yields_run (Rg.wanted_none (by rfl))
    intro w2
    conv => lhs; simp [go_sem, n26, n27, E2]
  intro w1 hb1
  rintro _ rfl _ rfl _ rfl _ rfl _ rfl
  change Go.wpList _ _ _ _ _ _
  simp only [List.drop_succ_cons, List.drop_zero, List.drop_nil, Act.put, List.setIfInBounds_toArray, List.set_cons_succ, List.set_cons_zero]
  change Go.NoPanic _ _ _ _
  refine NoPanic.normal ?_
  have HBn : Hid (Below w.heap.size w w1) := Lib.hid (below_call HB0 HB0.size hb1)
  have hBa__ := heap_keep' hb1 hBa_
  have hBr__ := heap_keep' hb1 hBr_
  have hBe__ := heap_keep' hb1 hBe_
  have hBo__ := heap_keep' hb1 hBo_
  have hBq__ := heap_keep' hb1 hBq_
  clear hb1 HB0 HB hBa_ HBa cBa fBa zBa hBr_ HBr cBr fBr zBr hBe_ HBe cBe fBe zBe hBo_ HBo cBo fBo zBo hBq_ HBq cBq fBq zBq
  clear hW
  obtain ⟨we, rfl⟩ : ∃ x : World, x = w1 := ⟨_, rfl⟩
  have HB := HBn; clear HBn
  have HBa := Lib.hid hBa__; have cBa := cells4 hBa__; have fBa := frozen_of hBa__; have zBa := lt_of_heap hBa__; clear hBa__
  have HBr := Lib.hid hBr__; have cBr := cells4 hBr__; have fBr := frozen_of hBr__; have zBr := lt_of_heap hBr__; clear hBr__
  have HBe := Lib.hid hBe__; have cBe := cells4 hBe__; have fBe := frozen_of hBe__; have zBe := lt_of_heap hBe__; clear hBe__
  have HBo := Lib.hid hBo__; have cBo := cells4 hBo__; have fBo := frozen_of hBo__; have zBo := lt_of_heap hBo__; clear hBo__
  have HBq := Lib.hid hBq__; have cBq := cells4 hBq__; have fBq := frozen_of hBq__; have zBq := lt_of_heap hBq__; clear hBq__
  go_wp2_with (fail)
  go_at_call 23
  refine (FN.out _).mono ?_
  rintro e wz ⟨rfl, hb⟩
  have HBn : Hid (Below w.heap.size w wz) := Lib.hid ((fun (h : Below _ _ _) => below_call h h.size hb) (by have hB0 := HB.out; have hS0 := hB0.size; first | (with_reducible exact hB0) | (with_reducible exact set4_below hB0 (by omega) _ _ _ _) | (with_reducible exact set4_below (set4_below hB0 (by omega) _ _ _ _) (by omega) _ _ _ _) | (with_reducible exact set4_below (set4_below (set4_below (set4_below hB0 (by omega) _ _ _ _) (by omega) _ _ _ _) (by omega) _ _ _ _) (by omega) _ _ _ _) | go_grown))
  have hBa_ : wz.heap[w.heap.size]? = some (.cells #[.int .u64 s0, .int .u64 s1, .int .u64 s2, .int .u64 s3] 26 (0, 0)) := heap_keep' hb (by repeat (first | (with_reducible exact HBa.out) | (with_reducible exact set4 HBa.out _ _ _ _) | (with_reducible apply set4) | (with_reducible refine heap_new' ?_ _; simp; done) | (with_reducible refine keep4 ?_ (by omega) _ _ _ _) | (with_reducible refine heap_old ?_ _) | (with_reducible refine heap_drew ?_) | (with_reducible refine heap_set_ne ?_ (by simp <;> omega) _)))
  have hBr_ : wz.heap[w.heap.size + 1]? = some (.cells #[.int .u64 0, .int .u64 0, .int .u64 0, .int .u64 0] 26 (0, 0)) := heap_keep' hb (by repeat (first | (with_reducible exact HBr.out) | (with_reducible exact set4 HBr.out _ _ _ _) | (with_reducible apply set4) | (with_reducible refine heap_new' ?_ _; simp; done) | (with_reducible refine keep4 ?_ (by omega) _ _ _ _) | (with_reducible refine heap_old ?_ _) | (with_reducible refine heap_drew ?_) | (with_reducible refine heap_set_ne ?_ (by simp <;> omega) _)))
  have hBe_ : wz.heap[wa.heap.size]? = some (.cells #[.int .u64 18446744073709551614, .int .u64 18446744073709551615, .int .u64 18446744073709551615, .int .u64 1152921504606846975] 26 (0, 0)) := heap_keep' hb (by repeat (first | (with_reducible exact HBe.out) | (with_reducible exact set4 HBe.out _ _ _ _) | (with_reducible apply set4) | (with_reducible refine heap_new' ?_ _; simp; done) | (with_reducible refine keep4 ?_ (by omega) _ _ _ _) | (with_reducible refine heap_old ?_ _) | (with_reducible refine heap_drew ?_) | (with_reducible refine heap_set_ne ?_ (by simp <;> omega) _)))
  have hBo_ : wz.heap[wb.heap.size]? = some (.cells #[.int .u64 u0, .int .u64 u1, .int .u64 u2, .int .u64 u3] 26 (0, 0)) := heap_keep' hb (by repeat (first | (with_reducible exact HBo.out) | (with_reducible exact set4 HBo.out _ _ _ _) | (with_reducible apply set4) | (with_reducible refine heap_new' ?_ _; simp; done) | (with_reducible refine keep4 ?_ (by omega) _ _ _ _) | (with_reducible refine heap_old ?_ _) | (with_reducible refine heap_drew ?_) | (with_reducible refine heap_set_ne ?_ (by simp <;> omega) _)))
  have hBq_ : wz.heap[wc.heap.size]? = some (.cells #[.int .u64 18446744073709551611, .int .u64 18446744073709551615, .int .u64 18446744073709551615, .int .u64 2305843009213693951] 26 (0, 0)) := heap_keep' hb (by repeat (first | (with_reducible exact HBq.out) | (with_reducible exact set4 HBq.out _ _ _ _) | (with_reducible apply set4) | (with_reducible refine heap_new' ?_ _; simp; done) | (with_reducible refine keep4 ?_ (by omega) _ _ _ _) | (with_reducible refine heap_old ?_ _) | (with_reducible refine heap_drew ?_) | (with_reducible refine heap_set_ne ?_ (by simp <;> omega) _)))
  clear hb HB HBa cBa fBa zBa HBr cBr fBr zBr HBe cBe fBe zBe HBo cBo fBo zBo HBq cBq fBq zBq
  have HB := HBn; clear HBn
  have HBa := Lib.hid hBa_; have cBa := cells4 hBa_; have fBa := frozen_of hBa_; have zBa := lt_of_heap hBa_; clear hBa_
  have HBr := Lib.hid hBr_; have cBr := cells4 hBr_; have fBr := frozen_of hBr_; have zBr := lt_of_heap hBr_; clear hBr_
  have HBe := Lib.hid hBe_; have cBe := cells4 hBe_; have fBe := frozen_of hBe_; have zBe := lt_of_heap hBe_; clear hBe_
  have HBo := Lib.hid hBo_; have cBo := cells4 hBo_; have fBo := frozen_of hBo_; have zBo := lt_of_heap hBo_; clear hBo_
  have HBq := Lib.hid hBq_; have cBq := cells4 hBq_; have fBq := frozen_of hBq_; have zBq := lt_of_heap hBq_; clear hBq_
  go_wp2
  have hK := set4 (keep4 (b' := wb.heap.size) HBr.out (by omega) (.int .u64 n0) (.int .u64 n1) (.int .u64 n2) (.int .u64 n3)) (.int .u64 n0) (.int .u64 n1) (.int .u64 n2) (.int .u64 n3)
  have hL : Below w.heap.size w _ := set4_below (b := w.heap.size + 1) (set4_below (b := wb.heap.size) HB.out (by omega) (.int .u64 n0) (.int .u64 n1) (.int .u64 n2) (.int .u64 n3)) (by omega) (.int .u64 n0) (.int .u64 n1) (.int .u64 n2) (.int .u64 n3)
  obtain ⟨v, hv⟩ : ∃ x, x = ((((((((wz.setCell ⟨wb.heap.size, 0, none⟩ (.int .u64 n0)).setCell ⟨wb.heap.size, 1, none⟩ (.int .u64 n1)).setCell ⟨wb.heap.size, 2, none⟩ (.int .u64 n2)).setCell ⟨wb.heap.size, 3, none⟩ (.int .u64 n3)).setCell ⟨w.heap.size + 1, 0, none⟩ (.int .u64 n0)).setCell ⟨w.heap.size + 1, 1, none⟩ (.int .u64 n1)).setCell ⟨w.heap.size + 1, 2, none⟩ (.int .u64 n2)).setCell ⟨w.heap.size + 1, 3, none⟩ (.int .u64 n3)) := ⟨_, rfl⟩
  rw [← hv] at hK hL ⊢
  clear hv
  have hQ := cells4 hK
  exact bodyPost_ret (v := .tuple #[.agg #[.int .u64 n0, .int .u64 n1, .int .u64 n2, .int .u64 n3], .bool true]) (by simp [results, Try.results58, go_sem, hQ]) rfl ⟨rfl, hL⟩

end Go.Proofs.Ytgeldhdijochdaa
/- @@NUM 26 The walk of residue's Root. Conditions: words are below 2^64. -/
namespace Go.Proofs.Ytgeldhdijochdaa
set_option linter.unusedVariables false
set_option linter.unusedSimpArgs false
open Go Go.RowKit
open Pl (V V8 W4 T256 pP)
attribute [local go_sem ↓] eql_num neq_num


set_option maxHeartbeats 4000000 in
theorem root_C (a0 a1 a2 a3 s0 s1 s2 s3 t0 t1 t2 t3 m0 m1 m2 m3 : Nat) (FS : Hid (∀ w : World, Calls Try.prog 48 #[.agg #[.int .u64 a0, .int .u64 a1, .int .u64 a2, .int .u64 a3]] w fun e w' => e = .returned (.agg #[.int .u64 s0, .int .u64 s1, .int .u64 s2, .int .u64 s3]) ∧ Below w.heap.size w w')) (FP : Hid (∀ w : World, Calls Try.prog 59 #[.agg #[.int .u64 s0, .int .u64 s1, .int .u64 s2, .int .u64 s3], .agg #[.int .u64 18446744073709551614, .int .u64 18446744073709551615, .int .u64 18446744073709551615, .int .u64 1152921504606846975]] w fun e w' => e = .returned (.agg #[.int .u64 t0, .int .u64 t1, .int .u64 t2, .int .u64 t3]) ∧ Below w.heap.size w w')) (FM : Hid (∀ w : World, Calls Try.prog 46 #[.agg #[.int .u64 t0, .int .u64 t1, .int .u64 t2, .int .u64 t3], .agg #[.int .u64 t0, .int .u64 t1, .int .u64 t2, .int .u64 t3]] w fun e w' => e = .returned (.agg #[.int .u64 m0, .int .u64 m1, .int .u64 m2, .int .u64 m3]) ∧ Below w.heap.size w w')) (E1 : eqL [(m0 : Int), m1, m2, m3] [(s0 : Int), s1, s2, s3] = false) (i0 i1 i2 i3 u0 u1 u2 u3 k0 k1 k2 k3 : Nat) (FI : Hid (∀ w : World, Calls Try.prog 59 #[.agg #[.int .u64 2, .int .u64 0, .int .u64 0, .int .u64 0], .agg #[.int .u64 18446744073709551611, .int .u64 18446744073709551615, .int .u64 18446744073709551615, .int .u64 2305843009213693951]] w fun e w' => e = .returned (.agg #[.int .u64 i0, .int .u64 i1, .int .u64 i2, .int .u64 i3]) ∧ Below w.heap.size w w')) (FU : Hid (∀ w : World, Calls Try.prog 46 #[.agg #[.int .u64 t0, .int .u64 t1, .int .u64 t2, .int .u64 t3], .agg #[.int .u64 i0, .int .u64 i1, .int .u64 i2, .int .u64 i3]] w fun e w' => e = .returned (.agg #[.int .u64 u0, .int .u64 u1, .int .u64 u2, .int .u64 u3]) ∧ Below w.heap.size w w')) (FK : Hid (∀ w : World, Calls Try.prog 46 #[.agg #[.int .u64 u0, .int .u64 u1, .int .u64 u2, .int .u64 u3], .agg #[.int .u64 u0, .int .u64 u1, .int .u64 u2, .int .u64 u3]] w fun e w' => e = .returned (.agg #[.int .u64 k0, .int .u64 k1, .int .u64 k2, .int .u64 k3]) ∧ Below w.heap.size w w')) (E2 : eqL [(k0 : Int), k1, k2, k3] [(s0 : Int), s1, s2, s3] = false) (w : World) : Calls Try.prog 58 #[.agg #[.int .u64 a0, .int .u64 a1, .int .u64 a2, .int .u64 a3]] w fun e w' => e = .returned (.tuple #[.agg #[.int .u64 0, .int .u64 0, .int .u64 0, .int .u64 0], .bool false]) ∧ Below w.heap.size w w' := by
  go_enter Try.func58, Try.ntmps58
  go_wp2_with (fail)
  go_at_call 48
  refine (FS.out _).mono ?_
  rintro e wa ⟨rfl, hb⟩
  have HBn : Hid (Below w.heap.size w wa) := Lib.hid ((fun (h : Below _ _ _) => below_call h h.size hb) (by first | go_grown))
  have hBa_ : wa.heap[w.heap.size]? = some (.cells #[.int .u64 a0, .int .u64 a1, .int .u64 a2, .int .u64 a3] 26 (0, 0)) := heap_keep' hb (by repeat (first | (with_reducible refine heap_new' ?_ _; simp; done) | (with_reducible refine keep4 ?_ (by omega) _ _ _ _) | (with_reducible refine heap_old ?_ _) | (with_reducible refine heap_drew ?_) | (with_reducible refine heap_set_ne ?_ (by simp <;> omega) _)))
  have hBr_ : wa.heap[w.heap.size + 1]? = some (.cells #[.int .u64 0, .int .u64 0, .int .u64 0, .int .u64 0] 26 (0, 0)) := heap_keep' hb (by repeat (first | (with_reducible refine heap_new' ?_ _; simp; done) | (with_reducible refine keep4 ?_ (by omega) _ _ _ _) | (with_reducible refine heap_old ?_ _) | (with_reducible refine heap_drew ?_) | (with_reducible refine heap_set_ne ?_ (by simp <;> omega) _)))
  clear hb
  have HB := HBn; clear HBn
  have HBa := Lib.hid hBa_; have cBa := cells4 hBa_; have fBa := frozen_of hBa_; have zBa := lt_of_heap hBa_; clear hBa_
  have HBr := Lib.hid hBr_; have cBr := cells4 hBr_; have fBr := frozen_of hBr_; have zBr := lt_of_heap hBr_; clear hBr_
  go_wp2_with (fail)
  go_at_call 59
  refine (FP.out _).mono ?_
  rintro e wb ⟨rfl, hb⟩
  have HBn : Hid (Below w.heap.size w wb) := Lib.hid ((fun (h : Below _ _ _) => below_call h h.size hb) (by have hB0 := HB.out; have hS0 := hB0.size; first | (with_reducible exact hB0) | (with_reducible exact set4_below hB0 (by omega) _ _ _ _) | (with_reducible exact set4_below (set4_below hB0 (by omega) _ _ _ _) (by omega) _ _ _ _) | (with_reducible exact set4_below (set4_below (set4_below (set4_below hB0 (by omega) _ _ _ _) (by omega) _ _ _ _) (by omega) _ _ _ _) (by omega) _ _ _ _) | go_grown))
  have hBa_ : wb.heap[w.heap.size]? = some (.cells #[.int .u64 s0, .int .u64 s1, .int .u64 s2, .int .u64 s3] 26 (0, 0)) := heap_keep' hb (by repeat (first | (with_reducible exact HBa.out) | (with_reducible exact set4 HBa.out _ _ _ _) | (with_reducible apply set4) | (with_reducible refine heap_new' ?_ _; simp; done) | (with_reducible refine keep4 ?_ (by omega) _ _ _ _) | (with_reducible refine heap_old ?_ _) | (with_reducible refine heap_drew ?_) | (with_reducible refine heap_set_ne ?_ (by simp <;> omega) _)))
  have hBr_ : wb.heap[w.heap.size + 1]? = some (.cells #[.int .u64 0, .int .u64 0, .int .u64 0, .int .u64 0] 26 (0, 0)) := heap_keep' hb (by repeat (first | (with_reducible exact HBr.out) | (with_reducible exact set4 HBr.out _ _ _ _) | (with_reducible apply set4) | (with_reducible refine heap_new' ?_ _; simp; done) | (with_reducible refine keep4 ?_ (by omega) _ _ _ _) | (with_reducible refine heap_old ?_ _) | (with_reducible refine heap_drew ?_) | (with_reducible refine heap_set_ne ?_ (by simp <;> omega) _)))
  have hBe_ : wb.heap[wa.heap.size]? = some (.cells #[.int .u64 18446744073709551614, .int .u64 18446744073709551615, .int .u64 18446744073709551615, .int .u64 1152921504606846975] 26 (0, 0)) := heap_keep' hb (by repeat (first | (with_reducible refine heap_new' ?_ _; simp; done) | (with_reducible refine keep4 ?_ (by omega) _ _ _ _) | (with_reducible refine heap_old ?_ _) | (with_reducible refine heap_drew ?_) | (with_reducible refine heap_set_ne ?_ (by simp <;> omega) _)))
  clear hb HB HBa cBa fBa zBa HBr cBr fBr zBr
  have HB := HBn; clear HBn
  have HBa := Lib.hid hBa_; have cBa := cells4 hBa_; have fBa := frozen_of hBa_; have zBa := lt_of_heap hBa_; clear hBa_
  have HBr := Lib.hid hBr_; have cBr := cells4 hBr_; have fBr := frozen_of hBr_; have zBr := lt_of_heap hBr_; clear hBr_
  have HBe := Lib.hid hBe_; have cBe := cells4 hBe_; have fBe := frozen_of hBe_; have zBe := lt_of_heap hBe_; clear hBe_
  have q1 := zBr; have q2 := zBe
  go_wp2
  refine Rg.region_ (n := 38) [0, 0, 3, 0, 15] [1, 1, 1, 1, 0] [13, 14, 15, 16, 17] [[(5, none)], [(5, none)], [(13, some 0), (14, some 1)], [(1, none)], [(15, some 2), (16, some 3)]] 5 (by kernel_rfl) (by kernel_rfl) (by rfl) ?_
  intro W hW
  have hBa_ : W.heap[w.heap.size]? = some (.cells #[.int .u64 s0, .int .u64 s1, .int .u64 s2, .int .u64 s3] 26 (0, 0)) := by rw [hW]; exact (by repeat (first | (with_reducible exact HBa.out) | (with_reducible exact set4 HBa.out _ _ _ _) | (with_reducible apply set4) | (with_reducible refine heap_new' ?_ _; simp; done) | (with_reducible refine keep4 ?_ (by omega) _ _ _ _) | (with_reducible refine heap_old ?_ _) | (with_reducible refine heap_drew ?_) | (with_reducible refine heap_set_ne ?_ (by simp <;> omega) _)))
  have hBr_ : W.heap[w.heap.size + 1]? = some (.cells #[.int .u64 0, .int .u64 0, .int .u64 0, .int .u64 0] 26 (0, 0)) := by rw [hW]; exact (by repeat (first | (with_reducible exact HBr.out) | (with_reducible exact set4 HBr.out _ _ _ _) | (with_reducible apply set4) | (with_reducible refine heap_new' ?_ _; simp; done) | (with_reducible refine keep4 ?_ (by omega) _ _ _ _) | (with_reducible refine heap_old ?_ _) | (with_reducible refine heap_drew ?_) | (with_reducible refine heap_set_ne ?_ (by simp <;> omega) _)))
  have hBe_ : W.heap[wa.heap.size]? = some (.cells #[.int .u64 18446744073709551614, .int .u64 18446744073709551615, .int .u64 18446744073709551615, .int .u64 1152921504606846975] 26 (0, 0)) := by rw [hW]; exact (by repeat (first | (with_reducible exact HBe.out) | (with_reducible exact set4 HBe.out _ _ _ _) | (with_reducible apply set4) | (with_reducible refine heap_new' ?_ _; simp; done) | (with_reducible refine keep4 ?_ (by omega) _ _ _ _) | (with_reducible refine heap_old ?_ _) | (with_reducible refine heap_drew ?_) | (with_reducible refine heap_set_ne ?_ (by simp <;> omega) _)))
  have hBo_ : W.heap[wb.heap.size]? = some (.cells #[.int .u64 t0, .int .u64 t1, .int .u64 t2, .int .u64 t3] 26 (0, 0)) := by rw [hW]; exact (by repeat (first | (with_reducible refine heap_new' ?_ _; simp; done) | (with_reducible refine keep4 ?_ (by omega) _ _ _ _) | (with_reducible refine heap_old ?_ _) | (with_reducible refine heap_drew ?_) | (with_reducible refine heap_set_ne ?_ (by simp <;> omega) _)))
  have HB0 : Below w.heap.size w W := by rw [hW]; have hB0 := HB.out; have hS0 := hB0.size; first | exact hB0.drew | exact (set4_below hB0 (by omega) _ _ _ _).drew | go_grown
  change Rg.Chain' _ _ _ _ _ [(0, 1, 13, [(5, none)]), (1, 1, 14, [(5, none)]), (2, 1, 15, [(13, some 0), (14, some 1)]), (3, 1, 16, [(1, none)]), (4, 0, 17, [(15, some 2), (16, some 3)])] [(0, 1, 13, [(5, none)]), (1, 1, 14, [(5, none)]), (2, 1, 15, [(13, some 0), (14, some 1)]), (3, 1, 16, [(1, none)]), (4, 0, 17, [(15, some 2), (16, some 3)])] _
  apply Rg.ch_def (by rfl) (fun a w1 _ => Rg.wanted_none (by rfl))
  · rintro a w1 hb ⟨e5, -⟩
    conv at e5 => rhs; whnf
    have n5 := e5
    simp only [Act.eval, Array.getD_eq_getD_getElem?] at n5
    apply Rg.gives_value
    · conv => lhs; simp [go_sem, n5, cells4 (heap_keep' hb hBa_), cells4 (heap_keep' hb hBr_), cells4 (heap_keep' hb hBe_), cells4 (heap_keep' hb hBo_)]
    · exact ⟨rfl, Below.refl _ _⟩
  apply Rg.ch_def (by rfl) (fun a w1 _ => Rg.wanted_none (by rfl))
  · rintro a w1 hb ⟨e5, -⟩
    conv at e5 => rhs; whnf
    have n5 := e5
    simp only [Act.eval, Array.getD_eq_getD_getElem?] at n5
    apply Rg.gives_value
    · conv => lhs; simp [go_sem, n5, cells4 (heap_keep' hb hBa_), cells4 (heap_keep' hb hBr_), cells4 (heap_keep' hb hBe_), cells4 (heap_keep' hb hBo_)]
    · exact ⟨rfl, Below.refl _ _⟩
  apply Rg.ch_def (by rfl) (fun a w1 _ => Rg.wanted_none (by rfl))
  · rintro a w1 hb ⟨e13, e14, -⟩
    replace e13 : a.eval (.tmp 13) = _ := e13
    replace e14 : a.eval (.tmp 14) = _ := e14
    apply Rg.gives_enter
    · apply run_call Try.func46 (by kernel_rfl) rfl _ (by rfl)
      conv => lhs; simp only [List.map_toArray, List.map_cons, List.map_nil, eval_const_, eval_global_, e13, e14]
    · refine (FM.out _).mono ?_
      rintro e w2 ⟨rfl, hb2⟩
      exact ⟨_, rfl, rfl, hb2⟩
  apply Rg.ch_def (by rfl) (fun a w1 _ => Rg.wanted_none (by rfl))
  · rintro a w1 hb ⟨e1, -⟩
    conv at e1 => rhs; whnf
    have n1 := e1
    simp only [Act.eval, Array.getD_eq_getD_getElem?] at n1
    apply Rg.gives_value
    · conv => lhs; simp [go_sem, n1, cells4 (heap_keep' hb hBa_), cells4 (heap_keep' hb hBr_), cells4 (heap_keep' hb hBe_), cells4 (heap_keep' hb hBo_)]
    · exact ⟨rfl, Below.refl _ _⟩
  apply Rg.ch_pure (by rfl)
  · rintro a w1 ⟨e15, e16, -⟩
    replace e15 : a.eval (.tmp 15) = _ := e15
    have n15 := e15
    simp only [Act.eval, Array.getD_eq_getD_getElem?] at n15
    replace e16 : a.eval (.tmp 16) = _ := e16
    have n16 := e16
    simp only [Act.eval, Array.getD_eq_getD_getElem?] at n16
    apply Rg.yields_run (Rg.wanted_none (by rfl))
    intro w2
    conv => lhs; simp [go_sem, n15, n16, E1]
  intro w1 hb1
  rintro _ rfl _ rfl _ rfl _ rfl _ rfl
  change Go.wpList _ _ _ _ _ _
  simp only [List.drop_succ_cons, List.drop_zero, List.drop_nil, Act.put, List.setIfInBounds_toArray, List.set_cons_succ, List.set_cons_zero]
  change Go.NoPanic _ _ _ _
  refine NoPanic.normal ?_
  have HBn : Hid (Below w.heap.size w w1) := Lib.hid (below_call HB0 HB0.size hb1)
  have hBa__ := heap_keep' hb1 hBa_
  have hBr__ := heap_keep' hb1 hBr_
  have hBe__ := heap_keep' hb1 hBe_
  have hBo__ := heap_keep' hb1 hBo_
  clear hb1 HB0 HB hBa_ HBa cBa fBa zBa hBr_ HBr cBr fBr zBr hBe_ HBe cBe fBe zBe hBo_
  clear hW
  obtain ⟨wc, rfl⟩ : ∃ x : World, x = w1 := ⟨_, rfl⟩
  have HB := HBn; clear HBn
  have HBa := Lib.hid hBa__; have cBa := cells4 hBa__; have fBa := frozen_of hBa__; have zBa := lt_of_heap hBa__; clear hBa__
  have HBr := Lib.hid hBr__; have cBr := cells4 hBr__; have fBr := frozen_of hBr__; have zBr := lt_of_heap hBr__; clear hBr__
  have HBe := Lib.hid hBe__; have cBe := cells4 hBe__; have fBe := frozen_of hBe__; have zBe := lt_of_heap hBe__; clear hBe__
  have HBo := Lib.hid hBo__; have cBo := cells4 hBo__; have fBo := frozen_of hBo__; have zBo := lt_of_heap hBo__; clear hBo__
  have q3 := zBo
  go_wp2
  refine Rg.region_ (n := 38) [0, 0, 0, 6, 15, 31] [1, 0, 1, 1, 1, 2] [19, 20, 21, 22, 23, 0] [[(5, none)], [], [(6, none)], [(20, some 1), (21, some 2)], [(19, some 0), (22, some 3)], [(5, none), (23, some 4)]] 5 (by kernel_rfl) (by kernel_rfl) (by rfl) ?_
  intro W hW
  have hBa_ : W.heap[w.heap.size]? = some (.cells #[.int .u64 s0, .int .u64 s1, .int .u64 s2, .int .u64 s3] 26 (0, 0)) := by rw [hW]; exact (by repeat (first | (with_reducible exact HBa.out) | (with_reducible exact set4 HBa.out _ _ _ _) | (with_reducible apply set4) | (with_reducible refine heap_new' ?_ _; simp; done) | (with_reducible refine keep4 ?_ (by omega) _ _ _ _) | (with_reducible refine heap_old ?_ _) | (with_reducible refine heap_drew ?_) | (with_reducible refine heap_set_ne ?_ (by simp <;> omega) _)))
  have hBr_ : W.heap[w.heap.size + 1]? = some (.cells #[.int .u64 0, .int .u64 0, .int .u64 0, .int .u64 0] 26 (0, 0)) := by rw [hW]; exact (by repeat (first | (with_reducible exact HBr.out) | (with_reducible exact set4 HBr.out _ _ _ _) | (with_reducible apply set4) | (with_reducible refine heap_new' ?_ _; simp; done) | (with_reducible refine keep4 ?_ (by omega) _ _ _ _) | (with_reducible refine heap_old ?_ _) | (with_reducible refine heap_drew ?_) | (with_reducible refine heap_set_ne ?_ (by simp <;> omega) _)))
  have hBe_ : W.heap[wa.heap.size]? = some (.cells #[.int .u64 18446744073709551614, .int .u64 18446744073709551615, .int .u64 18446744073709551615, .int .u64 1152921504606846975] 26 (0, 0)) := by rw [hW]; exact (by repeat (first | (with_reducible exact HBe.out) | (with_reducible exact set4 HBe.out _ _ _ _) | (with_reducible apply set4) | (with_reducible refine heap_new' ?_ _; simp; done) | (with_reducible refine keep4 ?_ (by omega) _ _ _ _) | (with_reducible refine heap_old ?_ _) | (with_reducible refine heap_drew ?_) | (with_reducible refine heap_set_ne ?_ (by simp <;> omega) _)))
  have hBo_ : W.heap[wb.heap.size]? = some (.cells #[.int .u64 t0, .int .u64 t1, .int .u64 t2, .int .u64 t3] 26 (0, 0)) := by rw [hW]; exact (by repeat (first | (with_reducible exact HBo.out) | (with_reducible exact set4 HBo.out _ _ _ _) | (with_reducible apply set4) | (with_reducible refine heap_new' ?_ _; simp; done) | (with_reducible refine keep4 ?_ (by omega) _ _ _ _) | (with_reducible refine heap_old ?_ _) | (with_reducible refine heap_drew ?_) | (with_reducible refine heap_set_ne ?_ (by simp <;> omega) _)))
  have hBq_ : W.heap[wc.heap.size]? = some (.cells #[.int .u64 18446744073709551611, .int .u64 18446744073709551615, .int .u64 18446744073709551615, .int .u64 2305843009213693951] 26 (0, 0)) := by rw [hW]; exact (by repeat (first | (with_reducible refine heap_new' ?_ _; simp; done) | (with_reducible refine keep4 ?_ (by omega) _ _ _ _) | (with_reducible refine heap_old ?_ _) | (with_reducible refine heap_drew ?_) | (with_reducible refine heap_set_ne ?_ (by simp <;> omega) _)))
  have HB0 : Below w.heap.size w W := by rw [hW]; have hB0 := HB.out; have hS0 := hB0.size; first | exact hB0.drew | exact (set4_below hB0 (by omega) _ _ _ _).drew | go_grown
  change Rg.Chain' _ _ _ _ _ [(0, 1, 19, [(5, none)]), (1, 0, 20, []), (2, 1, 21, [(6, none)]), (3, 1, 22, [(20, some 1), (21, some 2)]), (4, 1, 23, [(19, some 0), (22, some 3)])] [(0, 1, 19, [(5, none)]), (1, 0, 20, []), (2, 1, 21, [(6, none)]), (3, 1, 22, [(20, some 1), (21, some 2)]), (4, 1, 23, [(19, some 0), (22, some 3)])] _
  apply Rg.ch_def (by rfl) (fun a w1 _ => Rg.wanted_none (by rfl))
  · rintro a w1 hb ⟨e5, -⟩
    conv at e5 => rhs; whnf
    have n5 := e5
    simp only [Act.eval, Array.getD_eq_getD_getElem?] at n5
    apply Rg.gives_value
    · conv => lhs; simp [go_sem, n5, cells4 (heap_keep' hb hBa_), cells4 (heap_keep' hb hBr_), cells4 (heap_keep' hb hBe_), cells4 (heap_keep' hb hBo_), cells4 (heap_keep' hb hBq_)]
    · exact ⟨rfl, Below.refl _ _⟩
  apply Rg.ch_pure (by rfl)
  · rintro a w1 -
    apply Rg.yields_run (Rg.wanted_none (by rfl))
    intro w2
    conv => lhs; simp [go_sem]
  apply Rg.ch_def (by rfl) (fun a w1 _ => Rg.wanted_none (by rfl))
  · rintro a w1 hb ⟨e6, -⟩
    conv at e6 => rhs; whnf
    have n6 := e6
    simp only [Act.eval, Array.getD_eq_getD_getElem?] at n6
    apply Rg.gives_value
    · conv => lhs; simp [go_sem, n6, cells4 (heap_keep' hb hBa_), cells4 (heap_keep' hb hBr_), cells4 (heap_keep' hb hBe_), cells4 (heap_keep' hb hBo_), cells4 (heap_keep' hb hBq_)]
    · exact ⟨rfl, Below.refl _ _⟩
  apply Rg.ch_def (by rfl) (fun a w1 _ => Rg.wanted_none (by rfl))
  · rintro a w1 hb ⟨e20, e21, -⟩
    replace e20 : a.eval (.tmp 20) = _ := e20
    replace e21 : a.eval (.tmp 21) = _ := e21
    apply Rg.gives_enter
    · apply run_call Try.func59 (by kernel_rfl) rfl _ (by rfl)
      conv => lhs; simp only [List.map_toArray, List.map_cons, List.map_nil, eval_const_, eval_global_, e20, e21]
    · refine (FI.out _).mono ?_
      rintro e w2 ⟨rfl, hb2⟩
      exact ⟨_, rfl, rfl, hb2⟩
  apply Rg.ch_def (by rfl) (fun a w1 _ => Rg.wanted_none (by rfl))
  · rintro a w1 hb ⟨e19, e22, -⟩
    replace e19 : a.eval (.tmp 19) = _ := e19
    replace e22 : a.eval (.tmp 22) = _ := e22
    apply Rg.gives_enter
    · apply run_call Try.func46 (by kernel_rfl) rfl _ (by rfl)
      conv => lhs; simp only [List.map_toArray, List.map_cons, List.map_nil, eval_const_, eval_global_, e19, e22]
    · refine (FU.out _).mono ?_
      rintro e w2 ⟨rfl, hb2⟩
      exact ⟨_, rfl, rfl, hb2⟩
  intro w1 hb1
  rintro _ rfl _ rfl _ rfl _ rfl _ rfl
  change Go.wpList _ _ _ _ _ _
  simp only [List.drop_succ_cons, List.drop_zero, List.drop_nil, Act.put, List.setIfInBounds_toArray, List.set_cons_succ, List.set_cons_zero]
  have HBn : Hid (Below w.heap.size w w1) := Lib.hid (below_call HB0 HB0.size hb1)
  have hBa__ := heap_keep' hb1 hBa_
  have hBr__ := heap_keep' hb1 hBr_
  have hBe__ := heap_keep' hb1 hBe_
  have hBo__ := heap_keep' hb1 hBo_
  have hBq__ := heap_keep' hb1 hBq_
  clear hb1 HB0 HB hBa_ HBa cBa fBa zBa hBr_ HBr cBr fBr zBr hBe_ HBe cBe fBe zBe hBo_ HBo cBo fBo zBo hBq_
  clear hW
  obtain ⟨wd, rfl⟩ : ∃ x : World, x = w1 := ⟨_, rfl⟩
  have HB := HBn; clear HBn
  have HBa := Lib.hid hBa__; have cBa := cells4 hBa__; have fBa := frozen_of hBa__; have zBa := lt_of_heap hBa__; clear hBa__
  have HBr := Lib.hid hBr__; have cBr := cells4 hBr__; have fBr := frozen_of hBr__; have zBr := lt_of_heap hBr__; clear hBr__
  have HBe := Lib.hid hBe__; have cBe := cells4 hBe__; have fBe := frozen_of hBe__; have zBe := lt_of_heap hBe__; clear hBe__
  have HBo := Lib.hid hBo__; have cBo := cells4 hBo__; have fBo := frozen_of hBo__; have zBo := lt_of_heap hBo__; clear hBo__
  have HBq := Lib.hid hBq__; have cBq := cells4 hBq__; have fBq := frozen_of hBq__; have zBq := lt_of_heap hBq__; clear hBq__
  go_wp2
  refine NoPanic.normal ?_
  go_wp2
  refine Rg.region_ (n := 38) [0, 0, 3, 0, 15] [1, 1, 1, 1, 0] [24, 25, 26, 27, 28] [[(5, none)], [(5, none)], [(24, some 0), (25, some 1)], [(1, none)], [(26, some 2), (27, some 3)]] 5 (by kernel_rfl) (by kernel_rfl) (by rfl) ?_
  intro W hW
  have hBa_ : W.heap[w.heap.size]? = some (.cells #[.int .u64 s0, .int .u64 s1, .int .u64 s2, .int .u64 s3] 26 (0, 0)) := by rw [hW]; exact (by repeat (first | (with_reducible exact HBa.out) | (with_reducible exact set4 HBa.out _ _ _ _) | (with_reducible apply set4) | (with_reducible refine heap_new' ?_ _; simp; done) | (with_reducible refine keep4 ?_ (by omega) _ _ _ _) | (with_reducible refine heap_old ?_ _) | (with_reducible refine heap_drew ?_) | (with_reducible refine heap_set_ne ?_ (by simp <;> omega) _)))
  have hBr_ : W.heap[w.heap.size + 1]? = some (.cells #[.int .u64 0, .int .u64 0, .int .u64 0, .int .u64 0] 26 (0, 0)) := by rw [hW]; exact (by repeat (first | (with_reducible exact HBr.out) | (with_reducible exact set4 HBr.out _ _ _ _) | (with_reducible apply set4) | (with_reducible refine heap_new' ?_ _; simp; done) | (with_reducible refine keep4 ?_ (by omega) _ _ _ _) | (with_reducible refine heap_old ?_ _) | (with_reducible refine heap_drew ?_) | (with_reducible refine heap_set_ne ?_ (by simp <;> omega) _)))
  have hBe_ : W.heap[wa.heap.size]? = some (.cells #[.int .u64 18446744073709551614, .int .u64 18446744073709551615, .int .u64 18446744073709551615, .int .u64 1152921504606846975] 26 (0, 0)) := by rw [hW]; exact (by repeat (first | (with_reducible exact HBe.out) | (with_reducible exact set4 HBe.out _ _ _ _) | (with_reducible apply set4) | (with_reducible refine heap_new' ?_ _; simp; done) | (with_reducible refine keep4 ?_ (by omega) _ _ _ _) | (with_reducible refine heap_old ?_ _) | (with_reducible refine heap_drew ?_) | (with_reducible refine heap_set_ne ?_ (by simp <;> omega) _)))
  have hBo_ : W.heap[wb.heap.size]? = some (.cells #[.int .u64 u0, .int .u64 u1, .int .u64 u2, .int .u64 u3] 26 (0, 0)) := by rw [hW]; exact (by repeat (first | (with_reducible exact HBo.out) | (with_reducible exact set4 HBo.out _ _ _ _) | (with_reducible apply set4) | (with_reducible refine heap_new' ?_ _; simp; done) | (with_reducible refine keep4 ?_ (by omega) _ _ _ _) | (with_reducible refine heap_old ?_ _) | (with_reducible refine heap_drew ?_) | (with_reducible refine heap_set_ne ?_ (by simp <;> omega) _)))
  have hBq_ : W.heap[wc.heap.size]? = some (.cells #[.int .u64 18446744073709551611, .int .u64 18446744073709551615, .int .u64 18446744073709551615, .int .u64 2305843009213693951] 26 (0, 0)) := by rw [hW]; exact (by repeat (first | (with_reducible exact HBq.out) | (with_reducible exact set4 HBq.out _ _ _ _) | (with_reducible apply set4) | (with_reducible refine heap_new' ?_ _; simp; done) | (with_reducible refine keep4 ?_ (by omega) _ _ _ _) | (with_reducible refine heap_old ?_ _) | (with_reducible refine heap_drew ?_) | (with_reducible refine heap_set_ne ?_ (by simp <;> omega) _)))
  have HB0 : Below w.heap.size w W := by rw [hW]; have hB0 := HB.out; have hS0 := hB0.size; first | exact hB0.drew | exact (set4_below hB0 (by omega) _ _ _ _).drew | go_grown
  change Rg.Chain' _ _ _ _ _ [(0, 1, 24, [(5, none)]), (1, 1, 25, [(5, none)]), (2, 1, 26, [(24, some 0), (25, some 1)]), (3, 1, 27, [(1, none)]), (4, 0, 28, [(26, some 2), (27, some 3)])] [(0, 1, 24, [(5, none)]), (1, 1, 25, [(5, none)]), (2, 1, 26, [(24, some 0), (25, some 1)]), (3, 1, 27, [(1, none)]), (4, 0, 28, [(26, some 2), (27, some 3)])] _
  apply Rg.ch_def (by rfl) (fun a w1 _ => Rg.wanted_none (by rfl))
  · rintro a w1 hb ⟨e5, -⟩
    conv at e5 => rhs; whnf
    have n5 := e5
    simp only [Act.eval, Array.getD_eq_getD_getElem?] at n5
    apply Rg.gives_value
    · conv => lhs; simp [go_sem, n5, cells4 (heap_keep' hb hBa_), cells4 (heap_keep' hb hBr_), cells4 (heap_keep' hb hBe_), cells4 (heap_keep' hb hBo_), cells4 (heap_keep' hb hBq_)]
    · exact ⟨rfl, Below.refl _ _⟩
  apply Rg.ch_def (by rfl) (fun a w1 _ => Rg.wanted_none (by rfl))
  · rintro a w1 hb ⟨e5, -⟩
    conv at e5 => rhs; whnf
    have n5 := e5
    simp only [Act.eval, Array.getD_eq_getD_getElem?] at n5
    apply Rg.gives_value
    · conv => lhs; simp [go_sem, n5, cells4 (heap_keep' hb hBa_), cells4 (heap_keep' hb hBr_), cells4 (heap_keep' hb hBe_), cells4 (heap_keep' hb hBo_), cells4 (heap_keep' hb hBq_)]
    · exact ⟨rfl, Below.refl _ _⟩
  apply Rg.ch_def (by rfl) (fun a w1 _ => Rg.wanted_none (by rfl))
  · rintro a w1 hb ⟨e24, e25, -⟩
    replace e24 : a.eval (.tmp 24) = _ := e24
    replace e25 : a.eval (.tmp 25) = _ := e25
    apply Rg.gives_enter
    · apply run_call Try.func46 (by kernel_rfl) rfl _ (by rfl)
      conv => lhs; simp only [List.map_toArray, List.map_cons, List.map_nil, eval_const_, eval_global_, e24, e25]
    · refine (FK.out _).mono ?_
      rintro e w2 ⟨rfl, hb2⟩
      exact ⟨_, rfl, rfl, hb2⟩
  apply Rg.ch_def (by rfl) (fun a w1 _ => Rg.wanted_none (by rfl))
  · rintro a w1 hb ⟨e1, -⟩
    conv at e1 => rhs; whnf
    have n1 := e1
    simp only [Act.eval, Array.getD_eq_getD_getElem?] at n1
    apply Rg.gives_value
    · conv => lhs; simp [go_sem, n1, cells4 (heap_keep' hb hBa_), cells4 (heap_keep' hb hBr_), cells4 (heap_keep' hb hBe_), cells4 (heap_keep' hb hBo_), cells4 (heap_keep' hb hBq_)]
    · exact ⟨rfl, Below.refl _ _⟩
  apply Rg.ch_pure (by rfl)
  · rintro a w1 ⟨e26, e27, -⟩
    replace e26 : a.eval (.tmp 26) = _ := e26
    have n26 := e26
    simp only [Act.eval, Array.getD_eq_getD_getElem?] at n26
    replace e27 : a.eval (.tmp 27) = _ := e27
    have n27 := e27
    simp only [Act.eval, Array.getD_eq_getD_getElem?] at n27
    apply Rg.yields_run (Rg.wanted_none (by rfl))
    intro w2
    conv => lhs; simp [go_sem, n26, n27, E2]
  intro w1 hb1
  rintro _ rfl _ rfl _ rfl _ rfl _ rfl
  change Go.wpList _ _ _ _ _ _
  simp only [List.drop_succ_cons, List.drop_zero, List.drop_nil, Act.put, List.setIfInBounds_toArray, List.set_cons_succ, List.set_cons_zero]
  change Go.NoPanic _ _ _ _
  refine NoPanic.normal ?_
  have HBn : Hid (Below w.heap.size w w1) := Lib.hid (below_call HB0 HB0.size hb1)
  have hBa__ := heap_keep' hb1 hBa_
  have hBr__ := heap_keep' hb1 hBr_
  have hBe__ := heap_keep' hb1 hBe_
  have hBo__ := heap_keep' hb1 hBo_
  have hBq__ := heap_keep' hb1 hBq_
  clear hb1 HB0 HB hBa_ HBa cBa fBa zBa hBr_ HBr cBr fBr zBr hBe_ HBe cBe fBe zBe hBo_ HBo cBo fBo zBo hBq_ HBq cBq fBq zBq
  clear hW
  obtain ⟨we, rfl⟩ : ∃ x : World, x = w1 := ⟨_, rfl⟩
  have HB := HBn; clear HBn
  have HBa := Lib.hid hBa__; have cBa := cells4 hBa__; have fBa := frozen_of hBa__; have zBa := lt_of_heap hBa__; clear hBa__
  have HBr := Lib.hid hBr__; have cBr := cells4 hBr__; have fBr := frozen_of hBr__; have zBr := lt_of_heap hBr__; clear hBr__
  have HBe := Lib.hid hBe__; have cBe := cells4 hBe__; have fBe := frozen_of hBe__; have zBe := lt_of_heap hBe__; clear hBe__
  have HBo := Lib.hid hBo__; have cBo := cells4 hBo__; have fBo := frozen_of hBo__; have zBo := lt_of_heap hBo__; clear hBo__
  have HBq := Lib.hid hBq__; have cBq := cells4 hBq__; have fBq := frozen_of hBq__; have zBq := lt_of_heap hBq__; clear hBq__
  go_wp2
  have hK := set4 HBr.out (.int .u64 0) (.int .u64 0) (.int .u64 0) (.int .u64 0)
  have hL : Below w.heap.size w _ := set4_below (b := w.heap.size + 1) HB.out (by omega) (.int .u64 0) (.int .u64 0) (.int .u64 0) (.int .u64 0)
  obtain ⟨v, hv⟩ : ∃ x, x = ((((we.setCell ⟨w.heap.size + 1, 0, none⟩ (.int .u64 0)).setCell ⟨w.heap.size + 1, 1, none⟩ (.int .u64 0)).setCell ⟨w.heap.size + 1, 2, none⟩ (.int .u64 0)).setCell ⟨w.heap.size + 1, 3, none⟩ (.int .u64 0)) := ⟨_, rfl⟩
  rw [← hv] at hK hL ⊢
  clear hv
  have hQ := cells4 hK
  exact bodyPost_ret (v := .tuple #[.agg #[.int .u64 0, .int .u64 0, .int .u64 0, .int .u64 0], .bool false]) (by simp [results, Try.results58, go_sem, hQ]) rfl ⟨rfl, hL⟩

end Go.Proofs.Ytgeldhdijochdaa
/- @@NUM 26 What residue's Root answers: the even root of a square, or that there is none. Conditions: words are below 2^64. -/
namespace Go.Proofs.Ytgeldhdijochdaa
set_option linter.unusedVariables false
set_option linter.unusedSimpArgs false
open Go Go.RowKit
open Pl (V V8 W4 T256 pP)

section
variable {ops : Array Oper}
theorem Rg.wanted_undef {o : Oper} {a : Act} {j s : Nat} {b : Bool} (h : o.guard = some (j, b)) (hd : Rg.dstOf ops j = some s) (he : a.eval (.tmp s) = undef) : Region.wanted o (yielded ops a.tmps) = false := by
  have h1 : a.tmps[s]? = none ∨ a.tmps[s]? = some undef := by
    simp only [Act.eval, Array.getD_eq_getD_getElem?] at he
    cases hx : a.tmps[s]? with
    | none => exact .inl rfl
    | some v => rw [hx] at he; rw [Option.getD_some] at he; rw [he]; exact .inr rfl
  unfold Rg.dstOf at hd
  rcases h1 with h1 | h1 <;> simp [Region.wanted, h, yielded, hd, h1, undef]
end

theorem eqL_true {a0 a1 a2 a3 b0 b1 b2 b3 : Nat} (ha : W4 a0 a1 a2 a3) (hb : W4 b0 b1 b2 b3) (h : V a0 a1 a2 a3 = V b0 b1 b2 b3) : eqL [(a0 : Int), a1, a2, a3] [(b0 : Int), b1, b2, b3] = true := (eqL_V ha hb).2 h
theorem eqL_false {a0 a1 a2 a3 b0 b1 b2 b3 : Nat} (ha : W4 a0 a1 a2 a3) (hb : W4 b0 b1 b2 b3) (h : V a0 a1 a2 a3 ≠ V b0 b1 b2 b3) : eqL [(a0 : Int), a1, a2, a3] [(b0 : Int), b1, b2, b3] = false := by
  cases e : eqL [(a0 : Int), a1, a2, a3] [(b0 : Int), b1, b2, b3]
  · rfl
  · exact absurd ((eqL_V ha hb).1 e) h
theorem zero4 : W4 0 0 0 0 := by unfold W4; omega
theorem V_zero4 : V 0 0 0 0 = 0 := by unfold V; omega

theorem Root_fact (a0 a1 a2 a3 : Nat) (ha : W4 a0 a1 a2 a3) : ∃ r0 r1 r2 r3 : Nat, ∃ z : Bool, Rooted r0 r1 r2 r3 z (V a0 a1 a2 a3 % pP) ∧ ∀ w : World,
    Calls Try.prog 58 #[.agg #[.int .u64 a0, .int .u64 a1, .int .u64 a2, .int .u64 a3]] w fun e w' => e = .returned (.tuple #[.agg #[.int .u64 r0, .int .u64 r1, .int .u64 r2, .int .u64 r3], .bool z]) ∧ Below w.heap.size w w' := by
  obtain ⟨s0, s1, s2, s3, ⟨hs, hsv⟩, FS⟩ := small_fact a0 a1 a2 a3 ha
  obtain ⟨t0, t1, t2, t3, ⟨ht, htv⟩, FT⟩ := Power_fact s0 s1 s2 s3 _ _ _ _ hs E8_W
  obtain ⟨m0, m1, m2, m3, ⟨hm, hmv⟩, FM⟩ := mul_fact t0 t1 t2 t3 t0 t1 t2 t3 ht ht
  have hA : V a0 a1 a2 a3 % pP < pP := Nat.mod_lt _ pP_pos
  rw [E8_V, hsv] at htv
  have htl : V t0 t1 t2 t3 < pP := by rw [htv]; exact Nat.mod_lt _ pP_pos
  have h0l : t0 < 18446744073709551616 := ht.1
  by_cases hE : V m0 m1 m2 m3 = V s0 s1 s2 s3
  · have E1 := eqL_true hm hs hE
    have hq : V t0 t1 t2 t3 * V t0 t1 t2 t3 % pP = V a0 a1 a2 a3 % pP := by rw [← hmv, hE, hsv]
    rcases Nat.mod_two_eq_zero_or_one t0 with hp | hp
    · exact ⟨t0, t1, t2, t3, true, ⟨ht, fun _ => ⟨htl, by rw [V_par, hp], hq⟩, fun h => by cases h⟩, fun w => root_A0 a0 a1 a2 a3 s0 s1 s2 s3 t0 t1 t2 t3 m0 m1 m2 m3 FS FT FM E1 (bit0_even h0l hp) w⟩
    · obtain ⟨n0, n1, n2, n3, ⟨hn, hnv⟩, FN⟩ := Sub_fact 0 0 0 0 t0 t1 t2 t3 zero4 ht
      have hodd : V t0 t1 t2 t3 % 2 = 1 := by rw [V_par, hp]
      obtain ⟨k1, k2, k3, k4⟩ := Pl.neg_root htl hodd
      rw [V_zero4, k1] at hnv
      exact ⟨n0, n1, n2, n3, true, ⟨hn, fun _ => by rw [hnv]; exact ⟨k3, k2, by rw [k4]; exact hq⟩, fun h => by cases h⟩, fun w => root_A1 a0 a1 a2 a3 s0 s1 s2 s3 t0 t1 t2 t3 m0 m1 m2 m3 FS FT FM E1 (bit0_odd h0l hp) n0 n1 n2 n3 FN w⟩
  · have E1 := eqL_false hm hs hE
    have W2 : W4 2 0 0 0 := W4_one (by omega)
    obtain ⟨i0, i1, i2, i3, ⟨hi, hiv⟩, FI⟩ := Power_fact 2 0 0 0 _ _ _ _ W2 Q4_W
    obtain ⟨u0, u1, u2, u3, ⟨hu, huv⟩, FU⟩ := mul_fact t0 t1 t2 t3 i0 i1 i2 i3 ht hi
    obtain ⟨k0, k1, k2, k3, ⟨hk, hkv⟩, FK⟩ := mul_fact u0 u1 u2 u3 u0 u1 u2 u3 hu hu
    rw [Q4_V, V_one] at hiv
    have hul : V u0 u1 u2 u3 < pP := by rw [huv]; exact Nat.mod_lt _ pP_pos
    have h0u : u0 < 18446744073709551616 := hu.1
    by_cases hE2 : V k0 k1 k2 k3 = V s0 s1 s2 s3
    · have E2 := eqL_true hk hs hE2
      have hq : V u0 u1 u2 u3 * V u0 u1 u2 u3 % pP = V a0 a1 a2 a3 % pP := by rw [← hkv, hE2, hsv]
      rcases Nat.mod_two_eq_zero_or_one u0 with hp | hp
      · exact ⟨u0, u1, u2, u3, true, ⟨hu, fun _ => ⟨hul, by rw [V_par, hp], hq⟩, fun h => by cases h⟩, fun w => root_B0 a0 a1 a2 a3 s0 s1 s2 s3 t0 t1 t2 t3 m0 m1 m2 m3 FS FT FM E1 i0 i1 i2 i3 u0 u1 u2 u3 k0 k1 k2 k3 FI FU FK E2 (bit0_even h0u hp) w⟩
      · obtain ⟨n0, n1, n2, n3, ⟨hn, hnv⟩, FN⟩ := Sub_fact 0 0 0 0 u0 u1 u2 u3 zero4 hu
        have hodd : V u0 u1 u2 u3 % 2 = 1 := by rw [V_par, hp]
        obtain ⟨k1, k2, k3, k4⟩ := Pl.neg_root hul hodd
        rw [V_zero4, k1] at hnv
        exact ⟨n0, n1, n2, n3, true, ⟨hn, fun _ => by rw [hnv]; exact ⟨k3, k2, by rw [k4]; exact hq⟩, fun h => by cases h⟩, fun w => root_B1 a0 a1 a2 a3 s0 s1 s2 s3 t0 t1 t2 t3 m0 m1 m2 m3 FS FT FM E1 i0 i1 i2 i3 u0 u1 u2 u3 _ _ _ _ FI FU FK E2 (bit0_odd h0u hp) n0 n1 n2 n3 FN w⟩
    · have E2 := eqL_false hk hs hE2
      refine ⟨0, 0, 0, 0, false, ⟨zero4, (fun h => by cases h), (fun _ => ⟨V_zero4, fun x => Pl.root_none hA htv hiv huv ?_ ?_ x⟩)⟩, fun w => root_C a0 a1 a2 a3 s0 s1 s2 s3 t0 t1 t2 t3 m0 m1 m2 m3 FS FT FM E1 i0 i1 i2 i3 u0 u1 u2 u3 k0 k1 k2 k3 FI FU FK E2 w⟩
      · intro h; exact hE (by rw [hmv, hsv]; exact h)
      · intro h; exact hE2 (by rw [hkv, hsv]; exact h)

end Go.Proofs.Ytgeldhdijochdaa
/- The machine's contracts of residue's functions on numbers. Conditions: none. -/
namespace Go.Proofs.Ytgeldhdijochdaa.Am
set_option linter.unusedVariables false
set_option linter.unusedSimpArgs false
open Go Go.RowKit
open Pl (V W4 T256 pP)
set_option linter.unusedSectionVars false
variable [GT]

theorem wd4 (n : Nat) : W4 (wd n 0) (wd n 1) (wd n 2) (wd n 3) := ⟨wd_lt _ _, wd_lt _ _, wd_lt _ _, wd_lt _ _⟩
theorem wdV (n : Nat) : V (wd n 0) (wd n 1) (wd n 2) (wd n 3) = n % T256 := by
  unfold Pl.V wd T256
  have e1 : (18446744073709551616 : Nat) ^ 0 = 1 := rfl
  have e2 : (18446744073709551616 : Nat) ^ 1 = 18446744073709551616 := rfl
  have e3 : (18446744073709551616 : Nat) ^ 2 = 340282366920938463463374607431768211456 := by decide +kernel
  have e4 : (18446744073709551616 : Nat) ^ 3 = 6277101735386680763835789423207666416102355444464034512896 := by decide +kernel
  rw [e1, e2, e3, e4]
  omega
theorem wd_of {a0 a1 a2 a3 : Nat} (h : W4 a0 a1 a2 a3) : wd (V a0 a1 a2 a3) 0 = a0 ∧ wd (V a0 a1 a2 a3) 1 = a1 ∧ wd (V a0 a1 a2 a3) 2 = a2 ∧ wd (V a0 a1 a2 a3) 3 = a3 := by
  have h1 := wdV (V a0 a1 a2 a3)
  rw [Nat.mod_eq_of_lt (Pl.V_lt h)] at h1
  exact Pl.V_inj (wd4 _) h h1
theorem num_of (ρ : Nat → Loc) {a0 a1 a2 a3 n : Nat} (h : W4 a0 a1 a2 a3) (hv : V a0 a1 a2 a3 = n) : (.agg #[.int .u64 a0, .int .u64 a1, .int .u64 a2, .int .u64 a3] : Value) = SV.conc ρ (.av (.one (.num n))) := by
  subst hv
  obtain ⟨e0, e1, e2, e3⟩ := wd_of h
  simp only [SV.conc, AV.conc, Seg.conc, words, word_wd, e0, e1, e2, e3]
  rfl
theorem num_wd (ρ : Nat → Loc) (n : Nat) : SV.conc ρ (.av (.one (.num n))) = (.agg #[.int .u64 (wd n 0), .int .u64 (wd n 1), .int .u64 (wd n 2), .int .u64 (wd n 3)] : Value) := rfl

/-! the functions -/
def nSub (a b : Nat) : Nat := (a % T256 % pP + (pP - b % T256 % pP)) % pP
def nPow (a b : Nat) : Nat := (a % T256) ^ (b % T256) % pP
def nSmall (a : Nat) : Nat := a % T256 % pP
def nLess (a b : Nat) : Bool := decide (a % T256 < b % T256)
def nZero (a : Nat) : Bool := decide (a % T256 = 0)
def nSum : List Nat → Nat
  | [] => 0
  | [a] => a % T256 % pP
  | [a, b] => (a % T256 + b % T256) % pP
  | [a, b, c] => (a % T256 + b % T256 + c % T256) % pP
  | _ => 0
def nPro : List Nat → Nat
  | [] => 1
  | [a] => a % T256 % pP
  | [a, b] => (a % T256 * (b % T256)) % pP
  | [a, b, c] => (a % T256 * (b % T256) * (c % T256)) % pP
  | _ => 0
/-- A square root, the even one; 0 where there is none. -/
noncomputable def nRoot (a : Nat) : Nat := open Classical in if h : ∃ r : Nat, r < pP ∧ r % 2 = 0 ∧ r * r % pP = a % T256 % pP then h.choose else 0
noncomputable def nIsSq (a : Nat) : Bool := @decide (∃ x : Nat, x * x % pP = a % T256 % pP) (Classical.propDecidable _)

def e1N (F : Nat → Nat) : Ent := fun args _ _ => match args with
  | [.av (.one (.num a))] => some { val := .av (.one (.num (F a))) }
  | _ => none
def e2N (F : Nat → Nat → Nat) : Ent := fun args _ _ => match args with
  | [.av (.one (.num a)), .av (.one (.num b))] => some { val := .av (.one (.num (F a b))) }
  | _ => none
def e0N (a : Nat) : Ent := fun args _ _ => match args with
  | [] => some { val := .av (.one (.num a)) }
  | _ => none
def e1B (F : Nat → Bool) : Ent := fun args _ _ => match args with
  | [.av (.one (.num a))] => some { val := ofV (.bool (F a)) }
  | _ => none
def e2B (F : Nat → Nat → Bool) : Ent := fun args _ _ => match args with
  | [.av (.one (.num a)), .av (.one (.num b))] => some { val := ofV (.bool (F a b)) }
  | _ => none
/-- The numbers of a list of segments. -/
def numsOf : List Seg → Option (List Nat)
  | [] => some []
  | .num a :: l => match numsOf l with
    | some r => some (a :: r)
    | none => none
  | _ => none
def eLN (ty : TypeId) (F : List Nat → Nat) : Ent := fun args G _ => match args with
  | [.av (.one (.s id 0 n m))] => match G id with
    | some ⟨0, t, c⟩ => match Nat.beq t ty, numsOf c with
      | true, some l => match Nat.beq l.length n && Nat.beq n m && (Nat.ble n 3 && Nat.ble 1 n) with
        | true => some { val := .av (.one (.num (F l))) }
        | false => none
      | _, _ => none
    | _ => none
  | [.av (.one (.v (.slice none 0 0)))] => some { val := .av (.one (.num (F []))) }
  | _ => none
noncomputable def eRoot : Ent := fun args _ _ => match args with
  | [.av (.one (.num a))] => some { val := .tup [.one (.num (nRoot a)), .one (.v (.bool (nIsSq a)))] }
  | _ => none

theorem has {f : FuncId} {fn : Func} (h1 : Try.prog.funcs[f]? = some fn) (h2 : (fn.name == "runtime.NumGoroutine") = false) (h3 : fn.body.isSome = true) : ∃ fn, Try.prog.funcs[f]? = some fn ∧ (fn.name == "runtime.NumGoroutine") = false ∧ fn.body.isSome = true := ⟨fn, h1, h2, h3⟩
theorem ok_e1N {f : FuncId} {F : Nat → Nat} (hf : ∃ fn, Try.prog.funcs[f]? = some fn ∧ (fn.name == "runtime.NumGoroutine") = false ∧ fn.body.isSome = true) (h : ∀ a0 a1 a2 a3 : Nat, W4 a0 a1 a2 a3 → ∃ r0 r1 r2 r3 : Nat, (W4 r0 r1 r2 r3 ∧ V r0 r1 r2 r3 = F (V a0 a1 a2 a3)) ∧ ∀ w : World, Calls Try.prog f #[.agg #[.int .u64 a0, .int .u64 a1, .int .u64 a2, .int .u64 a3]] w fun e w' => e = .returned (.agg #[.int .u64 r0, .int .u64 r1, .int .u64 r2, .int .u64 r3]) ∧ Below w.heap.size w w') (hF : ∀ a, F (a % T256) = F a) : EntOK Try.prog f (e1N F) := by
  refine ⟨hf, fun args G base res hr ha ρ D N M w hG hin hfr => ?_⟩
  unfold e1N at hr
  split at hr
  · rename_i a
    simp only [Option.some.injEq] at hr
    subst hr
    obtain ⟨r0, r1, r2, r3, ⟨hr, hv⟩, hc⟩ := h _ _ _ _ (wd4 a)
    rw [wdV, hF] at hv
    exact ent_val (hc w) hG (num_of ρ hr hv) rfl rfl
  · cases hr
theorem ok_e2N {f : FuncId} {F : Nat → Nat → Nat} (hf : ∃ fn, Try.prog.funcs[f]? = some fn ∧ (fn.name == "runtime.NumGoroutine") = false ∧ fn.body.isSome = true) (h : ∀ a0 a1 a2 a3 b0 b1 b2 b3 : Nat, W4 a0 a1 a2 a3 → W4 b0 b1 b2 b3 → ∃ r0 r1 r2 r3 : Nat, (W4 r0 r1 r2 r3 ∧ V r0 r1 r2 r3 = F (V a0 a1 a2 a3) (V b0 b1 b2 b3)) ∧ ∀ w : World, Calls Try.prog f #[.agg #[.int .u64 a0, .int .u64 a1, .int .u64 a2, .int .u64 a3], .agg #[.int .u64 b0, .int .u64 b1, .int .u64 b2, .int .u64 b3]] w fun e w' => e = .returned (.agg #[.int .u64 r0, .int .u64 r1, .int .u64 r2, .int .u64 r3]) ∧ Below w.heap.size w w') (hF : ∀ a b, F (a % T256) (b % T256) = F a b) : EntOK Try.prog f (e2N F) := by
  refine ⟨hf, fun args G base res hr ha ρ D N M w hG hin hfr => ?_⟩
  unfold e2N at hr
  split at hr
  · rename_i a b
    simp only [Option.some.injEq] at hr
    subst hr
    obtain ⟨r0, r1, r2, r3, ⟨hr, hv⟩, hc⟩ := h _ _ _ _ _ _ _ _ (wd4 a) (wd4 b)
    rw [wdV, wdV, hF] at hv
    exact ent_val (hc w) hG (num_of ρ hr hv) rfl rfl
  · cases hr
theorem ok_e0N {f : FuncId} {n : Nat} (hf : ∃ fn, Try.prog.funcs[f]? = some fn ∧ (fn.name == "runtime.NumGoroutine") = false ∧ fn.body.isSome = true) (h : ∃ r0 r1 r2 r3 : Nat, (W4 r0 r1 r2 r3 ∧ V r0 r1 r2 r3 = n) ∧ ∀ w : World, Calls Try.prog f #[] w fun e w' => e = .returned (.agg #[.int .u64 r0, .int .u64 r1, .int .u64 r2, .int .u64 r3]) ∧ Below w.heap.size w w') : EntOK Try.prog f (e0N n) := by
  refine ⟨hf, fun args G base res hr ha ρ D N M w hG hin hfr => ?_⟩
  unfold e0N at hr
  split at hr
  · simp only [Option.some.injEq] at hr
    subst hr
    obtain ⟨r0, r1, r2, r3, ⟨hr, hv⟩, hc⟩ := h
    exact ent_val (hc w) hG (num_of ρ hr hv) rfl rfl
  · cases hr
theorem ok_e1B {f : FuncId} {F : Nat → Bool} (hf : ∃ fn, Try.prog.funcs[f]? = some fn ∧ (fn.name == "runtime.NumGoroutine") = false ∧ fn.body.isSome = true) (h : ∀ a0 a1 a2 a3 : Nat, W4 a0 a1 a2 a3 → ∃ z : Bool, z = F (V a0 a1 a2 a3) ∧ ∀ w : World, Calls Try.prog f #[.agg #[.int .u64 a0, .int .u64 a1, .int .u64 a2, .int .u64 a3]] w fun e w' => e = .returned (.bool z) ∧ Below w.heap.size w w') (hF : ∀ a, F (a % T256) = F a) : EntOK Try.prog f (e1B F) := by
  refine ⟨hf, fun args G base res hr ha ρ D N M w hG hin hfr => ?_⟩
  unfold e1B at hr
  split at hr
  · rename_i a
    simp only [Option.some.injEq] at hr
    subst hr
    obtain ⟨z, hz, hc⟩ := h _ _ _ _ (wd4 a)
    rw [wdV, hF] at hz
    subst hz
    exact ent_val (hc w) hG rfl rfl rfl
  · cases hr
theorem ok_e2B {f : FuncId} {F : Nat → Nat → Bool} (hf : ∃ fn, Try.prog.funcs[f]? = some fn ∧ (fn.name == "runtime.NumGoroutine") = false ∧ fn.body.isSome = true) (h : ∀ a0 a1 a2 a3 b0 b1 b2 b3 : Nat, W4 a0 a1 a2 a3 → W4 b0 b1 b2 b3 → ∃ z : Bool, z = F (V a0 a1 a2 a3) (V b0 b1 b2 b3) ∧ ∀ w : World, Calls Try.prog f #[.agg #[.int .u64 a0, .int .u64 a1, .int .u64 a2, .int .u64 a3], .agg #[.int .u64 b0, .int .u64 b1, .int .u64 b2, .int .u64 b3]] w fun e w' => e = .returned (.bool z) ∧ Below w.heap.size w w') (hF : ∀ a b, F (a % T256) (b % T256) = F a b) : EntOK Try.prog f (e2B F) := by
  refine ⟨hf, fun args G base res hr ha ρ D N M w hG hin hfr => ?_⟩
  unfold e2B at hr
  split at hr
  · rename_i a b
    simp only [Option.some.injEq] at hr
    subst hr
    obtain ⟨z, hz, hc⟩ := h _ _ _ _ _ _ _ _ (wd4 a) (wd4 b)
    rw [wdV, wdV, hF] at hz
    subst hz
    exact ent_val (hc w) hG rfl rfl rfl
  · cases hr
theorem numsOf_spec : ∀ (c : List Seg) (l : List Nat), numsOf c = some l → c = l.map Seg.num
  | [], l, h => by simp only [numsOf, Option.some.injEq] at h; subst h; rfl
  | .num a :: c, l, h => by
    simp only [numsOf] at h
    split at h
    · rename_i r hr
      simp only [Option.some.injEq] at h
      subst h
      rw [numsOf_spec c r hr]; rfl
    · cases h
  | .v _ :: _, _, h | .arr _ _ :: _, _, h | .ap _ _ _ :: _, _, h | .p _ _ :: _, _, h | .s _ _ _ _ :: _, _, h | .r _ _ _ _ :: _, _, h => by simp [numsOf] at h
/-- What a function of a list of numbers is to meet. -/
def LN (f : FuncId) (F : List Nat → Nat) (l : List Nat) : Prop := ∀ (ρ : Nat → Loc) (b : Nat) (w : World), w.heap[b]? = some (.cells (segsVals ρ (l.map Seg.num)).toArray 26 (0, 0)) →
  Calls Try.prog f #[.slice (some ⟨b, 0, none⟩) l.length l.length] w fun e w' => e = .returned (SV.conc ρ (.av (.one (.num (F l))))) ∧ Below w.heap.size w w'
theorem ok_eLN {f : FuncId} {F : List Nat → Nat} (hf : ∃ fn, Try.prog.funcs[f]? = some fn ∧ (fn.name == "runtime.NumGoroutine") = false ∧ fn.body.isSome = true) (h0 : ∃ r0 r1 r2 r3 : Nat, (W4 r0 r1 r2 r3 ∧ V r0 r1 r2 r3 = F []) ∧ ∀ w : World, Calls Try.prog f #[.slice none 0 0] w fun e w' => e = .returned (.agg #[.int .u64 r0, .int .u64 r1, .int .u64 r2, .int .u64 r3]) ∧ Below w.heap.size w w')
    (h1 : ∀ a, LN f F [a]) (h2 : ∀ a b, LN f F [a, b]) (h3 : ∀ a b c, LN f F [a, b, c]) : EntOK Try.prog f (eLN 26 F) := by
  refine ⟨hf, fun args G base res hr ha ρ D N M w hG hin hfr => ?_⟩
  unfold eLN at hr
  split at hr
  · rename_i id n m
    split at hr
    · rename_i t c hb
      split at hr
      · rename_i l ht hl
        split at hr
        · rename_i hchk
          simp only [Bool.and_eq_true] at hchk
          simp only [Option.some.injEq] at hr
          subst hr
          have e1 := Nat.eq_of_beq_eq_true hchk.1.1
          have e2 := Nat.eq_of_beq_eq_true hchk.1.2
          have e3 := Nat.le_of_ble_eq_true hchk.2.1
          have e5 := Nat.le_of_ble_eq_true hchk.2.2
          have e4 := Nat.eq_of_beq_eq_true ht
          subst e1 e2 e4
          have hc := numsOf_spec c l hl
          subst hc
          obtain ⟨g, hg, hh⟩ := (hG.blk id _ hb).2.2
          have hargs : ([SV.av (.one (.s id 0 l.length l.length))].map (SV.conc ρ)).toArray = #[.slice (some ⟨g, 0, none⟩) l.length l.length] := by
            simp only [List.map_cons, List.map_nil, SV.conc, AV.conc, Seg.conc, hg, Option.map_some, Addr.add_lit]
          rw [hargs]
          have key : LN f F l → l ≠ [] → _ := fun hL _ => ent_val (hL ρ g w hh) hG (r := { val := .av (.one (.num (F l))) }) (base := base) rfl rfl rfl
          match l, e3, e5, key with
          | [], _, e5, _ => simp at e5
          | [a], _, _, key => exact key (h1 a) (by simp)
          | [a, b], _, _, key => exact key (h2 a b) (by simp)
          | [a, b, c], _, _, key => exact key (h3 a b c) (by simp)
          | _ :: _ :: _ :: _ :: _, e3, _, _ => simp at e3
        · cases hr
      · cases hr
    · cases hr
  · simp only [Option.some.injEq] at hr
    subst hr
    obtain ⟨r0, r1, r2, r3, ⟨hr, hv⟩, hc⟩ := h0
    exact ent_val (hc w) hG (num_of ρ hr hv) rfl rfl
  · cases hr

theorem mm (a : Nat) : a % T256 % T256 = a % T256 := Nat.mod_mod _ _
theorem Sub_ent : EntOK Try.prog 23 (e2N nSub) :=
  ok_e2N ⟨_, Try.func23, by kernel_rfl, by kernel_rfl⟩ (fun a0 a1 a2 a3 b0 b1 b2 b3 ha hb => by
    obtain ⟨r0, r1, r2, r3, ⟨hr, hv⟩, hc⟩ := Sub_fact a0 a1 a2 a3 b0 b1 b2 b3 ha hb
    exact ⟨r0, r1, r2, r3, ⟨hr, by rw [hv]; unfold nSub; rw [Nat.mod_eq_of_lt (Pl.V_lt ha), Nat.mod_eq_of_lt (Pl.V_lt hb)]⟩, hc⟩) (fun a b => by unfold nSub; rw [mm, mm])
theorem Power_ent : EntOK Try.prog 59 (e2N nPow) :=
  ok_e2N ⟨_, Try.func59, by kernel_rfl, by kernel_rfl⟩ (fun a0 a1 a2 a3 b0 b1 b2 b3 ha hb => by
    obtain ⟨r0, r1, r2, r3, ⟨hr, hv⟩, hc⟩ := Power_fact a0 a1 a2 a3 b0 b1 b2 b3 ha hb
    exact ⟨r0, r1, r2, r3, ⟨hr, by rw [hv]; unfold nPow; rw [Nat.mod_eq_of_lt (Pl.V_lt ha), Nat.mod_eq_of_lt (Pl.V_lt hb)]⟩, hc⟩) (fun a b => by unfold nPow; rw [mm, mm])
theorem small_ent : EntOK Try.prog 48 (e1N nSmall) :=
  ok_e1N ⟨_, Try.func48, by kernel_rfl, by kernel_rfl⟩ (fun a0 a1 a2 a3 ha => by
    obtain ⟨r0, r1, r2, r3, ⟨hr, hv⟩, hc⟩ := small_fact a0 a1 a2 a3 ha
    exact ⟨r0, r1, r2, r3, ⟨hr, by rw [hv]; unfold nSmall; rw [Nat.mod_eq_of_lt (Pl.V_lt ha)]⟩, hc⟩) (fun a => by unfold nSmall; rw [mm])
theorem Prime_ent : EntOK Try.prog 41 (e0N pP) :=
  ok_e0N ⟨_, Try.func41, by kernel_rfl, by kernel_rfl⟩ prime_fact
theorem Zero_ent : EntOK Try.prog 28 (e1B nZero) :=
  ok_e1B ⟨_, Try.func28, by kernel_rfl, by kernel_rfl⟩ (fun a0 a1 a2 a3 ha => by
    obtain ⟨z, hz, hc⟩ := zero_fact a0 a1 a2 a3
    refine ⟨z, ?_, hc⟩
    unfold nZero
    rw [Nat.mod_eq_of_lt (Pl.V_lt ha), Bool.eq_iff_iff, hz, decide_eq_true_iff]) (fun a => by unfold nZero; rw [mm])
theorem Less_ent : EntOK Try.prog 40 (e2B nLess) :=
  ok_e2B ⟨_, Try.func40, by kernel_rfl, by kernel_rfl⟩ (fun a0 a1 a2 a3 b0 b1 b2 b3 ha hb => by
    obtain ⟨z, hz, hc⟩ := less_fact a0 a1 a2 a3 b0 b1 b2 b3 ha hb
    refine ⟨z, ?_, hc⟩
    unfold nLess
    rw [Nat.mod_eq_of_lt (Pl.V_lt ha), Nat.mod_eq_of_lt (Pl.V_lt hb), Bool.eq_iff_iff, hz, decide_eq_true_iff]) (fun a b => by unfold nLess; rw [mm, mm])
theorem Add_ent : EntOK Try.prog 43 (eLN 26 nSum) :=
  ok_eLN ⟨_, Try.func43, by kernel_rfl, by kernel_rfl⟩ Add0_fact
    (fun a ρ b w hb => by
      obtain ⟨r0, r1, r2, r3, ⟨hr, hv⟩, hc⟩ := Add1_fact _ _ _ _ (wd4 a)
      rw [← num_of ρ hr (hv.trans (by rw [wdV]; rfl))]
      exact hc b w hb)
    (fun a b ρ g w hb => by
      obtain ⟨r0, r1, r2, r3, ⟨hr, hv⟩, hc⟩ := Add2_fact _ _ _ _ _ _ _ _ (wd4 a) (wd4 b)
      rw [← num_of ρ hr (hv.trans (by rw [wdV, wdV]; rfl))]
      exact hc g w hb)
    (fun a b c ρ g w hb => by
      obtain ⟨r0, r1, r2, r3, ⟨hr, hv⟩, hc⟩ := Add3_fact _ _ _ _ _ _ _ _ _ _ _ _ (wd4 a) (wd4 b) (wd4 c)
      rw [← num_of ρ hr (hv.trans (by rw [wdV, wdV, wdV]; rfl))]
      exact hc g w hb)
theorem Mul_ent : EntOK Try.prog 22 (eLN 26 nPro) :=
  ok_eLN ⟨_, Try.func22, by kernel_rfl, by kernel_rfl⟩ Mul0_fact
    (fun a ρ b w hb => by
      obtain ⟨r0, r1, r2, r3, ⟨hr, hv⟩, hc⟩ := Mul1_fact _ _ _ _ (wd4 a)
      rw [← num_of ρ hr (hv.trans (by rw [wdV]; rfl))]
      exact hc b w hb)
    (fun a b ρ g w hb => by
      obtain ⟨r0, r1, r2, r3, ⟨hr, hv⟩, hc⟩ := Mul2_fact _ _ _ _ _ _ _ _ (wd4 a) (wd4 b)
      rw [← num_of ρ hr (hv.trans (by rw [wdV, wdV]; rfl))]
      exact hc g w hb)
    (fun a b c ρ g w hb => by
      obtain ⟨r0, r1, r2, r3, ⟨hr, hv⟩, hc⟩ := Mul3_fact _ _ _ _ _ _ _ _ _ _ _ _ (wd4 a) (wd4 b) (wd4 c)
      rw [← num_of ρ hr (hv.trans (by rw [wdV, wdV, wdV]; rfl))]
      exact hc g w hb)
theorem root_uni {A r r' : Nat} (hA : A < pP) (h1 : r < pP ∧ r % 2 = 0 ∧ r * r % pP = A) (h2 : r' < pP ∧ r' % 2 = 0 ∧ r' * r' % pP = A) : r = r' :=
  Pl.same_root h1.1 h2.1 h1.2.1 h2.2.1 (h1.2.2.trans h2.2.2.symm)
theorem Root_ent : EntOK Try.prog 58 eRoot := by
  refine ⟨⟨_, Try.func58, by kernel_rfl, by kernel_rfl⟩, fun args G base res hr ha ρ D N M w hG hin hfr => ?_⟩
  unfold eRoot at hr
  split at hr
  · rename_i a
    simp only [Option.some.injEq] at hr
    subst hr
    obtain ⟨r0, r1, r2, r3, z, ⟨hw, ht, hf⟩, hc⟩ := Root_fact _ _ _ _ (wd4 a)
    rw [wdV] at ht hf
    have hAp : a % T256 % pP < pP := Nat.mod_lt _ (by decide +kernel)
    have key : V r0 r1 r2 r3 = nRoot a ∧ z = nIsSq a := by
      cases z with
      | true =>
        have h1 := ht rfl
        have hex : ∃ r : Nat, r < pP ∧ r % 2 = 0 ∧ r * r % pP = a % T256 % pP := ⟨_, h1⟩
        refine ⟨?_, ?_⟩
        · unfold nRoot
          rw [dif_pos hex]
          exact root_uni hAp h1 hex.choose_spec
        · unfold nIsSq
          exact (@decide_eq_true _ (Classical.propDecidable _) ⟨_, h1.2.2⟩).symm
      | false =>
        have h1 := hf rfl
        refine ⟨?_, ?_⟩
        · unfold nRoot
          rw [dif_neg (fun ⟨r, _, _, hr⟩ => h1.2 r hr)]
          exact h1.1
        · unfold nIsSq
          exact (@decide_eq_false _ (Classical.propDecidable _) fun ⟨x, hx⟩ => h1.2 x hx).symm
    refine ent_val (hc w) hG ?_ rfl rfl
    have e := num_of ρ hw key.1
    rw [e, key.2]
    rfl
  · cases hr

end Go.Proofs.Ytgeldhdijochdaa.Am
