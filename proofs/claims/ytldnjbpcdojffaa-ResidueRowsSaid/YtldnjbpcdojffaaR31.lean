/- @@NUM 25 The walk of law 08's ResidueRows. Conditions: words are below 2^64. -/
import Derived.Test.YtldnjbpcdojffaaR30
import Derived.Test.YtldnjbpcdojffaaR9
namespace Go.Proofs.Ytldnjbpcdojffaa
set_option linter.unusedVariables false
set_option linter.unusedSimpArgs false
open Go Go.RowKit
open Pl (V V8 W4 T256 pP le bytesOf)
attribute [local go_sem ↓] eql_num neq_num

theorem Bytes_bts (a0 a1 a2 a3 : Nat) (ha : W4 a0 a1 a2 a3) (w : World) : Calls Try.prog 18 #[.agg #[.int .u64 a0, .int .u64 a1, .int .u64 a2, .int .u64 a3]] w fun e w' => (∃ v, e = .returned v ∧ Bts w'.heap.size w' v (bytesOf 32 (V a0 a1 a2 a3)) ∧ w'.ownsRow w.heap.size 5 1 v 32 (u8s (bytesOf 32 (V a0 a1 a2 a3)))) ∧ Below w.heap.size w w' :=
  (Bytes_fact a0 a1 a2 a3 ha w).mono fun e w' ⟨⟨v, he, hown⟩, hb⟩ => ⟨⟨v, he, bts_owned (n := w.heap.size) (by rw [Pl.bytesOf_length]; exact hown), hown⟩, hb⟩

theorem index0 (x y z : Bool) (w : World) : (Instr.index 39 (.agg #[.bool x, .bool y, .bool z]) (.int .i64 0)).run Try.prog w = .ok (.bool x) w := by kernel_rfl
theorem index1 (x y z : Bool) (w : World) : (Instr.index 39 (.agg #[.bool x, .bool y, .bool z]) (.int .i64 1)).run Try.prog w = .ok (.bool y) w := by kernel_rfl
theorem index2 (x y z : Bool) (w : World) : (Instr.index 39 (.agg #[.bool x, .bool y, .bool z]) (.int .i64 2)).run Try.prog w = .ok (.bool z) w := by kernel_rfl
attribute [local go_sem ↓] index0 index1 index2
theorem eqL_yes {a0 a1 a2 a3 b0 b1 b2 b3 : Nat} (ha : W4 a0 a1 a2 a3) (hb : W4 b0 b1 b2 b3) (h : V a0 a1 a2 a3 = V b0 b1 b2 b3) : eqL [(a0 : Int), a1, a2, a3] [(b0 : Int), b1, b2, b3] = true := (eqL_V ha hb).2 h
theorem eqL_no {a0 a1 a2 a3 b0 b1 b2 b3 : Nat} (ha : W4 a0 a1 a2 a3) (hb : W4 b0 b1 b2 b3) (h : V a0 a1 a2 a3 ≠ V b0 b1 b2 b3) : eqL [(a0 : Int), a1, a2, a3] [(b0 : Int), b1, b2, b3] = false := by
  cases e : eqL [(a0 : Int), a1, a2, a3] [(b0 : Int), b1, b2, b3]
  · rfl
  · exact absurd ((eqL_V ha hb).1 e) h
theorem eqL_self {a0 a1 a2 a3 : Nat} : eqL [(a0 : Int), a1, a2, a3] [(a0 : Int), a1, a2, a3] = true := by simp [eqL]
theorem Of_bytes (a0 a1 a2 a3 : Nat) (ha : W4 a0 a1 a2 a3) : ∀ (sv : Value) (w : World), Bts w.heap.size w sv (bytesOf 32 (V a0 a1 a2 a3)) → Calls Try.prog 14 #[sv] w fun e w' => e = .returned (.tuple #[.agg #[.int .u64 a0, .int .u64 a1, .int .u64 a2, .int .u64 a3], .int .i64 0]) ∧ Below w.heap.size w w' := by
  obtain ⟨r0, r1, r2, r3, ⟨hr, hrv⟩, FO⟩ := Of_fact (bytesOf 32 (V a0 a1 a2 a3)) (Pl.bytesOf_lt _ _) (Pl.bytesOf_length _ _)
  rw [Pl.le_bytes32 (Pl.V_lt ha)] at hrv
  obtain ⟨rfl, rfl, rfl, rfl⟩ := Pl.V_inj hr ha hrv
  exact FO

set_option maxHeartbeats 8000000 in
theorem rows_A (a0 a1 a2 a3 b0 b1 b2 b3 c0 c1 c2 c3 : Nat) (ha : W4 a0 a1 a2 a3) (F1 : Hid (∀ w : World, Calls Try.prog 21 #[.agg #[.int .u64 a0, .int .u64 a1, .int .u64 a2, .int .u64 a3], .agg #[.int .u64 b0, .int .u64 b1, .int .u64 b2, .int .u64 b3]] w fun e w' => e = .returned (.bool true) ∧ Below w.heap.size w w')) (F2 : Hid (∀ w : World, Calls Try.prog 21 #[.agg #[.int .u64 b0, .int .u64 b1, .int .u64 b2, .int .u64 b3], .agg #[.int .u64 a0, .int .u64 a1, .int .u64 a2, .int .u64 a3]] w fun e w' => e = .returned (.bool false) ∧ Below w.heap.size w w')) (E : eqL [(a0 : Int), a1, a2, a3] [(b0 : Int), b1, b2, b3] = false) (F3 : Hid (∀ w : World, Calls Try.prog 21 #[.agg #[.int .u64 b0, .int .u64 b1, .int .u64 b2, .int .u64 b3], .agg #[.int .u64 c0, .int .u64 c1, .int .u64 c2, .int .u64 c3]] w fun e w' => e = .returned (.bool true) ∧ Below w.heap.size w w')) (F4 : Hid (∀ w : World, Calls Try.prog 21 #[.agg #[.int .u64 a0, .int .u64 a1, .int .u64 a2, .int .u64 a3], .agg #[.int .u64 c0, .int .u64 c1, .int .u64 c2, .int .u64 c3]] w fun e w' => e = .returned (.bool true) ∧ Below w.heap.size w w')) (w : World) : Calls Try.prog 4 #[.agg #[.int .u64 a0, .int .u64 a1, .int .u64 a2, .int .u64 a3], .agg #[.int .u64 b0, .int .u64 b1, .int .u64 b2, .int .u64 b3], .agg #[.int .u64 c0, .int .u64 c1, .int .u64 c2, .int .u64 c3]] w fun e w' => e = .returned (.bool true) ∧ Below w.heap.size w w' := by
  have H0 := Lib.hid awake_fact
  have HY := Lib.hid (Bytes_bts a0 a1 a2 a3 ha)
  have HO := Lib.hid (Of_bytes a0 a1 a2 a3 ha)
  obtain ⟨p0, p1, p2, p3, hpp, FP⟩ := prime_fact
  obtain ⟨s0, s1, s2, s3, ⟨hs, hsv⟩, FA⟩ := Add1_fact a0 a1 a2 a3 ha
  obtain ⟨z, hz, FL⟩ := less_fact s0 s1 s2 s3 p0 p1 p2 p3 hs hpp.1
  obtain rfl : z = true := hz.2 (by rw [hpp.2, hsv]; exact Nat.mod_lt _ pP_pos)
  have HP := Lib.hid FP; have HA := Lib.hid FA; have HL := Lib.hid FL
  have E5 := @eqL_self a0 a1 a2 a3
  clear FP FA FL hz hpp hs hsv ha
  go_enter Try.func4, Try.ntmps4
  go_wp2_with (fail)
  go_at_call 13
  refine (H0.out _).mono ?_
  rintro e wa ⟨rfl, hb⟩
  have HBn : Hid (Below w.heap.size w wa) := Lib.hid ((fun (h : Below _ _ _) => below_call h h.size hb) (by first | go_grown))
  have hBa_ : wa.heap[w.heap.size]? = some (.cells #[.int .u64 a0, .int .u64 a1, .int .u64 a2, .int .u64 a3] 25 (0, 0)) := heap_keep' hb (by repeat (first | (with_reducible refine heap_new' ?_ _; simp; done) | (with_reducible refine keep4 ?_ (by omega) _ _ _ _) | (with_reducible refine heap_old ?_ _) | (with_reducible refine heap_drew ?_) | (with_reducible refine heap_set_ne ?_ (by simp <;> omega) _)))
  have hBb_ : wa.heap[w.heap.size + 1]? = some (.cells #[.int .u64 b0, .int .u64 b1, .int .u64 b2, .int .u64 b3] 25 (0, 0)) := heap_keep' hb (by repeat (first | (with_reducible refine heap_new' ?_ _; simp; done) | (with_reducible refine keep4 ?_ (by omega) _ _ _ _) | (with_reducible refine heap_old ?_ _) | (with_reducible refine heap_drew ?_) | (with_reducible refine heap_set_ne ?_ (by simp <;> omega) _)))
  have hBc_ : wa.heap[w.heap.size + 1 + 1]? = some (.cells #[.int .u64 c0, .int .u64 c1, .int .u64 c2, .int .u64 c3] 25 (0, 0)) := heap_keep' hb (by repeat (first | (with_reducible refine heap_new' ?_ _; simp; done) | (with_reducible refine keep4 ?_ (by omega) _ _ _ _) | (with_reducible refine heap_old ?_ _) | (with_reducible refine heap_drew ?_) | (with_reducible refine heap_set_ne ?_ (by simp <;> omega) _)))
  clear hb
  have HB := HBn; clear HBn
  have HBa := Lib.hid hBa_; have cBa := cells4 hBa_; have fBa := frozen_of hBa_; have zBa := lt_of_heap hBa_; clear hBa_
  have HBb := Lib.hid hBb_; have cBb := cells4 hBb_; have fBb := frozen_of hBb_; have zBb := lt_of_heap hBb_; clear hBb_
  have HBc := Lib.hid hBc_; have cBc := cells4 hBc_; have fBc := frozen_of hBc_; have zBc := lt_of_heap hBc_; clear hBc_
  go_wp2
  refine Rg.region_ (n := 72) [0, 0, 3, 0, 0, 31, 0, 0, 192, 511, 0] [1, 1, 1, 1, 1, 1, 1, 1, 0, 0, 0] [14, 15, 16, 17, 18, 19, 20, 21, 22, 23, 24] [[(3, none)], [(4, none)], [(14, some 0), (15, some 1)], [(4, none)], [(3, none)], [(17, some 3), (18, some 4)], [(3, none)], [(4, none)], [(20, some 6), (21, some 7)], [(16, some 2), (19, some 5), (22, some 8)], []] 11 (by kernel_rfl) (by kernel_rfl) (by rfl) ?_
  intro W hW
  have hBa_ : W.heap[w.heap.size]? = some (.cells #[.int .u64 a0, .int .u64 a1, .int .u64 a2, .int .u64 a3] 25 (0, 0)) := by rw [hW]; exact (by repeat (first | (with_reducible exact HBa.out) | (with_reducible exact set4 HBa.out _ _ _ _) | (with_reducible apply set4) | (with_reducible refine heap_new' ?_ _; simp; done) | (with_reducible refine keep4 ?_ (by omega) _ _ _ _) | (with_reducible refine heap_old ?_ _) | (with_reducible refine heap_drew ?_) | (with_reducible refine heap_set_ne ?_ (by simp <;> omega) _)))
  have hBb_ : W.heap[w.heap.size + 1]? = some (.cells #[.int .u64 b0, .int .u64 b1, .int .u64 b2, .int .u64 b3] 25 (0, 0)) := by rw [hW]; exact (by repeat (first | (with_reducible exact HBb.out) | (with_reducible exact set4 HBb.out _ _ _ _) | (with_reducible apply set4) | (with_reducible refine heap_new' ?_ _; simp; done) | (with_reducible refine keep4 ?_ (by omega) _ _ _ _) | (with_reducible refine heap_old ?_ _) | (with_reducible refine heap_drew ?_) | (with_reducible refine heap_set_ne ?_ (by simp <;> omega) _)))
  have hBc_ : W.heap[w.heap.size + 1 + 1]? = some (.cells #[.int .u64 c0, .int .u64 c1, .int .u64 c2, .int .u64 c3] 25 (0, 0)) := by rw [hW]; exact (by repeat (first | (with_reducible exact HBc.out) | (with_reducible exact set4 HBc.out _ _ _ _) | (with_reducible apply set4) | (with_reducible refine heap_new' ?_ _; simp; done) | (with_reducible refine keep4 ?_ (by omega) _ _ _ _) | (with_reducible refine heap_old ?_ _) | (with_reducible refine heap_drew ?_) | (with_reducible refine heap_set_ne ?_ (by simp <;> omega) _)))
  have HB0 : Below w.heap.size w W := by rw [hW]; have hB0 := HB.out; have hS0 := hB0.size; first | exact hB0.drew | exact (set4_below hB0 (by omega) _ _ _ _).drew | go_grown
  change Rg.Chain' _ _ _ _ _ [(0, 1, 14, [(3, none)]), (1, 1, 15, [(4, none)]), (2, 1, 16, [(14, some 0), (15, some 1)]), (3, 1, 17, [(4, none)]), (4, 1, 18, [(3, none)]), (5, 1, 19, [(17, some 3), (18, some 4)]), (6, 1, 20, [(3, none)]), (7, 1, 21, [(4, none)]), (8, 0, 22, [(20, some 6), (21, some 7)]), (9, 0, 23, [(16, some 2), (19, some 5), (22, some 8)]), (10, 0, 24, [])] [(0, 1, 14, [(3, none)]), (1, 1, 15, [(4, none)]), (2, 1, 16, [(14, some 0), (15, some 1)]), (3, 1, 17, [(4, none)]), (4, 1, 18, [(3, none)]), (5, 1, 19, [(17, some 3), (18, some 4)]), (6, 1, 20, [(3, none)]), (7, 1, 21, [(4, none)]), (8, 0, 22, [(20, some 6), (21, some 7)]), (9, 0, 23, [(16, some 2), (19, some 5), (22, some 8)]), (10, 0, 24, [])] _
  apply Rg.ch_def (by rfl) (fun a w1 _ => Rg.wanted_none (by rfl))
  · rintro a w1 hb ⟨e3, -⟩
    conv at e3 => rhs; whnf
    have n3 := e3
    simp only [Act.eval, Array.getD_eq_getD_getElem?] at n3
    apply Rg.gives_value
    · conv => lhs; simp [go_sem, n3, cells4 (heap_keep' hb hBa_), cells4 (heap_keep' hb hBb_), cells4 (heap_keep' hb hBc_)]
    · exact ⟨rfl, Below.refl _ _⟩
  apply Rg.ch_def (by rfl) (fun a w1 _ => Rg.wanted_none (by rfl))
  · rintro a w1 hb ⟨e4, -⟩
    conv at e4 => rhs; whnf
    have n4 := e4
    simp only [Act.eval, Array.getD_eq_getD_getElem?] at n4
    apply Rg.gives_value
    · conv => lhs; simp [go_sem, n4, cells4 (heap_keep' hb hBa_), cells4 (heap_keep' hb hBb_), cells4 (heap_keep' hb hBc_)]
    · exact ⟨rfl, Below.refl _ _⟩
  apply Rg.ch_def (by rfl) (fun a w1 _ => Rg.wanted_none (by rfl))
  · rintro a w1 hb ⟨e14, e15, -⟩
    replace e14 : a.eval (.tmp 14) = _ := e14
    replace e15 : a.eval (.tmp 15) = _ := e15
    apply Rg.gives_enter
    · apply run_call Try.func21 (by kernel_rfl) rfl _ (by rfl)
      conv => lhs; simp only [List.map_toArray, List.map_cons, List.map_nil, eval_const_, eval_global_, e14, e15]
    · refine (F1.out _).mono ?_
      rintro e w2 ⟨rfl, hb2⟩
      exact ⟨_, rfl, rfl, hb2⟩
  apply Rg.ch_def (by rfl) (fun a w1 _ => Rg.wanted_none (by rfl))
  · rintro a w1 hb ⟨e4, -⟩
    conv at e4 => rhs; whnf
    have n4 := e4
    simp only [Act.eval, Array.getD_eq_getD_getElem?] at n4
    apply Rg.gives_value
    · conv => lhs; simp [go_sem, n4, cells4 (heap_keep' hb hBa_), cells4 (heap_keep' hb hBb_), cells4 (heap_keep' hb hBc_)]
    · exact ⟨rfl, Below.refl _ _⟩
  apply Rg.ch_def (by rfl) (fun a w1 _ => Rg.wanted_none (by rfl))
  · rintro a w1 hb ⟨e3, -⟩
    conv at e3 => rhs; whnf
    have n3 := e3
    simp only [Act.eval, Array.getD_eq_getD_getElem?] at n3
    apply Rg.gives_value
    · conv => lhs; simp [go_sem, n3, cells4 (heap_keep' hb hBa_), cells4 (heap_keep' hb hBb_), cells4 (heap_keep' hb hBc_)]
    · exact ⟨rfl, Below.refl _ _⟩
  apply Rg.ch_def (by rfl) (fun a w1 _ => Rg.wanted_none (by rfl))
  · rintro a w1 hb ⟨e17, e18, -⟩
    replace e17 : a.eval (.tmp 17) = _ := e17
    replace e18 : a.eval (.tmp 18) = _ := e18
    apply Rg.gives_enter
    · apply run_call Try.func21 (by kernel_rfl) rfl _ (by rfl)
      conv => lhs; simp only [List.map_toArray, List.map_cons, List.map_nil, eval_const_, eval_global_, e17, e18]
    · refine (F2.out _).mono ?_
      rintro e w2 ⟨rfl, hb2⟩
      exact ⟨_, rfl, rfl, hb2⟩
  apply Rg.ch_def (by rfl) (fun a w1 _ => Rg.wanted_none (by rfl))
  · rintro a w1 hb ⟨e3, -⟩
    conv at e3 => rhs; whnf
    have n3 := e3
    simp only [Act.eval, Array.getD_eq_getD_getElem?] at n3
    apply Rg.gives_value
    · conv => lhs; simp [go_sem, n3, cells4 (heap_keep' hb hBa_), cells4 (heap_keep' hb hBb_), cells4 (heap_keep' hb hBc_)]
    · exact ⟨rfl, Below.refl _ _⟩
  apply Rg.ch_def (by rfl) (fun a w1 _ => Rg.wanted_none (by rfl))
  · rintro a w1 hb ⟨e4, -⟩
    conv at e4 => rhs; whnf
    have n4 := e4
    simp only [Act.eval, Array.getD_eq_getD_getElem?] at n4
    apply Rg.gives_value
    · conv => lhs; simp [go_sem, n4, cells4 (heap_keep' hb hBa_), cells4 (heap_keep' hb hBb_), cells4 (heap_keep' hb hBc_)]
    · exact ⟨rfl, Below.refl _ _⟩
  apply Rg.ch_pure (by rfl)
  · rintro a w1 ⟨e20, e21, -⟩
    replace e20 : a.eval (.tmp 20) = _ := e20
    have n20 := e20
    simp only [Act.eval, Array.getD_eq_getD_getElem?] at n20
    replace e21 : a.eval (.tmp 21) = _ := e21
    have n21 := e21
    simp only [Act.eval, Array.getD_eq_getD_getElem?] at n21
    apply Rg.yields_run (Rg.wanted_none (by rfl))
    intro w2
    conv => lhs; simp [go_sem, n20, n21, E]
  apply Rg.ch_pure (by rfl)
  · rintro a w1 ⟨e16, e19, e22, -⟩
    replace e16 : a.eval (.tmp 16) = _ := e16
    have n16 := e16
    simp only [Act.eval, Array.getD_eq_getD_getElem?] at n16
    replace e19 : a.eval (.tmp 19) = _ := e19
    have n19 := e19
    simp only [Act.eval, Array.getD_eq_getD_getElem?] at n19
    replace e22 : a.eval (.tmp 22) = _ := e22
    have n22 := e22
    simp only [Act.eval, Array.getD_eq_getD_getElem?] at n22
    apply Rg.yields_run (Rg.wanted_none (by rfl))
    intro w2
    conv => lhs; simp [go_sem, n16, n19, n22, E]
  apply Rg.ch_pure (by rfl)
  · rintro a w1 -
    apply Rg.yields_run (Rg.wanted_none (by rfl))
    intro w2
    conv => lhs; simp [go_sem, E]
  intro w1 hb1
  rintro _ rfl _ rfl _ rfl _ rfl _ rfl _ rfl _ rfl _ rfl _ rfl _ rfl _ rfl
  change Go.wpList _ _ _ _ _ _
  simp only [List.drop_succ_cons, List.drop_zero, List.drop_nil, Act.put, List.setIfInBounds_toArray, List.set_cons_succ, List.set_cons_zero]
  change Go.NoPanic _ _ _ _
  refine NoPanic.normal ?_
  have HBn : Hid (Below w.heap.size w w1) := Lib.hid (below_call HB0 HB0.size hb1)
  have hBa__ := heap_keep' hb1 hBa_
  have hBb__ := heap_keep' hb1 hBb_
  have hBc__ := heap_keep' hb1 hBc_
  clear hb1 HB0 HB hBa_ HBa cBa fBa zBa hBb_ HBb cBb fBb zBb hBc_ HBc cBc fBc zBc
  clear hW
  obtain ⟨wb, rfl⟩ : ∃ x : World, x = w1 := ⟨_, rfl⟩
  have HB := HBn; clear HBn
  have HBa := Lib.hid hBa__; have cBa := cells4 hBa__; have fBa := frozen_of hBa__; have zBa := lt_of_heap hBa__; clear hBa__
  have HBb := Lib.hid hBb__; have cBb := cells4 hBb__; have fBb := frozen_of hBb__; have zBb := lt_of_heap hBb__; clear hBb__
  have HBc := Lib.hid hBc__; have cBc := cells4 hBc__; have fBc := frozen_of hBc__; have zBc := lt_of_heap hBc__; clear hBc__
  go_wp2
  refine wp_loop_rounds 4 ?_
  rw [rounds_succ]
  go_wp2
  rw [rounds_succ]
  go_wp2
  rw [rounds_succ]
  go_wp2
  rw [rounds_succ]
  go_wp2_with (fail)
  go_at_call 18
  refine (HY.out _).mono ?_
  rintro e wc ⟨⟨v, rfl, hBt, hown⟩, hb⟩
  have HBn : Hid (Below w.heap.size w wc) := Lib.hid ((fun (h : Below _ _ _) => below_call h h.size hb) (by have hB0 := HB.out; have hS0 := hB0.size; first | (with_reducible exact hB0) | (with_reducible exact set4_below hB0 (by omega) _ _ _ _) | (with_reducible exact set4_below (set4_below hB0 (by omega) _ _ _ _) (by omega) _ _ _ _) | (with_reducible exact set4_below (set4_below (set4_below (set4_below hB0 (by omega) _ _ _ _) (by omega) _ _ _ _) (by omega) _ _ _ _) (by omega) _ _ _ _) | go_grown))
  have hBa_ : wc.heap[w.heap.size]? = some (.cells #[.int .u64 a0, .int .u64 a1, .int .u64 a2, .int .u64 a3] 25 (0, 0)) := heap_keep' hb (by repeat (first | (with_reducible exact HBa.out) | (with_reducible exact set4 HBa.out _ _ _ _) | (with_reducible apply set4) | (with_reducible refine heap_new' ?_ _; simp; done) | (with_reducible refine keep4 ?_ (by omega) _ _ _ _) | (with_reducible refine heap_old ?_ _) | (with_reducible refine heap_drew ?_) | (with_reducible refine heap_set_ne ?_ (by simp <;> omega) _)))
  have hBb_ : wc.heap[w.heap.size + 1]? = some (.cells #[.int .u64 b0, .int .u64 b1, .int .u64 b2, .int .u64 b3] 25 (0, 0)) := heap_keep' hb (by repeat (first | (with_reducible exact HBb.out) | (with_reducible exact set4 HBb.out _ _ _ _) | (with_reducible apply set4) | (with_reducible refine heap_new' ?_ _; simp; done) | (with_reducible refine keep4 ?_ (by omega) _ _ _ _) | (with_reducible refine heap_old ?_ _) | (with_reducible refine heap_drew ?_) | (with_reducible refine heap_set_ne ?_ (by simp <;> omega) _)))
  have hBc_ : wc.heap[w.heap.size + 1 + 1]? = some (.cells #[.int .u64 c0, .int .u64 c1, .int .u64 c2, .int .u64 c3] 25 (0, 0)) := heap_keep' hb (by repeat (first | (with_reducible exact HBc.out) | (with_reducible exact set4 HBc.out _ _ _ _) | (with_reducible apply set4) | (with_reducible refine heap_new' ?_ _; simp; done) | (with_reducible refine keep4 ?_ (by omega) _ _ _ _) | (with_reducible refine heap_old ?_ _) | (with_reducible refine heap_drew ?_) | (with_reducible refine heap_set_ne ?_ (by simp <;> omega) _)))
  clear hb HB HBa cBa fBa zBa HBb cBb fBb zBb HBc cBc fBc zBc
  have HB := HBn; clear HBn
  have HBa := Lib.hid hBa_; have cBa := cells4 hBa_; have fBa := frozen_of hBa_; have zBa := lt_of_heap hBa_; clear hBa_
  have HBb := Lib.hid hBb_; have cBb := cells4 hBb_; have fBb := frozen_of hBb_; have zBb := lt_of_heap hBb_; clear hBb_
  have HBc := Lib.hid hBc_; have cBc := cells4 hBc_; have fBc := frozen_of hBc_; have zBc := lt_of_heap hBc_; clear hBc_
  go_wp2_with (fail)
  go_at_call 14
  refine (HO.out _ _ hBt).mono ?_
  rintro e wd ⟨rfl, hb⟩
  have HBn : Hid (Below w.heap.size w wd) := Lib.hid ((fun (h : Below _ _ _) => below_call h h.size hb) (by have hB0 := HB.out; have hS0 := hB0.size; first | (with_reducible exact hB0) | (with_reducible exact set4_below hB0 (by omega) _ _ _ _) | (with_reducible exact set4_below (set4_below hB0 (by omega) _ _ _ _) (by omega) _ _ _ _) | (with_reducible exact set4_below (set4_below (set4_below (set4_below hB0 (by omega) _ _ _ _) (by omega) _ _ _ _) (by omega) _ _ _ _) (by omega) _ _ _ _) | go_grown))
  have hBa_ : wd.heap[w.heap.size]? = some (.cells #[.int .u64 a0, .int .u64 a1, .int .u64 a2, .int .u64 a3] 25 (0, 0)) := heap_keep' hb (by repeat (first | (with_reducible exact HBa.out) | (with_reducible exact set4 HBa.out _ _ _ _) | (with_reducible apply set4) | (with_reducible refine heap_new' ?_ _; simp; done) | (with_reducible refine keep4 ?_ (by omega) _ _ _ _) | (with_reducible refine heap_old ?_ _) | (with_reducible refine heap_drew ?_) | (with_reducible refine heap_set_ne ?_ (by simp <;> omega) _)))
  have hBb_ : wd.heap[w.heap.size + 1]? = some (.cells #[.int .u64 b0, .int .u64 b1, .int .u64 b2, .int .u64 b3] 25 (0, 0)) := heap_keep' hb (by repeat (first | (with_reducible exact HBb.out) | (with_reducible exact set4 HBb.out _ _ _ _) | (with_reducible apply set4) | (with_reducible refine heap_new' ?_ _; simp; done) | (with_reducible refine keep4 ?_ (by omega) _ _ _ _) | (with_reducible refine heap_old ?_ _) | (with_reducible refine heap_drew ?_) | (with_reducible refine heap_set_ne ?_ (by simp <;> omega) _)))
  have hBc_ : wd.heap[w.heap.size + 1 + 1]? = some (.cells #[.int .u64 c0, .int .u64 c1, .int .u64 c2, .int .u64 c3] 25 (0, 0)) := heap_keep' hb (by repeat (first | (with_reducible exact HBc.out) | (with_reducible exact set4 HBc.out _ _ _ _) | (with_reducible apply set4) | (with_reducible refine heap_new' ?_ _; simp; done) | (with_reducible refine keep4 ?_ (by omega) _ _ _ _) | (with_reducible refine heap_old ?_ _) | (with_reducible refine heap_drew ?_) | (with_reducible refine heap_set_ne ?_ (by simp <;> omega) _)))
  clear hb HB HBa cBa fBa zBa HBb cBb fBb zBb HBc cBc fBc zBc
  have HB := HBn; clear HBn
  have HBa := Lib.hid hBa_; have cBa := cells4 hBa_; have fBa := frozen_of hBa_; have zBa := lt_of_heap hBa_; clear hBa_
  have HBb := Lib.hid hBb_; have cBb := cells4 hBb_; have fBb := frozen_of hBb_; have zBb := lt_of_heap hBb_; clear hBb_
  have HBc := Lib.hid hBc_; have cBc := cells4 hBc_; have fBc := frozen_of hBc_; have zBc := lt_of_heap hBc_; clear hBc_
  clear hBt hown
  go_wp2_with (fail)
  go_at_call 21
  refine (F1.out _).mono ?_
  rintro e we ⟨rfl, hb⟩
  have HBn : Hid (Below w.heap.size w we) := Lib.hid ((fun (h : Below _ _ _) => below_call h h.size hb) (by have hB0 := HB.out; have hS0 := hB0.size; first | (with_reducible exact hB0) | (with_reducible exact set4_below hB0 (by omega) _ _ _ _) | (with_reducible exact set4_below (set4_below hB0 (by omega) _ _ _ _) (by omega) _ _ _ _) | (with_reducible exact set4_below (set4_below (set4_below (set4_below hB0 (by omega) _ _ _ _) (by omega) _ _ _ _) (by omega) _ _ _ _) (by omega) _ _ _ _) | go_grown))
  have hBa_ : we.heap[w.heap.size]? = some (.cells #[.int .u64 a0, .int .u64 a1, .int .u64 a2, .int .u64 a3] 25 (0, 0)) := heap_keep' hb (by repeat (first | (with_reducible exact HBa.out) | (with_reducible exact set4 HBa.out _ _ _ _) | (with_reducible apply set4) | (with_reducible refine heap_new' ?_ _; simp; done) | (with_reducible refine keep4 ?_ (by omega) _ _ _ _) | (with_reducible refine heap_old ?_ _) | (with_reducible refine heap_drew ?_) | (with_reducible refine heap_set_ne ?_ (by simp <;> omega) _)))
  have hBb_ : we.heap[w.heap.size + 1]? = some (.cells #[.int .u64 b0, .int .u64 b1, .int .u64 b2, .int .u64 b3] 25 (0, 0)) := heap_keep' hb (by repeat (first | (with_reducible exact HBb.out) | (with_reducible exact set4 HBb.out _ _ _ _) | (with_reducible apply set4) | (with_reducible refine heap_new' ?_ _; simp; done) | (with_reducible refine keep4 ?_ (by omega) _ _ _ _) | (with_reducible refine heap_old ?_ _) | (with_reducible refine heap_drew ?_) | (with_reducible refine heap_set_ne ?_ (by simp <;> omega) _)))
  have hBc_ : we.heap[w.heap.size + 1 + 1]? = some (.cells #[.int .u64 c0, .int .u64 c1, .int .u64 c2, .int .u64 c3] 25 (0, 0)) := heap_keep' hb (by repeat (first | (with_reducible exact HBc.out) | (with_reducible exact set4 HBc.out _ _ _ _) | (with_reducible apply set4) | (with_reducible refine heap_new' ?_ _; simp; done) | (with_reducible refine keep4 ?_ (by omega) _ _ _ _) | (with_reducible refine heap_old ?_ _) | (with_reducible refine heap_drew ?_) | (with_reducible refine heap_set_ne ?_ (by simp <;> omega) _)))
  have hBx_ : we.heap[wd.heap.size]? = some (.cells #[.int .u64 a0, .int .u64 a1, .int .u64 a2, .int .u64 a3] 25 (0, 0)) := heap_keep' hb (by repeat (first | (with_reducible refine heap_new' ?_ _; simp; done) | (with_reducible refine keep4 ?_ (by omega) _ _ _ _) | (with_reducible refine heap_old ?_ _) | (with_reducible refine heap_drew ?_) | (with_reducible refine heap_set_ne ?_ (by simp <;> omega) _)))
  clear hb HB HBa cBa fBa zBa HBb cBb fBb zBb HBc cBc fBc zBc
  have HB := HBn; clear HBn
  have HBa := Lib.hid hBa_; have cBa := cells4 hBa_; have fBa := frozen_of hBa_; have zBa := lt_of_heap hBa_; clear hBa_
  have HBb := Lib.hid hBb_; have cBb := cells4 hBb_; have fBb := frozen_of hBb_; have zBb := lt_of_heap hBb_; clear hBb_
  have HBc := Lib.hid hBc_; have cBc := cells4 hBc_; have fBc := frozen_of hBc_; have zBc := lt_of_heap hBc_; clear hBc_
  have HBx := Lib.hid hBx_; have cBx := cells4 hBx_; have fBx := frozen_of hBx_; have zBx := lt_of_heap hBx_; clear hBx_
  go_wp2_with (fail)
  go_at_call 21
  refine (F3.out _).mono ?_
  rintro e wf ⟨rfl, hb⟩
  have HBn : Hid (Below w.heap.size w wf) := Lib.hid ((fun (h : Below _ _ _) => below_call h h.size hb) (by have hB0 := HB.out; have hS0 := hB0.size; first | (with_reducible exact hB0) | (with_reducible exact set4_below hB0 (by omega) _ _ _ _) | (with_reducible exact set4_below (set4_below hB0 (by omega) _ _ _ _) (by omega) _ _ _ _) | (with_reducible exact set4_below (set4_below (set4_below (set4_below hB0 (by omega) _ _ _ _) (by omega) _ _ _ _) (by omega) _ _ _ _) (by omega) _ _ _ _) | go_grown))
  have hBa_ : wf.heap[w.heap.size]? = some (.cells #[.int .u64 a0, .int .u64 a1, .int .u64 a2, .int .u64 a3] 25 (0, 0)) := heap_keep' hb (by repeat (first | (with_reducible exact HBa.out) | (with_reducible exact set4 HBa.out _ _ _ _) | (with_reducible apply set4) | (with_reducible refine heap_new' ?_ _; simp; done) | (with_reducible refine keep4 ?_ (by omega) _ _ _ _) | (with_reducible refine heap_old ?_ _) | (with_reducible refine heap_drew ?_) | (with_reducible refine heap_set_ne ?_ (by simp <;> omega) _)))
  have hBb_ : wf.heap[w.heap.size + 1]? = some (.cells #[.int .u64 b0, .int .u64 b1, .int .u64 b2, .int .u64 b3] 25 (0, 0)) := heap_keep' hb (by repeat (first | (with_reducible exact HBb.out) | (with_reducible exact set4 HBb.out _ _ _ _) | (with_reducible apply set4) | (with_reducible refine heap_new' ?_ _; simp; done) | (with_reducible refine keep4 ?_ (by omega) _ _ _ _) | (with_reducible refine heap_old ?_ _) | (with_reducible refine heap_drew ?_) | (with_reducible refine heap_set_ne ?_ (by simp <;> omega) _)))
  have hBc_ : wf.heap[w.heap.size + 1 + 1]? = some (.cells #[.int .u64 c0, .int .u64 c1, .int .u64 c2, .int .u64 c3] 25 (0, 0)) := heap_keep' hb (by repeat (first | (with_reducible exact HBc.out) | (with_reducible exact set4 HBc.out _ _ _ _) | (with_reducible apply set4) | (with_reducible refine heap_new' ?_ _; simp; done) | (with_reducible refine keep4 ?_ (by omega) _ _ _ _) | (with_reducible refine heap_old ?_ _) | (with_reducible refine heap_drew ?_) | (with_reducible refine heap_set_ne ?_ (by simp <;> omega) _)))
  have hBx_ : wf.heap[wd.heap.size]? = some (.cells #[.int .u64 a0, .int .u64 a1, .int .u64 a2, .int .u64 a3] 25 (0, 0)) := heap_keep' hb (by repeat (first | (with_reducible exact HBx.out) | (with_reducible exact set4 HBx.out _ _ _ _) | (with_reducible apply set4) | (with_reducible refine heap_new' ?_ _; simp; done) | (with_reducible refine keep4 ?_ (by omega) _ _ _ _) | (with_reducible refine heap_old ?_ _) | (with_reducible refine heap_drew ?_) | (with_reducible refine heap_set_ne ?_ (by simp <;> omega) _)))
  clear hb HB HBa cBa fBa zBa HBb cBb fBb zBb HBc cBc fBc zBc HBx cBx fBx zBx
  have HB := HBn; clear HBn
  have HBa := Lib.hid hBa_; have cBa := cells4 hBa_; have fBa := frozen_of hBa_; have zBa := lt_of_heap hBa_; clear hBa_
  have HBb := Lib.hid hBb_; have cBb := cells4 hBb_; have fBb := frozen_of hBb_; have zBb := lt_of_heap hBb_; clear hBb_
  have HBc := Lib.hid hBc_; have cBc := cells4 hBc_; have fBc := frozen_of hBc_; have zBc := lt_of_heap hBc_; clear hBc_
  have HBx := Lib.hid hBx_; have cBx := cells4 hBx_; have fBx := frozen_of hBx_; have zBx := lt_of_heap hBx_; clear hBx_
  go_wp2_with (fail)
  go_at_call 21
  refine (F4.out _).mono ?_
  rintro e wg ⟨rfl, hb⟩
  have HBn : Hid (Below w.heap.size w wg) := Lib.hid ((fun (h : Below _ _ _) => below_call h h.size hb) (by have hB0 := HB.out; have hS0 := hB0.size; first | (with_reducible exact hB0) | (with_reducible exact set4_below hB0 (by omega) _ _ _ _) | (with_reducible exact set4_below (set4_below hB0 (by omega) _ _ _ _) (by omega) _ _ _ _) | (with_reducible exact set4_below (set4_below (set4_below (set4_below hB0 (by omega) _ _ _ _) (by omega) _ _ _ _) (by omega) _ _ _ _) (by omega) _ _ _ _) | go_grown))
  have hBa_ : wg.heap[w.heap.size]? = some (.cells #[.int .u64 a0, .int .u64 a1, .int .u64 a2, .int .u64 a3] 25 (0, 0)) := heap_keep' hb (by repeat (first | (with_reducible exact HBa.out) | (with_reducible exact set4 HBa.out _ _ _ _) | (with_reducible apply set4) | (with_reducible refine heap_new' ?_ _; simp; done) | (with_reducible refine keep4 ?_ (by omega) _ _ _ _) | (with_reducible refine heap_old ?_ _) | (with_reducible refine heap_drew ?_) | (with_reducible refine heap_set_ne ?_ (by simp <;> omega) _)))
  have hBb_ : wg.heap[w.heap.size + 1]? = some (.cells #[.int .u64 b0, .int .u64 b1, .int .u64 b2, .int .u64 b3] 25 (0, 0)) := heap_keep' hb (by repeat (first | (with_reducible exact HBb.out) | (with_reducible exact set4 HBb.out _ _ _ _) | (with_reducible apply set4) | (with_reducible refine heap_new' ?_ _; simp; done) | (with_reducible refine keep4 ?_ (by omega) _ _ _ _) | (with_reducible refine heap_old ?_ _) | (with_reducible refine heap_drew ?_) | (with_reducible refine heap_set_ne ?_ (by simp <;> omega) _)))
  have hBc_ : wg.heap[w.heap.size + 1 + 1]? = some (.cells #[.int .u64 c0, .int .u64 c1, .int .u64 c2, .int .u64 c3] 25 (0, 0)) := heap_keep' hb (by repeat (first | (with_reducible exact HBc.out) | (with_reducible exact set4 HBc.out _ _ _ _) | (with_reducible apply set4) | (with_reducible refine heap_new' ?_ _; simp; done) | (with_reducible refine keep4 ?_ (by omega) _ _ _ _) | (with_reducible refine heap_old ?_ _) | (with_reducible refine heap_drew ?_) | (with_reducible refine heap_set_ne ?_ (by simp <;> omega) _)))
  have hBx_ : wg.heap[wd.heap.size]? = some (.cells #[.int .u64 a0, .int .u64 a1, .int .u64 a2, .int .u64 a3] 25 (0, 0)) := heap_keep' hb (by repeat (first | (with_reducible exact HBx.out) | (with_reducible exact set4 HBx.out _ _ _ _) | (with_reducible apply set4) | (with_reducible refine heap_new' ?_ _; simp; done) | (with_reducible refine keep4 ?_ (by omega) _ _ _ _) | (with_reducible refine heap_old ?_ _) | (with_reducible refine heap_drew ?_) | (with_reducible refine heap_set_ne ?_ (by simp <;> omega) _)))
  clear hb HB HBa cBa fBa zBa HBb cBb fBb zBb HBc cBc fBc zBc HBx cBx fBx zBx
  have HB := HBn; clear HBn
  have HBa := Lib.hid hBa_; have cBa := cells4 hBa_; have fBa := frozen_of hBa_; have zBa := lt_of_heap hBa_; clear hBa_
  have HBb := Lib.hid hBb_; have cBb := cells4 hBb_; have fBb := frozen_of hBb_; have zBb := lt_of_heap hBb_; clear hBb_
  have HBc := Lib.hid hBc_; have cBc := cells4 hBc_; have fBc := frozen_of hBc_; have zBc := lt_of_heap hBc_; clear hBc_
  have HBx := Lib.hid hBx_; have cBx := cells4 hBx_; have fBx := frozen_of hBx_; have zBx := lt_of_heap hBx_; clear hBx_
  go_wp2_with (fail)
  go_at_call 23
  refine (HA.out _ _ (heap_new' (by simp) _)).mono ?_
  rintro e wh ⟨rfl, hb⟩
  have HBn : Hid (Below w.heap.size w wh) := Lib.hid ((fun (h : Below _ _ _) => below_call h h.size hb) (by have hB0 := HB.out; have hS0 := hB0.size; first | (with_reducible exact hB0) | (with_reducible exact set4_below hB0 (by omega) _ _ _ _) | (with_reducible exact set4_below (set4_below hB0 (by omega) _ _ _ _) (by omega) _ _ _ _) | (with_reducible exact set4_below (set4_below (set4_below (set4_below hB0 (by omega) _ _ _ _) (by omega) _ _ _ _) (by omega) _ _ _ _) (by omega) _ _ _ _) | go_grown))
  have hBa_ : wh.heap[w.heap.size]? = some (.cells #[.int .u64 a0, .int .u64 a1, .int .u64 a2, .int .u64 a3] 25 (0, 0)) := heap_keep' hb (by repeat (first | (with_reducible exact HBa.out) | (with_reducible exact set4 HBa.out _ _ _ _) | (with_reducible apply set4) | (with_reducible refine heap_new' ?_ _; simp; done) | (with_reducible refine keep4 ?_ (by omega) _ _ _ _) | (with_reducible refine heap_old ?_ _) | (with_reducible refine heap_drew ?_) | (with_reducible refine heap_set_ne ?_ (by simp <;> omega) _)))
  have hBb_ : wh.heap[w.heap.size + 1]? = some (.cells #[.int .u64 b0, .int .u64 b1, .int .u64 b2, .int .u64 b3] 25 (0, 0)) := heap_keep' hb (by repeat (first | (with_reducible exact HBb.out) | (with_reducible exact set4 HBb.out _ _ _ _) | (with_reducible apply set4) | (with_reducible refine heap_new' ?_ _; simp; done) | (with_reducible refine keep4 ?_ (by omega) _ _ _ _) | (with_reducible refine heap_old ?_ _) | (with_reducible refine heap_drew ?_) | (with_reducible refine heap_set_ne ?_ (by simp <;> omega) _)))
  have hBc_ : wh.heap[w.heap.size + 1 + 1]? = some (.cells #[.int .u64 c0, .int .u64 c1, .int .u64 c2, .int .u64 c3] 25 (0, 0)) := heap_keep' hb (by repeat (first | (with_reducible exact HBc.out) | (with_reducible exact set4 HBc.out _ _ _ _) | (with_reducible apply set4) | (with_reducible refine heap_new' ?_ _; simp; done) | (with_reducible refine keep4 ?_ (by omega) _ _ _ _) | (with_reducible refine heap_old ?_ _) | (with_reducible refine heap_drew ?_) | (with_reducible refine heap_set_ne ?_ (by simp <;> omega) _)))
  have hBx_ : wh.heap[wd.heap.size]? = some (.cells #[.int .u64 a0, .int .u64 a1, .int .u64 a2, .int .u64 a3] 25 (0, 0)) := heap_keep' hb (by repeat (first | (with_reducible exact HBx.out) | (with_reducible exact set4 HBx.out _ _ _ _) | (with_reducible apply set4) | (with_reducible refine heap_new' ?_ _; simp; done) | (with_reducible refine keep4 ?_ (by omega) _ _ _ _) | (with_reducible refine heap_old ?_ _) | (with_reducible refine heap_drew ?_) | (with_reducible refine heap_set_ne ?_ (by simp <;> omega) _)))
  clear hb HB HBa cBa fBa zBa HBb cBb fBb zBb HBc cBc fBc zBc HBx cBx fBx zBx
  have HB := HBn; clear HBn
  have HBa := Lib.hid hBa_; have cBa := cells4 hBa_; have fBa := frozen_of hBa_; have zBa := lt_of_heap hBa_; clear hBa_
  have HBb := Lib.hid hBb_; have cBb := cells4 hBb_; have fBb := frozen_of hBb_; have zBb := lt_of_heap hBb_; clear hBb_
  have HBc := Lib.hid hBc_; have cBc := cells4 hBc_; have fBc := frozen_of hBc_; have zBc := lt_of_heap hBc_; clear hBc_
  have HBx := Lib.hid hBx_; have cBx := cells4 hBx_; have fBx := frozen_of hBx_; have zBx := lt_of_heap hBx_; clear hBx_
  go_wp2_with (fail)
  go_at_call 24
  refine (HP.out _).mono ?_
  rintro e wi ⟨rfl, hb⟩
  have HBn : Hid (Below w.heap.size w wi) := Lib.hid ((fun (h : Below _ _ _) => below_call h h.size hb) (by have hB0 := HB.out; have hS0 := hB0.size; first | (with_reducible exact hB0) | (with_reducible exact set4_below hB0 (by omega) _ _ _ _) | (with_reducible exact set4_below (set4_below hB0 (by omega) _ _ _ _) (by omega) _ _ _ _) | (with_reducible exact set4_below (set4_below (set4_below (set4_below hB0 (by omega) _ _ _ _) (by omega) _ _ _ _) (by omega) _ _ _ _) (by omega) _ _ _ _) | go_grown))
  have hBa_ : wi.heap[w.heap.size]? = some (.cells #[.int .u64 a0, .int .u64 a1, .int .u64 a2, .int .u64 a3] 25 (0, 0)) := heap_keep' hb (by repeat (first | (with_reducible exact HBa.out) | (with_reducible exact set4 HBa.out _ _ _ _) | (with_reducible apply set4) | (with_reducible refine heap_new' ?_ _; simp; done) | (with_reducible refine keep4 ?_ (by omega) _ _ _ _) | (with_reducible refine heap_old ?_ _) | (with_reducible refine heap_drew ?_) | (with_reducible refine heap_set_ne ?_ (by simp <;> omega) _)))
  have hBb_ : wi.heap[w.heap.size + 1]? = some (.cells #[.int .u64 b0, .int .u64 b1, .int .u64 b2, .int .u64 b3] 25 (0, 0)) := heap_keep' hb (by repeat (first | (with_reducible exact HBb.out) | (with_reducible exact set4 HBb.out _ _ _ _) | (with_reducible apply set4) | (with_reducible refine heap_new' ?_ _; simp; done) | (with_reducible refine keep4 ?_ (by omega) _ _ _ _) | (with_reducible refine heap_old ?_ _) | (with_reducible refine heap_drew ?_) | (with_reducible refine heap_set_ne ?_ (by simp <;> omega) _)))
  have hBc_ : wi.heap[w.heap.size + 1 + 1]? = some (.cells #[.int .u64 c0, .int .u64 c1, .int .u64 c2, .int .u64 c3] 25 (0, 0)) := heap_keep' hb (by repeat (first | (with_reducible exact HBc.out) | (with_reducible exact set4 HBc.out _ _ _ _) | (with_reducible apply set4) | (with_reducible refine heap_new' ?_ _; simp; done) | (with_reducible refine keep4 ?_ (by omega) _ _ _ _) | (with_reducible refine heap_old ?_ _) | (with_reducible refine heap_drew ?_) | (with_reducible refine heap_set_ne ?_ (by simp <;> omega) _)))
  have hBx_ : wi.heap[wd.heap.size]? = some (.cells #[.int .u64 a0, .int .u64 a1, .int .u64 a2, .int .u64 a3] 25 (0, 0)) := heap_keep' hb (by repeat (first | (with_reducible exact HBx.out) | (with_reducible exact set4 HBx.out _ _ _ _) | (with_reducible apply set4) | (with_reducible refine heap_new' ?_ _; simp; done) | (with_reducible refine keep4 ?_ (by omega) _ _ _ _) | (with_reducible refine heap_old ?_ _) | (with_reducible refine heap_drew ?_) | (with_reducible refine heap_set_ne ?_ (by simp <;> omega) _)))
  clear hb HB HBa cBa fBa zBa HBb cBb fBb zBb HBc cBc fBc zBc HBx cBx fBx zBx
  have HB := HBn; clear HBn
  have HBa := Lib.hid hBa_; have cBa := cells4 hBa_; have fBa := frozen_of hBa_; have zBa := lt_of_heap hBa_; clear hBa_
  have HBb := Lib.hid hBb_; have cBb := cells4 hBb_; have fBb := frozen_of hBb_; have zBb := lt_of_heap hBb_; clear hBb_
  have HBc := Lib.hid hBc_; have cBc := cells4 hBc_; have fBc := frozen_of hBc_; have zBc := lt_of_heap hBc_; clear hBc_
  have HBx := Lib.hid hBx_; have cBx := cells4 hBx_; have fBx := frozen_of hBx_; have zBx := lt_of_heap hBx_; clear hBx_
  go_wp2_with (fail)
  go_at_call 21
  refine (HL.out _).mono ?_
  rintro e wj ⟨rfl, hb⟩
  have HBn : Hid (Below w.heap.size w wj) := Lib.hid ((fun (h : Below _ _ _) => below_call h h.size hb) (by have hB0 := HB.out; have hS0 := hB0.size; first | (with_reducible exact hB0) | (with_reducible exact set4_below hB0 (by omega) _ _ _ _) | (with_reducible exact set4_below (set4_below hB0 (by omega) _ _ _ _) (by omega) _ _ _ _) | (with_reducible exact set4_below (set4_below (set4_below (set4_below hB0 (by omega) _ _ _ _) (by omega) _ _ _ _) (by omega) _ _ _ _) (by omega) _ _ _ _) | go_grown))
  have hBa_ : wj.heap[w.heap.size]? = some (.cells #[.int .u64 a0, .int .u64 a1, .int .u64 a2, .int .u64 a3] 25 (0, 0)) := heap_keep' hb (by repeat (first | (with_reducible exact HBa.out) | (with_reducible exact set4 HBa.out _ _ _ _) | (with_reducible apply set4) | (with_reducible refine heap_new' ?_ _; simp; done) | (with_reducible refine keep4 ?_ (by omega) _ _ _ _) | (with_reducible refine heap_old ?_ _) | (with_reducible refine heap_drew ?_) | (with_reducible refine heap_set_ne ?_ (by simp <;> omega) _)))
  have hBb_ : wj.heap[w.heap.size + 1]? = some (.cells #[.int .u64 b0, .int .u64 b1, .int .u64 b2, .int .u64 b3] 25 (0, 0)) := heap_keep' hb (by repeat (first | (with_reducible exact HBb.out) | (with_reducible exact set4 HBb.out _ _ _ _) | (with_reducible apply set4) | (with_reducible refine heap_new' ?_ _; simp; done) | (with_reducible refine keep4 ?_ (by omega) _ _ _ _) | (with_reducible refine heap_old ?_ _) | (with_reducible refine heap_drew ?_) | (with_reducible refine heap_set_ne ?_ (by simp <;> omega) _)))
  have hBc_ : wj.heap[w.heap.size + 1 + 1]? = some (.cells #[.int .u64 c0, .int .u64 c1, .int .u64 c2, .int .u64 c3] 25 (0, 0)) := heap_keep' hb (by repeat (first | (with_reducible exact HBc.out) | (with_reducible exact set4 HBc.out _ _ _ _) | (with_reducible apply set4) | (with_reducible refine heap_new' ?_ _; simp; done) | (with_reducible refine keep4 ?_ (by omega) _ _ _ _) | (with_reducible refine heap_old ?_ _) | (with_reducible refine heap_drew ?_) | (with_reducible refine heap_set_ne ?_ (by simp <;> omega) _)))
  have hBx_ : wj.heap[wd.heap.size]? = some (.cells #[.int .u64 a0, .int .u64 a1, .int .u64 a2, .int .u64 a3] 25 (0, 0)) := heap_keep' hb (by repeat (first | (with_reducible exact HBx.out) | (with_reducible exact set4 HBx.out _ _ _ _) | (with_reducible apply set4) | (with_reducible refine heap_new' ?_ _; simp; done) | (with_reducible refine keep4 ?_ (by omega) _ _ _ _) | (with_reducible refine heap_old ?_ _) | (with_reducible refine heap_drew ?_) | (with_reducible refine heap_set_ne ?_ (by simp <;> omega) _)))
  clear hb HB HBa cBa fBa zBa HBb cBb fBb zBb HBc cBc fBc zBc HBx cBx fBx zBx
  have HB := HBn; clear HBn
  have HBa := Lib.hid hBa_; have cBa := cells4 hBa_; have fBa := frozen_of hBa_; have zBa := lt_of_heap hBa_; clear hBa_
  have HBb := Lib.hid hBb_; have cBb := cells4 hBb_; have fBb := frozen_of hBb_; have zBb := lt_of_heap hBb_; clear hBb_
  have HBc := Lib.hid hBc_; have cBc := cells4 hBc_; have fBc := frozen_of hBc_; have zBc := lt_of_heap hBc_; clear hBc_
  have HBx := Lib.hid hBx_; have cBx := cells4 hBx_; have fBx := frozen_of hBx_; have zBx := lt_of_heap hBx_; clear hBx_
  go_wp2
  go_ret
  refine ⟨rfl, ?_⟩
  have hB0 := HB.out; have hS0 := hB0.size; first | exact hB0 | go_grown

set_option maxHeartbeats 8000000 in
theorem rows_B (a0 a1 a2 a3 b0 b1 b2 b3 c0 c1 c2 c3 : Nat) (ha : W4 a0 a1 a2 a3) (F1 : Hid (∀ w : World, Calls Try.prog 21 #[.agg #[.int .u64 a0, .int .u64 a1, .int .u64 a2, .int .u64 a3], .agg #[.int .u64 b0, .int .u64 b1, .int .u64 b2, .int .u64 b3]] w fun e w' => e = .returned (.bool true) ∧ Below w.heap.size w w')) (F2 : Hid (∀ w : World, Calls Try.prog 21 #[.agg #[.int .u64 b0, .int .u64 b1, .int .u64 b2, .int .u64 b3], .agg #[.int .u64 a0, .int .u64 a1, .int .u64 a2, .int .u64 a3]] w fun e w' => e = .returned (.bool false) ∧ Below w.heap.size w w')) (E : eqL [(a0 : Int), a1, a2, a3] [(b0 : Int), b1, b2, b3] = false) (F3 : Hid (∀ w : World, Calls Try.prog 21 #[.agg #[.int .u64 b0, .int .u64 b1, .int .u64 b2, .int .u64 b3], .agg #[.int .u64 c0, .int .u64 c1, .int .u64 c2, .int .u64 c3]] w fun e w' => e = .returned (.bool false) ∧ Below w.heap.size w w')) (w : World) : Calls Try.prog 4 #[.agg #[.int .u64 a0, .int .u64 a1, .int .u64 a2, .int .u64 a3], .agg #[.int .u64 b0, .int .u64 b1, .int .u64 b2, .int .u64 b3], .agg #[.int .u64 c0, .int .u64 c1, .int .u64 c2, .int .u64 c3]] w fun e w' => e = .returned (.bool true) ∧ Below w.heap.size w w' := by
  have H0 := Lib.hid awake_fact
  have HY := Lib.hid (Bytes_bts a0 a1 a2 a3 ha)
  have HO := Lib.hid (Of_bytes a0 a1 a2 a3 ha)
  obtain ⟨p0, p1, p2, p3, hpp, FP⟩ := prime_fact
  obtain ⟨s0, s1, s2, s3, ⟨hs, hsv⟩, FA⟩ := Add1_fact a0 a1 a2 a3 ha
  obtain ⟨z, hz, FL⟩ := less_fact s0 s1 s2 s3 p0 p1 p2 p3 hs hpp.1
  obtain rfl : z = true := hz.2 (by rw [hpp.2, hsv]; exact Nat.mod_lt _ pP_pos)
  have HP := Lib.hid FP; have HA := Lib.hid FA; have HL := Lib.hid FL
  have E5 := @eqL_self a0 a1 a2 a3
  clear FP FA FL hz hpp hs hsv ha
  go_enter Try.func4, Try.ntmps4
  go_wp2_with (fail)
  go_at_call 13
  refine (H0.out _).mono ?_
  rintro e wa ⟨rfl, hb⟩
  have HBn : Hid (Below w.heap.size w wa) := Lib.hid ((fun (h : Below _ _ _) => below_call h h.size hb) (by first | go_grown))
  have hBa_ : wa.heap[w.heap.size]? = some (.cells #[.int .u64 a0, .int .u64 a1, .int .u64 a2, .int .u64 a3] 25 (0, 0)) := heap_keep' hb (by repeat (first | (with_reducible refine heap_new' ?_ _; simp; done) | (with_reducible refine keep4 ?_ (by omega) _ _ _ _) | (with_reducible refine heap_old ?_ _) | (with_reducible refine heap_drew ?_) | (with_reducible refine heap_set_ne ?_ (by simp <;> omega) _)))
  have hBb_ : wa.heap[w.heap.size + 1]? = some (.cells #[.int .u64 b0, .int .u64 b1, .int .u64 b2, .int .u64 b3] 25 (0, 0)) := heap_keep' hb (by repeat (first | (with_reducible refine heap_new' ?_ _; simp; done) | (with_reducible refine keep4 ?_ (by omega) _ _ _ _) | (with_reducible refine heap_old ?_ _) | (with_reducible refine heap_drew ?_) | (with_reducible refine heap_set_ne ?_ (by simp <;> omega) _)))
  have hBc_ : wa.heap[w.heap.size + 1 + 1]? = some (.cells #[.int .u64 c0, .int .u64 c1, .int .u64 c2, .int .u64 c3] 25 (0, 0)) := heap_keep' hb (by repeat (first | (with_reducible refine heap_new' ?_ _; simp; done) | (with_reducible refine keep4 ?_ (by omega) _ _ _ _) | (with_reducible refine heap_old ?_ _) | (with_reducible refine heap_drew ?_) | (with_reducible refine heap_set_ne ?_ (by simp <;> omega) _)))
  clear hb
  have HB := HBn; clear HBn
  have HBa := Lib.hid hBa_; have cBa := cells4 hBa_; have fBa := frozen_of hBa_; have zBa := lt_of_heap hBa_; clear hBa_
  have HBb := Lib.hid hBb_; have cBb := cells4 hBb_; have fBb := frozen_of hBb_; have zBb := lt_of_heap hBb_; clear hBb_
  have HBc := Lib.hid hBc_; have cBc := cells4 hBc_; have fBc := frozen_of hBc_; have zBc := lt_of_heap hBc_; clear hBc_
  go_wp2
  refine Rg.region_ (n := 72) [0, 0, 3, 0, 0, 31, 0, 0, 192, 511, 0] [1, 1, 1, 1, 1, 1, 1, 1, 0, 0, 0] [14, 15, 16, 17, 18, 19, 20, 21, 22, 23, 24] [[(3, none)], [(4, none)], [(14, some 0), (15, some 1)], [(4, none)], [(3, none)], [(17, some 3), (18, some 4)], [(3, none)], [(4, none)], [(20, some 6), (21, some 7)], [(16, some 2), (19, some 5), (22, some 8)], []] 11 (by kernel_rfl) (by kernel_rfl) (by rfl) ?_
  intro W hW
  have hBa_ : W.heap[w.heap.size]? = some (.cells #[.int .u64 a0, .int .u64 a1, .int .u64 a2, .int .u64 a3] 25 (0, 0)) := by rw [hW]; exact (by repeat (first | (with_reducible exact HBa.out) | (with_reducible exact set4 HBa.out _ _ _ _) | (with_reducible apply set4) | (with_reducible refine heap_new' ?_ _; simp; done) | (with_reducible refine keep4 ?_ (by omega) _ _ _ _) | (with_reducible refine heap_old ?_ _) | (with_reducible refine heap_drew ?_) | (with_reducible refine heap_set_ne ?_ (by simp <;> omega) _)))
  have hBb_ : W.heap[w.heap.size + 1]? = some (.cells #[.int .u64 b0, .int .u64 b1, .int .u64 b2, .int .u64 b3] 25 (0, 0)) := by rw [hW]; exact (by repeat (first | (with_reducible exact HBb.out) | (with_reducible exact set4 HBb.out _ _ _ _) | (with_reducible apply set4) | (with_reducible refine heap_new' ?_ _; simp; done) | (with_reducible refine keep4 ?_ (by omega) _ _ _ _) | (with_reducible refine heap_old ?_ _) | (with_reducible refine heap_drew ?_) | (with_reducible refine heap_set_ne ?_ (by simp <;> omega) _)))
  have hBc_ : W.heap[w.heap.size + 1 + 1]? = some (.cells #[.int .u64 c0, .int .u64 c1, .int .u64 c2, .int .u64 c3] 25 (0, 0)) := by rw [hW]; exact (by repeat (first | (with_reducible exact HBc.out) | (with_reducible exact set4 HBc.out _ _ _ _) | (with_reducible apply set4) | (with_reducible refine heap_new' ?_ _; simp; done) | (with_reducible refine keep4 ?_ (by omega) _ _ _ _) | (with_reducible refine heap_old ?_ _) | (with_reducible refine heap_drew ?_) | (with_reducible refine heap_set_ne ?_ (by simp <;> omega) _)))
  have HB0 : Below w.heap.size w W := by rw [hW]; have hB0 := HB.out; have hS0 := hB0.size; first | exact hB0.drew | exact (set4_below hB0 (by omega) _ _ _ _).drew | go_grown
  change Rg.Chain' _ _ _ _ _ [(0, 1, 14, [(3, none)]), (1, 1, 15, [(4, none)]), (2, 1, 16, [(14, some 0), (15, some 1)]), (3, 1, 17, [(4, none)]), (4, 1, 18, [(3, none)]), (5, 1, 19, [(17, some 3), (18, some 4)]), (6, 1, 20, [(3, none)]), (7, 1, 21, [(4, none)]), (8, 0, 22, [(20, some 6), (21, some 7)]), (9, 0, 23, [(16, some 2), (19, some 5), (22, some 8)]), (10, 0, 24, [])] [(0, 1, 14, [(3, none)]), (1, 1, 15, [(4, none)]), (2, 1, 16, [(14, some 0), (15, some 1)]), (3, 1, 17, [(4, none)]), (4, 1, 18, [(3, none)]), (5, 1, 19, [(17, some 3), (18, some 4)]), (6, 1, 20, [(3, none)]), (7, 1, 21, [(4, none)]), (8, 0, 22, [(20, some 6), (21, some 7)]), (9, 0, 23, [(16, some 2), (19, some 5), (22, some 8)]), (10, 0, 24, [])] _
  apply Rg.ch_def (by rfl) (fun a w1 _ => Rg.wanted_none (by rfl))
  · rintro a w1 hb ⟨e3, -⟩
    conv at e3 => rhs; whnf
    have n3 := e3
    simp only [Act.eval, Array.getD_eq_getD_getElem?] at n3
    apply Rg.gives_value
    · conv => lhs; simp [go_sem, n3, cells4 (heap_keep' hb hBa_), cells4 (heap_keep' hb hBb_), cells4 (heap_keep' hb hBc_)]
    · exact ⟨rfl, Below.refl _ _⟩
  apply Rg.ch_def (by rfl) (fun a w1 _ => Rg.wanted_none (by rfl))
  · rintro a w1 hb ⟨e4, -⟩
    conv at e4 => rhs; whnf
    have n4 := e4
    simp only [Act.eval, Array.getD_eq_getD_getElem?] at n4
    apply Rg.gives_value
    · conv => lhs; simp [go_sem, n4, cells4 (heap_keep' hb hBa_), cells4 (heap_keep' hb hBb_), cells4 (heap_keep' hb hBc_)]
    · exact ⟨rfl, Below.refl _ _⟩
  apply Rg.ch_def (by rfl) (fun a w1 _ => Rg.wanted_none (by rfl))
  · rintro a w1 hb ⟨e14, e15, -⟩
    replace e14 : a.eval (.tmp 14) = _ := e14
    replace e15 : a.eval (.tmp 15) = _ := e15
    apply Rg.gives_enter
    · apply run_call Try.func21 (by kernel_rfl) rfl _ (by rfl)
      conv => lhs; simp only [List.map_toArray, List.map_cons, List.map_nil, eval_const_, eval_global_, e14, e15]
    · refine (F1.out _).mono ?_
      rintro e w2 ⟨rfl, hb2⟩
      exact ⟨_, rfl, rfl, hb2⟩
  apply Rg.ch_def (by rfl) (fun a w1 _ => Rg.wanted_none (by rfl))
  · rintro a w1 hb ⟨e4, -⟩
    conv at e4 => rhs; whnf
    have n4 := e4
    simp only [Act.eval, Array.getD_eq_getD_getElem?] at n4
    apply Rg.gives_value
    · conv => lhs; simp [go_sem, n4, cells4 (heap_keep' hb hBa_), cells4 (heap_keep' hb hBb_), cells4 (heap_keep' hb hBc_)]
    · exact ⟨rfl, Below.refl _ _⟩
  apply Rg.ch_def (by rfl) (fun a w1 _ => Rg.wanted_none (by rfl))
  · rintro a w1 hb ⟨e3, -⟩
    conv at e3 => rhs; whnf
    have n3 := e3
    simp only [Act.eval, Array.getD_eq_getD_getElem?] at n3
    apply Rg.gives_value
    · conv => lhs; simp [go_sem, n3, cells4 (heap_keep' hb hBa_), cells4 (heap_keep' hb hBb_), cells4 (heap_keep' hb hBc_)]
    · exact ⟨rfl, Below.refl _ _⟩
  apply Rg.ch_def (by rfl) (fun a w1 _ => Rg.wanted_none (by rfl))
  · rintro a w1 hb ⟨e17, e18, -⟩
    replace e17 : a.eval (.tmp 17) = _ := e17
    replace e18 : a.eval (.tmp 18) = _ := e18
    apply Rg.gives_enter
    · apply run_call Try.func21 (by kernel_rfl) rfl _ (by rfl)
      conv => lhs; simp only [List.map_toArray, List.map_cons, List.map_nil, eval_const_, eval_global_, e17, e18]
    · refine (F2.out _).mono ?_
      rintro e w2 ⟨rfl, hb2⟩
      exact ⟨_, rfl, rfl, hb2⟩
  apply Rg.ch_def (by rfl) (fun a w1 _ => Rg.wanted_none (by rfl))
  · rintro a w1 hb ⟨e3, -⟩
    conv at e3 => rhs; whnf
    have n3 := e3
    simp only [Act.eval, Array.getD_eq_getD_getElem?] at n3
    apply Rg.gives_value
    · conv => lhs; simp [go_sem, n3, cells4 (heap_keep' hb hBa_), cells4 (heap_keep' hb hBb_), cells4 (heap_keep' hb hBc_)]
    · exact ⟨rfl, Below.refl _ _⟩
  apply Rg.ch_def (by rfl) (fun a w1 _ => Rg.wanted_none (by rfl))
  · rintro a w1 hb ⟨e4, -⟩
    conv at e4 => rhs; whnf
    have n4 := e4
    simp only [Act.eval, Array.getD_eq_getD_getElem?] at n4
    apply Rg.gives_value
    · conv => lhs; simp [go_sem, n4, cells4 (heap_keep' hb hBa_), cells4 (heap_keep' hb hBb_), cells4 (heap_keep' hb hBc_)]
    · exact ⟨rfl, Below.refl _ _⟩
  apply Rg.ch_pure (by rfl)
  · rintro a w1 ⟨e20, e21, -⟩
    replace e20 : a.eval (.tmp 20) = _ := e20
    have n20 := e20
    simp only [Act.eval, Array.getD_eq_getD_getElem?] at n20
    replace e21 : a.eval (.tmp 21) = _ := e21
    have n21 := e21
    simp only [Act.eval, Array.getD_eq_getD_getElem?] at n21
    apply Rg.yields_run (Rg.wanted_none (by rfl))
    intro w2
    conv => lhs; simp [go_sem, n20, n21, E]
  apply Rg.ch_pure (by rfl)
  · rintro a w1 ⟨e16, e19, e22, -⟩
    replace e16 : a.eval (.tmp 16) = _ := e16
    have n16 := e16
    simp only [Act.eval, Array.getD_eq_getD_getElem?] at n16
    replace e19 : a.eval (.tmp 19) = _ := e19
    have n19 := e19
    simp only [Act.eval, Array.getD_eq_getD_getElem?] at n19
    replace e22 : a.eval (.tmp 22) = _ := e22
    have n22 := e22
    simp only [Act.eval, Array.getD_eq_getD_getElem?] at n22
    apply Rg.yields_run (Rg.wanted_none (by rfl))
    intro w2
    conv => lhs; simp [go_sem, n16, n19, n22, E]
  apply Rg.ch_pure (by rfl)
  · rintro a w1 -
    apply Rg.yields_run (Rg.wanted_none (by rfl))
    intro w2
    conv => lhs; simp [go_sem, E]
  intro w1 hb1
  rintro _ rfl _ rfl _ rfl _ rfl _ rfl _ rfl _ rfl _ rfl _ rfl _ rfl _ rfl
  change Go.wpList _ _ _ _ _ _
  simp only [List.drop_succ_cons, List.drop_zero, List.drop_nil, Act.put, List.setIfInBounds_toArray, List.set_cons_succ, List.set_cons_zero]
  change Go.NoPanic _ _ _ _
  refine NoPanic.normal ?_
  have HBn : Hid (Below w.heap.size w w1) := Lib.hid (below_call HB0 HB0.size hb1)
  have hBa__ := heap_keep' hb1 hBa_
  have hBb__ := heap_keep' hb1 hBb_
  have hBc__ := heap_keep' hb1 hBc_
  clear hb1 HB0 HB hBa_ HBa cBa fBa zBa hBb_ HBb cBb fBb zBb hBc_ HBc cBc fBc zBc
  clear hW
  obtain ⟨wb, rfl⟩ : ∃ x : World, x = w1 := ⟨_, rfl⟩
  have HB := HBn; clear HBn
  have HBa := Lib.hid hBa__; have cBa := cells4 hBa__; have fBa := frozen_of hBa__; have zBa := lt_of_heap hBa__; clear hBa__
  have HBb := Lib.hid hBb__; have cBb := cells4 hBb__; have fBb := frozen_of hBb__; have zBb := lt_of_heap hBb__; clear hBb__
  have HBc := Lib.hid hBc__; have cBc := cells4 hBc__; have fBc := frozen_of hBc__; have zBc := lt_of_heap hBc__; clear hBc__
  go_wp2
  refine wp_loop_rounds 4 ?_
  rw [rounds_succ]
  go_wp2
  rw [rounds_succ]
  go_wp2
  rw [rounds_succ]
  go_wp2
  rw [rounds_succ]
  go_wp2_with (fail)
  go_at_call 18
  refine (HY.out _).mono ?_
  rintro e wc ⟨⟨v, rfl, hBt, hown⟩, hb⟩
  have HBn : Hid (Below w.heap.size w wc) := Lib.hid ((fun (h : Below _ _ _) => below_call h h.size hb) (by have hB0 := HB.out; have hS0 := hB0.size; first | (with_reducible exact hB0) | (with_reducible exact set4_below hB0 (by omega) _ _ _ _) | (with_reducible exact set4_below (set4_below hB0 (by omega) _ _ _ _) (by omega) _ _ _ _) | (with_reducible exact set4_below (set4_below (set4_below (set4_below hB0 (by omega) _ _ _ _) (by omega) _ _ _ _) (by omega) _ _ _ _) (by omega) _ _ _ _) | go_grown))
  have hBa_ : wc.heap[w.heap.size]? = some (.cells #[.int .u64 a0, .int .u64 a1, .int .u64 a2, .int .u64 a3] 25 (0, 0)) := heap_keep' hb (by repeat (first | (with_reducible exact HBa.out) | (with_reducible exact set4 HBa.out _ _ _ _) | (with_reducible apply set4) | (with_reducible refine heap_new' ?_ _; simp; done) | (with_reducible refine keep4 ?_ (by omega) _ _ _ _) | (with_reducible refine heap_old ?_ _) | (with_reducible refine heap_drew ?_) | (with_reducible refine heap_set_ne ?_ (by simp <;> omega) _)))
  have hBb_ : wc.heap[w.heap.size + 1]? = some (.cells #[.int .u64 b0, .int .u64 b1, .int .u64 b2, .int .u64 b3] 25 (0, 0)) := heap_keep' hb (by repeat (first | (with_reducible exact HBb.out) | (with_reducible exact set4 HBb.out _ _ _ _) | (with_reducible apply set4) | (with_reducible refine heap_new' ?_ _; simp; done) | (with_reducible refine keep4 ?_ (by omega) _ _ _ _) | (with_reducible refine heap_old ?_ _) | (with_reducible refine heap_drew ?_) | (with_reducible refine heap_set_ne ?_ (by simp <;> omega) _)))
  have hBc_ : wc.heap[w.heap.size + 1 + 1]? = some (.cells #[.int .u64 c0, .int .u64 c1, .int .u64 c2, .int .u64 c3] 25 (0, 0)) := heap_keep' hb (by repeat (first | (with_reducible exact HBc.out) | (with_reducible exact set4 HBc.out _ _ _ _) | (with_reducible apply set4) | (with_reducible refine heap_new' ?_ _; simp; done) | (with_reducible refine keep4 ?_ (by omega) _ _ _ _) | (with_reducible refine heap_old ?_ _) | (with_reducible refine heap_drew ?_) | (with_reducible refine heap_set_ne ?_ (by simp <;> omega) _)))
  clear hb HB HBa cBa fBa zBa HBb cBb fBb zBb HBc cBc fBc zBc
  have HB := HBn; clear HBn
  have HBa := Lib.hid hBa_; have cBa := cells4 hBa_; have fBa := frozen_of hBa_; have zBa := lt_of_heap hBa_; clear hBa_
  have HBb := Lib.hid hBb_; have cBb := cells4 hBb_; have fBb := frozen_of hBb_; have zBb := lt_of_heap hBb_; clear hBb_
  have HBc := Lib.hid hBc_; have cBc := cells4 hBc_; have fBc := frozen_of hBc_; have zBc := lt_of_heap hBc_; clear hBc_
  go_wp2_with (fail)
  go_at_call 14
  refine (HO.out _ _ hBt).mono ?_
  rintro e wd ⟨rfl, hb⟩
  have HBn : Hid (Below w.heap.size w wd) := Lib.hid ((fun (h : Below _ _ _) => below_call h h.size hb) (by have hB0 := HB.out; have hS0 := hB0.size; first | (with_reducible exact hB0) | (with_reducible exact set4_below hB0 (by omega) _ _ _ _) | (with_reducible exact set4_below (set4_below hB0 (by omega) _ _ _ _) (by omega) _ _ _ _) | (with_reducible exact set4_below (set4_below (set4_below (set4_below hB0 (by omega) _ _ _ _) (by omega) _ _ _ _) (by omega) _ _ _ _) (by omega) _ _ _ _) | go_grown))
  have hBa_ : wd.heap[w.heap.size]? = some (.cells #[.int .u64 a0, .int .u64 a1, .int .u64 a2, .int .u64 a3] 25 (0, 0)) := heap_keep' hb (by repeat (first | (with_reducible exact HBa.out) | (with_reducible exact set4 HBa.out _ _ _ _) | (with_reducible apply set4) | (with_reducible refine heap_new' ?_ _; simp; done) | (with_reducible refine keep4 ?_ (by omega) _ _ _ _) | (with_reducible refine heap_old ?_ _) | (with_reducible refine heap_drew ?_) | (with_reducible refine heap_set_ne ?_ (by simp <;> omega) _)))
  have hBb_ : wd.heap[w.heap.size + 1]? = some (.cells #[.int .u64 b0, .int .u64 b1, .int .u64 b2, .int .u64 b3] 25 (0, 0)) := heap_keep' hb (by repeat (first | (with_reducible exact HBb.out) | (with_reducible exact set4 HBb.out _ _ _ _) | (with_reducible apply set4) | (with_reducible refine heap_new' ?_ _; simp; done) | (with_reducible refine keep4 ?_ (by omega) _ _ _ _) | (with_reducible refine heap_old ?_ _) | (with_reducible refine heap_drew ?_) | (with_reducible refine heap_set_ne ?_ (by simp <;> omega) _)))
  have hBc_ : wd.heap[w.heap.size + 1 + 1]? = some (.cells #[.int .u64 c0, .int .u64 c1, .int .u64 c2, .int .u64 c3] 25 (0, 0)) := heap_keep' hb (by repeat (first | (with_reducible exact HBc.out) | (with_reducible exact set4 HBc.out _ _ _ _) | (with_reducible apply set4) | (with_reducible refine heap_new' ?_ _; simp; done) | (with_reducible refine keep4 ?_ (by omega) _ _ _ _) | (with_reducible refine heap_old ?_ _) | (with_reducible refine heap_drew ?_) | (with_reducible refine heap_set_ne ?_ (by simp <;> omega) _)))
  clear hb HB HBa cBa fBa zBa HBb cBb fBb zBb HBc cBc fBc zBc
  have HB := HBn; clear HBn
  have HBa := Lib.hid hBa_; have cBa := cells4 hBa_; have fBa := frozen_of hBa_; have zBa := lt_of_heap hBa_; clear hBa_
  have HBb := Lib.hid hBb_; have cBb := cells4 hBb_; have fBb := frozen_of hBb_; have zBb := lt_of_heap hBb_; clear hBb_
  have HBc := Lib.hid hBc_; have cBc := cells4 hBc_; have fBc := frozen_of hBc_; have zBc := lt_of_heap hBc_; clear hBc_
  clear hBt hown
  go_wp2_with (fail)
  go_at_call 21
  refine (F1.out _).mono ?_
  rintro e we ⟨rfl, hb⟩
  have HBn : Hid (Below w.heap.size w we) := Lib.hid ((fun (h : Below _ _ _) => below_call h h.size hb) (by have hB0 := HB.out; have hS0 := hB0.size; first | (with_reducible exact hB0) | (with_reducible exact set4_below hB0 (by omega) _ _ _ _) | (with_reducible exact set4_below (set4_below hB0 (by omega) _ _ _ _) (by omega) _ _ _ _) | (with_reducible exact set4_below (set4_below (set4_below (set4_below hB0 (by omega) _ _ _ _) (by omega) _ _ _ _) (by omega) _ _ _ _) (by omega) _ _ _ _) | go_grown))
  have hBa_ : we.heap[w.heap.size]? = some (.cells #[.int .u64 a0, .int .u64 a1, .int .u64 a2, .int .u64 a3] 25 (0, 0)) := heap_keep' hb (by repeat (first | (with_reducible exact HBa.out) | (with_reducible exact set4 HBa.out _ _ _ _) | (with_reducible apply set4) | (with_reducible refine heap_new' ?_ _; simp; done) | (with_reducible refine keep4 ?_ (by omega) _ _ _ _) | (with_reducible refine heap_old ?_ _) | (with_reducible refine heap_drew ?_) | (with_reducible refine heap_set_ne ?_ (by simp <;> omega) _)))
  have hBb_ : we.heap[w.heap.size + 1]? = some (.cells #[.int .u64 b0, .int .u64 b1, .int .u64 b2, .int .u64 b3] 25 (0, 0)) := heap_keep' hb (by repeat (first | (with_reducible exact HBb.out) | (with_reducible exact set4 HBb.out _ _ _ _) | (with_reducible apply set4) | (with_reducible refine heap_new' ?_ _; simp; done) | (with_reducible refine keep4 ?_ (by omega) _ _ _ _) | (with_reducible refine heap_old ?_ _) | (with_reducible refine heap_drew ?_) | (with_reducible refine heap_set_ne ?_ (by simp <;> omega) _)))
  have hBc_ : we.heap[w.heap.size + 1 + 1]? = some (.cells #[.int .u64 c0, .int .u64 c1, .int .u64 c2, .int .u64 c3] 25 (0, 0)) := heap_keep' hb (by repeat (first | (with_reducible exact HBc.out) | (with_reducible exact set4 HBc.out _ _ _ _) | (with_reducible apply set4) | (with_reducible refine heap_new' ?_ _; simp; done) | (with_reducible refine keep4 ?_ (by omega) _ _ _ _) | (with_reducible refine heap_old ?_ _) | (with_reducible refine heap_drew ?_) | (with_reducible refine heap_set_ne ?_ (by simp <;> omega) _)))
  have hBx_ : we.heap[wd.heap.size]? = some (.cells #[.int .u64 a0, .int .u64 a1, .int .u64 a2, .int .u64 a3] 25 (0, 0)) := heap_keep' hb (by repeat (first | (with_reducible refine heap_new' ?_ _; simp; done) | (with_reducible refine keep4 ?_ (by omega) _ _ _ _) | (with_reducible refine heap_old ?_ _) | (with_reducible refine heap_drew ?_) | (with_reducible refine heap_set_ne ?_ (by simp <;> omega) _)))
  clear hb HB HBa cBa fBa zBa HBb cBb fBb zBb HBc cBc fBc zBc
  have HB := HBn; clear HBn
  have HBa := Lib.hid hBa_; have cBa := cells4 hBa_; have fBa := frozen_of hBa_; have zBa := lt_of_heap hBa_; clear hBa_
  have HBb := Lib.hid hBb_; have cBb := cells4 hBb_; have fBb := frozen_of hBb_; have zBb := lt_of_heap hBb_; clear hBb_
  have HBc := Lib.hid hBc_; have cBc := cells4 hBc_; have fBc := frozen_of hBc_; have zBc := lt_of_heap hBc_; clear hBc_
  have HBx := Lib.hid hBx_; have cBx := cells4 hBx_; have fBx := frozen_of hBx_; have zBx := lt_of_heap hBx_; clear hBx_
  go_wp2_with (fail)
  go_at_call 21
  refine (F3.out _).mono ?_
  rintro e wf ⟨rfl, hb⟩
  have HBn : Hid (Below w.heap.size w wf) := Lib.hid ((fun (h : Below _ _ _) => below_call h h.size hb) (by have hB0 := HB.out; have hS0 := hB0.size; first | (with_reducible exact hB0) | (with_reducible exact set4_below hB0 (by omega) _ _ _ _) | (with_reducible exact set4_below (set4_below hB0 (by omega) _ _ _ _) (by omega) _ _ _ _) | (with_reducible exact set4_below (set4_below (set4_below (set4_below hB0 (by omega) _ _ _ _) (by omega) _ _ _ _) (by omega) _ _ _ _) (by omega) _ _ _ _) | go_grown))
  have hBa_ : wf.heap[w.heap.size]? = some (.cells #[.int .u64 a0, .int .u64 a1, .int .u64 a2, .int .u64 a3] 25 (0, 0)) := heap_keep' hb (by repeat (first | (with_reducible exact HBa.out) | (with_reducible exact set4 HBa.out _ _ _ _) | (with_reducible apply set4) | (with_reducible refine heap_new' ?_ _; simp; done) | (with_reducible refine keep4 ?_ (by omega) _ _ _ _) | (with_reducible refine heap_old ?_ _) | (with_reducible refine heap_drew ?_) | (with_reducible refine heap_set_ne ?_ (by simp <;> omega) _)))
  have hBb_ : wf.heap[w.heap.size + 1]? = some (.cells #[.int .u64 b0, .int .u64 b1, .int .u64 b2, .int .u64 b3] 25 (0, 0)) := heap_keep' hb (by repeat (first | (with_reducible exact HBb.out) | (with_reducible exact set4 HBb.out _ _ _ _) | (with_reducible apply set4) | (with_reducible refine heap_new' ?_ _; simp; done) | (with_reducible refine keep4 ?_ (by omega) _ _ _ _) | (with_reducible refine heap_old ?_ _) | (with_reducible refine heap_drew ?_) | (with_reducible refine heap_set_ne ?_ (by simp <;> omega) _)))
  have hBc_ : wf.heap[w.heap.size + 1 + 1]? = some (.cells #[.int .u64 c0, .int .u64 c1, .int .u64 c2, .int .u64 c3] 25 (0, 0)) := heap_keep' hb (by repeat (first | (with_reducible exact HBc.out) | (with_reducible exact set4 HBc.out _ _ _ _) | (with_reducible apply set4) | (with_reducible refine heap_new' ?_ _; simp; done) | (with_reducible refine keep4 ?_ (by omega) _ _ _ _) | (with_reducible refine heap_old ?_ _) | (with_reducible refine heap_drew ?_) | (with_reducible refine heap_set_ne ?_ (by simp <;> omega) _)))
  have hBx_ : wf.heap[wd.heap.size]? = some (.cells #[.int .u64 a0, .int .u64 a1, .int .u64 a2, .int .u64 a3] 25 (0, 0)) := heap_keep' hb (by repeat (first | (with_reducible exact HBx.out) | (with_reducible exact set4 HBx.out _ _ _ _) | (with_reducible apply set4) | (with_reducible refine heap_new' ?_ _; simp; done) | (with_reducible refine keep4 ?_ (by omega) _ _ _ _) | (with_reducible refine heap_old ?_ _) | (with_reducible refine heap_drew ?_) | (with_reducible refine heap_set_ne ?_ (by simp <;> omega) _)))
  clear hb HB HBa cBa fBa zBa HBb cBb fBb zBb HBc cBc fBc zBc HBx cBx fBx zBx
  have HB := HBn; clear HBn
  have HBa := Lib.hid hBa_; have cBa := cells4 hBa_; have fBa := frozen_of hBa_; have zBa := lt_of_heap hBa_; clear hBa_
  have HBb := Lib.hid hBb_; have cBb := cells4 hBb_; have fBb := frozen_of hBb_; have zBb := lt_of_heap hBb_; clear hBb_
  have HBc := Lib.hid hBc_; have cBc := cells4 hBc_; have fBc := frozen_of hBc_; have zBc := lt_of_heap hBc_; clear hBc_
  have HBx := Lib.hid hBx_; have cBx := cells4 hBx_; have fBx := frozen_of hBx_; have zBx := lt_of_heap hBx_; clear hBx_
  go_wp2_with (fail)
  go_at_call 23
  refine (HA.out _ _ (heap_new' (by simp) _)).mono ?_
  rintro e wh ⟨rfl, hb⟩
  have HBn : Hid (Below w.heap.size w wh) := Lib.hid ((fun (h : Below _ _ _) => below_call h h.size hb) (by have hB0 := HB.out; have hS0 := hB0.size; first | (with_reducible exact hB0) | (with_reducible exact set4_below hB0 (by omega) _ _ _ _) | (with_reducible exact set4_below (set4_below hB0 (by omega) _ _ _ _) (by omega) _ _ _ _) | (with_reducible exact set4_below (set4_below (set4_below (set4_below hB0 (by omega) _ _ _ _) (by omega) _ _ _ _) (by omega) _ _ _ _) (by omega) _ _ _ _) | go_grown))
  have hBa_ : wh.heap[w.heap.size]? = some (.cells #[.int .u64 a0, .int .u64 a1, .int .u64 a2, .int .u64 a3] 25 (0, 0)) := heap_keep' hb (by repeat (first | (with_reducible exact HBa.out) | (with_reducible exact set4 HBa.out _ _ _ _) | (with_reducible apply set4) | (with_reducible refine heap_new' ?_ _; simp; done) | (with_reducible refine keep4 ?_ (by omega) _ _ _ _) | (with_reducible refine heap_old ?_ _) | (with_reducible refine heap_drew ?_) | (with_reducible refine heap_set_ne ?_ (by simp <;> omega) _)))
  have hBb_ : wh.heap[w.heap.size + 1]? = some (.cells #[.int .u64 b0, .int .u64 b1, .int .u64 b2, .int .u64 b3] 25 (0, 0)) := heap_keep' hb (by repeat (first | (with_reducible exact HBb.out) | (with_reducible exact set4 HBb.out _ _ _ _) | (with_reducible apply set4) | (with_reducible refine heap_new' ?_ _; simp; done) | (with_reducible refine keep4 ?_ (by omega) _ _ _ _) | (with_reducible refine heap_old ?_ _) | (with_reducible refine heap_drew ?_) | (with_reducible refine heap_set_ne ?_ (by simp <;> omega) _)))
  have hBc_ : wh.heap[w.heap.size + 1 + 1]? = some (.cells #[.int .u64 c0, .int .u64 c1, .int .u64 c2, .int .u64 c3] 25 (0, 0)) := heap_keep' hb (by repeat (first | (with_reducible exact HBc.out) | (with_reducible exact set4 HBc.out _ _ _ _) | (with_reducible apply set4) | (with_reducible refine heap_new' ?_ _; simp; done) | (with_reducible refine keep4 ?_ (by omega) _ _ _ _) | (with_reducible refine heap_old ?_ _) | (with_reducible refine heap_drew ?_) | (with_reducible refine heap_set_ne ?_ (by simp <;> omega) _)))
  have hBx_ : wh.heap[wd.heap.size]? = some (.cells #[.int .u64 a0, .int .u64 a1, .int .u64 a2, .int .u64 a3] 25 (0, 0)) := heap_keep' hb (by repeat (first | (with_reducible exact HBx.out) | (with_reducible exact set4 HBx.out _ _ _ _) | (with_reducible apply set4) | (with_reducible refine heap_new' ?_ _; simp; done) | (with_reducible refine keep4 ?_ (by omega) _ _ _ _) | (with_reducible refine heap_old ?_ _) | (with_reducible refine heap_drew ?_) | (with_reducible refine heap_set_ne ?_ (by simp <;> omega) _)))
  clear hb HB HBa cBa fBa zBa HBb cBb fBb zBb HBc cBc fBc zBc HBx cBx fBx zBx
  have HB := HBn; clear HBn
  have HBa := Lib.hid hBa_; have cBa := cells4 hBa_; have fBa := frozen_of hBa_; have zBa := lt_of_heap hBa_; clear hBa_
  have HBb := Lib.hid hBb_; have cBb := cells4 hBb_; have fBb := frozen_of hBb_; have zBb := lt_of_heap hBb_; clear hBb_
  have HBc := Lib.hid hBc_; have cBc := cells4 hBc_; have fBc := frozen_of hBc_; have zBc := lt_of_heap hBc_; clear hBc_
  have HBx := Lib.hid hBx_; have cBx := cells4 hBx_; have fBx := frozen_of hBx_; have zBx := lt_of_heap hBx_; clear hBx_
  go_wp2_with (fail)
  go_at_call 24
  refine (HP.out _).mono ?_
  rintro e wi ⟨rfl, hb⟩
  have HBn : Hid (Below w.heap.size w wi) := Lib.hid ((fun (h : Below _ _ _) => below_call h h.size hb) (by have hB0 := HB.out; have hS0 := hB0.size; first | (with_reducible exact hB0) | (with_reducible exact set4_below hB0 (by omega) _ _ _ _) | (with_reducible exact set4_below (set4_below hB0 (by omega) _ _ _ _) (by omega) _ _ _ _) | (with_reducible exact set4_below (set4_below (set4_below (set4_below hB0 (by omega) _ _ _ _) (by omega) _ _ _ _) (by omega) _ _ _ _) (by omega) _ _ _ _) | go_grown))
  have hBa_ : wi.heap[w.heap.size]? = some (.cells #[.int .u64 a0, .int .u64 a1, .int .u64 a2, .int .u64 a3] 25 (0, 0)) := heap_keep' hb (by repeat (first | (with_reducible exact HBa.out) | (with_reducible exact set4 HBa.out _ _ _ _) | (with_reducible apply set4) | (with_reducible refine heap_new' ?_ _; simp; done) | (with_reducible refine keep4 ?_ (by omega) _ _ _ _) | (with_reducible refine heap_old ?_ _) | (with_reducible refine heap_drew ?_) | (with_reducible refine heap_set_ne ?_ (by simp <;> omega) _)))
  have hBb_ : wi.heap[w.heap.size + 1]? = some (.cells #[.int .u64 b0, .int .u64 b1, .int .u64 b2, .int .u64 b3] 25 (0, 0)) := heap_keep' hb (by repeat (first | (with_reducible exact HBb.out) | (with_reducible exact set4 HBb.out _ _ _ _) | (with_reducible apply set4) | (with_reducible refine heap_new' ?_ _; simp; done) | (with_reducible refine keep4 ?_ (by omega) _ _ _ _) | (with_reducible refine heap_old ?_ _) | (with_reducible refine heap_drew ?_) | (with_reducible refine heap_set_ne ?_ (by simp <;> omega) _)))
  have hBc_ : wi.heap[w.heap.size + 1 + 1]? = some (.cells #[.int .u64 c0, .int .u64 c1, .int .u64 c2, .int .u64 c3] 25 (0, 0)) := heap_keep' hb (by repeat (first | (with_reducible exact HBc.out) | (with_reducible exact set4 HBc.out _ _ _ _) | (with_reducible apply set4) | (with_reducible refine heap_new' ?_ _; simp; done) | (with_reducible refine keep4 ?_ (by omega) _ _ _ _) | (with_reducible refine heap_old ?_ _) | (with_reducible refine heap_drew ?_) | (with_reducible refine heap_set_ne ?_ (by simp <;> omega) _)))
  have hBx_ : wi.heap[wd.heap.size]? = some (.cells #[.int .u64 a0, .int .u64 a1, .int .u64 a2, .int .u64 a3] 25 (0, 0)) := heap_keep' hb (by repeat (first | (with_reducible exact HBx.out) | (with_reducible exact set4 HBx.out _ _ _ _) | (with_reducible apply set4) | (with_reducible refine heap_new' ?_ _; simp; done) | (with_reducible refine keep4 ?_ (by omega) _ _ _ _) | (with_reducible refine heap_old ?_ _) | (with_reducible refine heap_drew ?_) | (with_reducible refine heap_set_ne ?_ (by simp <;> omega) _)))
  clear hb HB HBa cBa fBa zBa HBb cBb fBb zBb HBc cBc fBc zBc HBx cBx fBx zBx
  have HB := HBn; clear HBn
  have HBa := Lib.hid hBa_; have cBa := cells4 hBa_; have fBa := frozen_of hBa_; have zBa := lt_of_heap hBa_; clear hBa_
  have HBb := Lib.hid hBb_; have cBb := cells4 hBb_; have fBb := frozen_of hBb_; have zBb := lt_of_heap hBb_; clear hBb_
  have HBc := Lib.hid hBc_; have cBc := cells4 hBc_; have fBc := frozen_of hBc_; have zBc := lt_of_heap hBc_; clear hBc_
  have HBx := Lib.hid hBx_; have cBx := cells4 hBx_; have fBx := frozen_of hBx_; have zBx := lt_of_heap hBx_; clear hBx_
  go_wp2_with (fail)
  go_at_call 21
  refine (HL.out _).mono ?_
  rintro e wj ⟨rfl, hb⟩
  have HBn : Hid (Below w.heap.size w wj) := Lib.hid ((fun (h : Below _ _ _) => below_call h h.size hb) (by have hB0 := HB.out; have hS0 := hB0.size; first | (with_reducible exact hB0) | (with_reducible exact set4_below hB0 (by omega) _ _ _ _) | (with_reducible exact set4_below (set4_below hB0 (by omega) _ _ _ _) (by omega) _ _ _ _) | (with_reducible exact set4_below (set4_below (set4_below (set4_below hB0 (by omega) _ _ _ _) (by omega) _ _ _ _) (by omega) _ _ _ _) (by omega) _ _ _ _) | go_grown))
  have hBa_ : wj.heap[w.heap.size]? = some (.cells #[.int .u64 a0, .int .u64 a1, .int .u64 a2, .int .u64 a3] 25 (0, 0)) := heap_keep' hb (by repeat (first | (with_reducible exact HBa.out) | (with_reducible exact set4 HBa.out _ _ _ _) | (with_reducible apply set4) | (with_reducible refine heap_new' ?_ _; simp; done) | (with_reducible refine keep4 ?_ (by omega) _ _ _ _) | (with_reducible refine heap_old ?_ _) | (with_reducible refine heap_drew ?_) | (with_reducible refine heap_set_ne ?_ (by simp <;> omega) _)))
  have hBb_ : wj.heap[w.heap.size + 1]? = some (.cells #[.int .u64 b0, .int .u64 b1, .int .u64 b2, .int .u64 b3] 25 (0, 0)) := heap_keep' hb (by repeat (first | (with_reducible exact HBb.out) | (with_reducible exact set4 HBb.out _ _ _ _) | (with_reducible apply set4) | (with_reducible refine heap_new' ?_ _; simp; done) | (with_reducible refine keep4 ?_ (by omega) _ _ _ _) | (with_reducible refine heap_old ?_ _) | (with_reducible refine heap_drew ?_) | (with_reducible refine heap_set_ne ?_ (by simp <;> omega) _)))
  have hBc_ : wj.heap[w.heap.size + 1 + 1]? = some (.cells #[.int .u64 c0, .int .u64 c1, .int .u64 c2, .int .u64 c3] 25 (0, 0)) := heap_keep' hb (by repeat (first | (with_reducible exact HBc.out) | (with_reducible exact set4 HBc.out _ _ _ _) | (with_reducible apply set4) | (with_reducible refine heap_new' ?_ _; simp; done) | (with_reducible refine keep4 ?_ (by omega) _ _ _ _) | (with_reducible refine heap_old ?_ _) | (with_reducible refine heap_drew ?_) | (with_reducible refine heap_set_ne ?_ (by simp <;> omega) _)))
  have hBx_ : wj.heap[wd.heap.size]? = some (.cells #[.int .u64 a0, .int .u64 a1, .int .u64 a2, .int .u64 a3] 25 (0, 0)) := heap_keep' hb (by repeat (first | (with_reducible exact HBx.out) | (with_reducible exact set4 HBx.out _ _ _ _) | (with_reducible apply set4) | (with_reducible refine heap_new' ?_ _; simp; done) | (with_reducible refine keep4 ?_ (by omega) _ _ _ _) | (with_reducible refine heap_old ?_ _) | (with_reducible refine heap_drew ?_) | (with_reducible refine heap_set_ne ?_ (by simp <;> omega) _)))
  clear hb HB HBa cBa fBa zBa HBb cBb fBb zBb HBc cBc fBc zBc HBx cBx fBx zBx
  have HB := HBn; clear HBn
  have HBa := Lib.hid hBa_; have cBa := cells4 hBa_; have fBa := frozen_of hBa_; have zBa := lt_of_heap hBa_; clear hBa_
  have HBb := Lib.hid hBb_; have cBb := cells4 hBb_; have fBb := frozen_of hBb_; have zBb := lt_of_heap hBb_; clear hBb_
  have HBc := Lib.hid hBc_; have cBc := cells4 hBc_; have fBc := frozen_of hBc_; have zBc := lt_of_heap hBc_; clear hBc_
  have HBx := Lib.hid hBx_; have cBx := cells4 hBx_; have fBx := frozen_of hBx_; have zBx := lt_of_heap hBx_; clear hBx_
  go_wp2
  go_ret
  refine ⟨rfl, ?_⟩
  have hB0 := HB.out; have hS0 := hB0.size; first | exact hB0 | go_grown

set_option maxHeartbeats 8000000 in
theorem rows_C (a0 a1 a2 a3 b0 b1 b2 b3 c0 c1 c2 c3 : Nat) (ha : W4 a0 a1 a2 a3) (F1 : Hid (∀ w : World, Calls Try.prog 21 #[.agg #[.int .u64 a0, .int .u64 a1, .int .u64 a2, .int .u64 a3], .agg #[.int .u64 b0, .int .u64 b1, .int .u64 b2, .int .u64 b3]] w fun e w' => e = .returned (.bool false) ∧ Below w.heap.size w w')) (F2 : Hid (∀ w : World, Calls Try.prog 21 #[.agg #[.int .u64 b0, .int .u64 b1, .int .u64 b2, .int .u64 b3], .agg #[.int .u64 a0, .int .u64 a1, .int .u64 a2, .int .u64 a3]] w fun e w' => e = .returned (.bool true) ∧ Below w.heap.size w w')) (E : eqL [(a0 : Int), a1, a2, a3] [(b0 : Int), b1, b2, b3] = false) (w : World) : Calls Try.prog 4 #[.agg #[.int .u64 a0, .int .u64 a1, .int .u64 a2, .int .u64 a3], .agg #[.int .u64 b0, .int .u64 b1, .int .u64 b2, .int .u64 b3], .agg #[.int .u64 c0, .int .u64 c1, .int .u64 c2, .int .u64 c3]] w fun e w' => e = .returned (.bool true) ∧ Below w.heap.size w w' := by
  have H0 := Lib.hid awake_fact
  have HY := Lib.hid (Bytes_bts a0 a1 a2 a3 ha)
  have HO := Lib.hid (Of_bytes a0 a1 a2 a3 ha)
  obtain ⟨p0, p1, p2, p3, hpp, FP⟩ := prime_fact
  obtain ⟨s0, s1, s2, s3, ⟨hs, hsv⟩, FA⟩ := Add1_fact a0 a1 a2 a3 ha
  obtain ⟨z, hz, FL⟩ := less_fact s0 s1 s2 s3 p0 p1 p2 p3 hs hpp.1
  obtain rfl : z = true := hz.2 (by rw [hpp.2, hsv]; exact Nat.mod_lt _ pP_pos)
  have HP := Lib.hid FP; have HA := Lib.hid FA; have HL := Lib.hid FL
  have E5 := @eqL_self a0 a1 a2 a3
  clear FP FA FL hz hpp hs hsv ha
  go_enter Try.func4, Try.ntmps4
  go_wp2_with (fail)
  go_at_call 13
  refine (H0.out _).mono ?_
  rintro e wa ⟨rfl, hb⟩
  have HBn : Hid (Below w.heap.size w wa) := Lib.hid ((fun (h : Below _ _ _) => below_call h h.size hb) (by first | go_grown))
  have hBa_ : wa.heap[w.heap.size]? = some (.cells #[.int .u64 a0, .int .u64 a1, .int .u64 a2, .int .u64 a3] 25 (0, 0)) := heap_keep' hb (by repeat (first | (with_reducible refine heap_new' ?_ _; simp; done) | (with_reducible refine keep4 ?_ (by omega) _ _ _ _) | (with_reducible refine heap_old ?_ _) | (with_reducible refine heap_drew ?_) | (with_reducible refine heap_set_ne ?_ (by simp <;> omega) _)))
  have hBb_ : wa.heap[w.heap.size + 1]? = some (.cells #[.int .u64 b0, .int .u64 b1, .int .u64 b2, .int .u64 b3] 25 (0, 0)) := heap_keep' hb (by repeat (first | (with_reducible refine heap_new' ?_ _; simp; done) | (with_reducible refine keep4 ?_ (by omega) _ _ _ _) | (with_reducible refine heap_old ?_ _) | (with_reducible refine heap_drew ?_) | (with_reducible refine heap_set_ne ?_ (by simp <;> omega) _)))
  have hBc_ : wa.heap[w.heap.size + 1 + 1]? = some (.cells #[.int .u64 c0, .int .u64 c1, .int .u64 c2, .int .u64 c3] 25 (0, 0)) := heap_keep' hb (by repeat (first | (with_reducible refine heap_new' ?_ _; simp; done) | (with_reducible refine keep4 ?_ (by omega) _ _ _ _) | (with_reducible refine heap_old ?_ _) | (with_reducible refine heap_drew ?_) | (with_reducible refine heap_set_ne ?_ (by simp <;> omega) _)))
  clear hb
  have HB := HBn; clear HBn
  have HBa := Lib.hid hBa_; have cBa := cells4 hBa_; have fBa := frozen_of hBa_; have zBa := lt_of_heap hBa_; clear hBa_
  have HBb := Lib.hid hBb_; have cBb := cells4 hBb_; have fBb := frozen_of hBb_; have zBb := lt_of_heap hBb_; clear hBb_
  have HBc := Lib.hid hBc_; have cBc := cells4 hBc_; have fBc := frozen_of hBc_; have zBc := lt_of_heap hBc_; clear hBc_
  go_wp2
  refine Rg.region_ (n := 72) [0, 0, 3, 0, 0, 31, 0, 0, 192, 511, 0] [1, 1, 1, 1, 1, 1, 1, 1, 0, 0, 0] [14, 15, 16, 17, 18, 19, 20, 21, 22, 23, 24] [[(3, none)], [(4, none)], [(14, some 0), (15, some 1)], [(4, none)], [(3, none)], [(17, some 3), (18, some 4)], [(3, none)], [(4, none)], [(20, some 6), (21, some 7)], [(16, some 2), (19, some 5), (22, some 8)], []] 11 (by kernel_rfl) (by kernel_rfl) (by rfl) ?_
  intro W hW
  have hBa_ : W.heap[w.heap.size]? = some (.cells #[.int .u64 a0, .int .u64 a1, .int .u64 a2, .int .u64 a3] 25 (0, 0)) := by rw [hW]; exact (by repeat (first | (with_reducible exact HBa.out) | (with_reducible exact set4 HBa.out _ _ _ _) | (with_reducible apply set4) | (with_reducible refine heap_new' ?_ _; simp; done) | (with_reducible refine keep4 ?_ (by omega) _ _ _ _) | (with_reducible refine heap_old ?_ _) | (with_reducible refine heap_drew ?_) | (with_reducible refine heap_set_ne ?_ (by simp <;> omega) _)))
  have hBb_ : W.heap[w.heap.size + 1]? = some (.cells #[.int .u64 b0, .int .u64 b1, .int .u64 b2, .int .u64 b3] 25 (0, 0)) := by rw [hW]; exact (by repeat (first | (with_reducible exact HBb.out) | (with_reducible exact set4 HBb.out _ _ _ _) | (with_reducible apply set4) | (with_reducible refine heap_new' ?_ _; simp; done) | (with_reducible refine keep4 ?_ (by omega) _ _ _ _) | (with_reducible refine heap_old ?_ _) | (with_reducible refine heap_drew ?_) | (with_reducible refine heap_set_ne ?_ (by simp <;> omega) _)))
  have hBc_ : W.heap[w.heap.size + 1 + 1]? = some (.cells #[.int .u64 c0, .int .u64 c1, .int .u64 c2, .int .u64 c3] 25 (0, 0)) := by rw [hW]; exact (by repeat (first | (with_reducible exact HBc.out) | (with_reducible exact set4 HBc.out _ _ _ _) | (with_reducible apply set4) | (with_reducible refine heap_new' ?_ _; simp; done) | (with_reducible refine keep4 ?_ (by omega) _ _ _ _) | (with_reducible refine heap_old ?_ _) | (with_reducible refine heap_drew ?_) | (with_reducible refine heap_set_ne ?_ (by simp <;> omega) _)))
  have HB0 : Below w.heap.size w W := by rw [hW]; have hB0 := HB.out; have hS0 := hB0.size; first | exact hB0.drew | exact (set4_below hB0 (by omega) _ _ _ _).drew | go_grown
  change Rg.Chain' _ _ _ _ _ [(0, 1, 14, [(3, none)]), (1, 1, 15, [(4, none)]), (2, 1, 16, [(14, some 0), (15, some 1)]), (3, 1, 17, [(4, none)]), (4, 1, 18, [(3, none)]), (5, 1, 19, [(17, some 3), (18, some 4)]), (6, 1, 20, [(3, none)]), (7, 1, 21, [(4, none)]), (8, 0, 22, [(20, some 6), (21, some 7)]), (9, 0, 23, [(16, some 2), (19, some 5), (22, some 8)]), (10, 0, 24, [])] [(0, 1, 14, [(3, none)]), (1, 1, 15, [(4, none)]), (2, 1, 16, [(14, some 0), (15, some 1)]), (3, 1, 17, [(4, none)]), (4, 1, 18, [(3, none)]), (5, 1, 19, [(17, some 3), (18, some 4)]), (6, 1, 20, [(3, none)]), (7, 1, 21, [(4, none)]), (8, 0, 22, [(20, some 6), (21, some 7)]), (9, 0, 23, [(16, some 2), (19, some 5), (22, some 8)]), (10, 0, 24, [])] _
  apply Rg.ch_def (by rfl) (fun a w1 _ => Rg.wanted_none (by rfl))
  · rintro a w1 hb ⟨e3, -⟩
    conv at e3 => rhs; whnf
    have n3 := e3
    simp only [Act.eval, Array.getD_eq_getD_getElem?] at n3
    apply Rg.gives_value
    · conv => lhs; simp [go_sem, n3, cells4 (heap_keep' hb hBa_), cells4 (heap_keep' hb hBb_), cells4 (heap_keep' hb hBc_)]
    · exact ⟨rfl, Below.refl _ _⟩
  apply Rg.ch_def (by rfl) (fun a w1 _ => Rg.wanted_none (by rfl))
  · rintro a w1 hb ⟨e4, -⟩
    conv at e4 => rhs; whnf
    have n4 := e4
    simp only [Act.eval, Array.getD_eq_getD_getElem?] at n4
    apply Rg.gives_value
    · conv => lhs; simp [go_sem, n4, cells4 (heap_keep' hb hBa_), cells4 (heap_keep' hb hBb_), cells4 (heap_keep' hb hBc_)]
    · exact ⟨rfl, Below.refl _ _⟩
  apply Rg.ch_def (by rfl) (fun a w1 _ => Rg.wanted_none (by rfl))
  · rintro a w1 hb ⟨e14, e15, -⟩
    replace e14 : a.eval (.tmp 14) = _ := e14
    replace e15 : a.eval (.tmp 15) = _ := e15
    apply Rg.gives_enter
    · apply run_call Try.func21 (by kernel_rfl) rfl _ (by rfl)
      conv => lhs; simp only [List.map_toArray, List.map_cons, List.map_nil, eval_const_, eval_global_, e14, e15]
    · refine (F1.out _).mono ?_
      rintro e w2 ⟨rfl, hb2⟩
      exact ⟨_, rfl, rfl, hb2⟩
  apply Rg.ch_def (by rfl) (fun a w1 _ => Rg.wanted_none (by rfl))
  · rintro a w1 hb ⟨e4, -⟩
    conv at e4 => rhs; whnf
    have n4 := e4
    simp only [Act.eval, Array.getD_eq_getD_getElem?] at n4
    apply Rg.gives_value
    · conv => lhs; simp [go_sem, n4, cells4 (heap_keep' hb hBa_), cells4 (heap_keep' hb hBb_), cells4 (heap_keep' hb hBc_)]
    · exact ⟨rfl, Below.refl _ _⟩
  apply Rg.ch_def (by rfl) (fun a w1 _ => Rg.wanted_none (by rfl))
  · rintro a w1 hb ⟨e3, -⟩
    conv at e3 => rhs; whnf
    have n3 := e3
    simp only [Act.eval, Array.getD_eq_getD_getElem?] at n3
    apply Rg.gives_value
    · conv => lhs; simp [go_sem, n3, cells4 (heap_keep' hb hBa_), cells4 (heap_keep' hb hBb_), cells4 (heap_keep' hb hBc_)]
    · exact ⟨rfl, Below.refl _ _⟩
  apply Rg.ch_def (by rfl) (fun a w1 _ => Rg.wanted_none (by rfl))
  · rintro a w1 hb ⟨e17, e18, -⟩
    replace e17 : a.eval (.tmp 17) = _ := e17
    replace e18 : a.eval (.tmp 18) = _ := e18
    apply Rg.gives_enter
    · apply run_call Try.func21 (by kernel_rfl) rfl _ (by rfl)
      conv => lhs; simp only [List.map_toArray, List.map_cons, List.map_nil, eval_const_, eval_global_, e17, e18]
    · refine (F2.out _).mono ?_
      rintro e w2 ⟨rfl, hb2⟩
      exact ⟨_, rfl, rfl, hb2⟩
  apply Rg.ch_def (by rfl) (fun a w1 _ => Rg.wanted_none (by rfl))
  · rintro a w1 hb ⟨e3, -⟩
    conv at e3 => rhs; whnf
    have n3 := e3
    simp only [Act.eval, Array.getD_eq_getD_getElem?] at n3
    apply Rg.gives_value
    · conv => lhs; simp [go_sem, n3, cells4 (heap_keep' hb hBa_), cells4 (heap_keep' hb hBb_), cells4 (heap_keep' hb hBc_)]
    · exact ⟨rfl, Below.refl _ _⟩
  apply Rg.ch_def (by rfl) (fun a w1 _ => Rg.wanted_none (by rfl))
  · rintro a w1 hb ⟨e4, -⟩
    conv at e4 => rhs; whnf
    have n4 := e4
    simp only [Act.eval, Array.getD_eq_getD_getElem?] at n4
    apply Rg.gives_value
    · conv => lhs; simp [go_sem, n4, cells4 (heap_keep' hb hBa_), cells4 (heap_keep' hb hBb_), cells4 (heap_keep' hb hBc_)]
    · exact ⟨rfl, Below.refl _ _⟩
  apply Rg.ch_pure (by rfl)
  · rintro a w1 ⟨e20, e21, -⟩
    replace e20 : a.eval (.tmp 20) = _ := e20
    have n20 := e20
    simp only [Act.eval, Array.getD_eq_getD_getElem?] at n20
    replace e21 : a.eval (.tmp 21) = _ := e21
    have n21 := e21
    simp only [Act.eval, Array.getD_eq_getD_getElem?] at n21
    apply Rg.yields_run (Rg.wanted_none (by rfl))
    intro w2
    conv => lhs; simp [go_sem, n20, n21, E]
  apply Rg.ch_pure (by rfl)
  · rintro a w1 ⟨e16, e19, e22, -⟩
    replace e16 : a.eval (.tmp 16) = _ := e16
    have n16 := e16
    simp only [Act.eval, Array.getD_eq_getD_getElem?] at n16
    replace e19 : a.eval (.tmp 19) = _ := e19
    have n19 := e19
    simp only [Act.eval, Array.getD_eq_getD_getElem?] at n19
    replace e22 : a.eval (.tmp 22) = _ := e22
    have n22 := e22
    simp only [Act.eval, Array.getD_eq_getD_getElem?] at n22
    apply Rg.yields_run (Rg.wanted_none (by rfl))
    intro w2
    conv => lhs; simp [go_sem, n16, n19, n22, E]
  apply Rg.ch_pure (by rfl)
  · rintro a w1 -
    apply Rg.yields_run (Rg.wanted_none (by rfl))
    intro w2
    conv => lhs; simp [go_sem, E]
  intro w1 hb1
  rintro _ rfl _ rfl _ rfl _ rfl _ rfl _ rfl _ rfl _ rfl _ rfl _ rfl _ rfl
  change Go.wpList _ _ _ _ _ _
  simp only [List.drop_succ_cons, List.drop_zero, List.drop_nil, Act.put, List.setIfInBounds_toArray, List.set_cons_succ, List.set_cons_zero]
  change Go.NoPanic _ _ _ _
  refine NoPanic.normal ?_
  have HBn : Hid (Below w.heap.size w w1) := Lib.hid (below_call HB0 HB0.size hb1)
  have hBa__ := heap_keep' hb1 hBa_
  have hBb__ := heap_keep' hb1 hBb_
  have hBc__ := heap_keep' hb1 hBc_
  clear hb1 HB0 HB hBa_ HBa cBa fBa zBa hBb_ HBb cBb fBb zBb hBc_ HBc cBc fBc zBc
  clear hW
  obtain ⟨wb, rfl⟩ : ∃ x : World, x = w1 := ⟨_, rfl⟩
  have HB := HBn; clear HBn
  have HBa := Lib.hid hBa__; have cBa := cells4 hBa__; have fBa := frozen_of hBa__; have zBa := lt_of_heap hBa__; clear hBa__
  have HBb := Lib.hid hBb__; have cBb := cells4 hBb__; have fBb := frozen_of hBb__; have zBb := lt_of_heap hBb__; clear hBb__
  have HBc := Lib.hid hBc__; have cBc := cells4 hBc__; have fBc := frozen_of hBc__; have zBc := lt_of_heap hBc__; clear hBc__
  go_wp2
  refine wp_loop_rounds 4 ?_
  rw [rounds_succ]
  go_wp2
  rw [rounds_succ]
  go_wp2
  rw [rounds_succ]
  go_wp2
  rw [rounds_succ]
  go_wp2_with (fail)
  go_at_call 18
  refine (HY.out _).mono ?_
  rintro e wc ⟨⟨v, rfl, hBt, hown⟩, hb⟩
  have HBn : Hid (Below w.heap.size w wc) := Lib.hid ((fun (h : Below _ _ _) => below_call h h.size hb) (by have hB0 := HB.out; have hS0 := hB0.size; first | (with_reducible exact hB0) | (with_reducible exact set4_below hB0 (by omega) _ _ _ _) | (with_reducible exact set4_below (set4_below hB0 (by omega) _ _ _ _) (by omega) _ _ _ _) | (with_reducible exact set4_below (set4_below (set4_below (set4_below hB0 (by omega) _ _ _ _) (by omega) _ _ _ _) (by omega) _ _ _ _) (by omega) _ _ _ _) | go_grown))
  have hBa_ : wc.heap[w.heap.size]? = some (.cells #[.int .u64 a0, .int .u64 a1, .int .u64 a2, .int .u64 a3] 25 (0, 0)) := heap_keep' hb (by repeat (first | (with_reducible exact HBa.out) | (with_reducible exact set4 HBa.out _ _ _ _) | (with_reducible apply set4) | (with_reducible refine heap_new' ?_ _; simp; done) | (with_reducible refine keep4 ?_ (by omega) _ _ _ _) | (with_reducible refine heap_old ?_ _) | (with_reducible refine heap_drew ?_) | (with_reducible refine heap_set_ne ?_ (by simp <;> omega) _)))
  have hBb_ : wc.heap[w.heap.size + 1]? = some (.cells #[.int .u64 b0, .int .u64 b1, .int .u64 b2, .int .u64 b3] 25 (0, 0)) := heap_keep' hb (by repeat (first | (with_reducible exact HBb.out) | (with_reducible exact set4 HBb.out _ _ _ _) | (with_reducible apply set4) | (with_reducible refine heap_new' ?_ _; simp; done) | (with_reducible refine keep4 ?_ (by omega) _ _ _ _) | (with_reducible refine heap_old ?_ _) | (with_reducible refine heap_drew ?_) | (with_reducible refine heap_set_ne ?_ (by simp <;> omega) _)))
  have hBc_ : wc.heap[w.heap.size + 1 + 1]? = some (.cells #[.int .u64 c0, .int .u64 c1, .int .u64 c2, .int .u64 c3] 25 (0, 0)) := heap_keep' hb (by repeat (first | (with_reducible exact HBc.out) | (with_reducible exact set4 HBc.out _ _ _ _) | (with_reducible apply set4) | (with_reducible refine heap_new' ?_ _; simp; done) | (with_reducible refine keep4 ?_ (by omega) _ _ _ _) | (with_reducible refine heap_old ?_ _) | (with_reducible refine heap_drew ?_) | (with_reducible refine heap_set_ne ?_ (by simp <;> omega) _)))
  clear hb HB HBa cBa fBa zBa HBb cBb fBb zBb HBc cBc fBc zBc
  have HB := HBn; clear HBn
  have HBa := Lib.hid hBa_; have cBa := cells4 hBa_; have fBa := frozen_of hBa_; have zBa := lt_of_heap hBa_; clear hBa_
  have HBb := Lib.hid hBb_; have cBb := cells4 hBb_; have fBb := frozen_of hBb_; have zBb := lt_of_heap hBb_; clear hBb_
  have HBc := Lib.hid hBc_; have cBc := cells4 hBc_; have fBc := frozen_of hBc_; have zBc := lt_of_heap hBc_; clear hBc_
  go_wp2_with (fail)
  go_at_call 14
  refine (HO.out _ _ hBt).mono ?_
  rintro e wd ⟨rfl, hb⟩
  have HBn : Hid (Below w.heap.size w wd) := Lib.hid ((fun (h : Below _ _ _) => below_call h h.size hb) (by have hB0 := HB.out; have hS0 := hB0.size; first | (with_reducible exact hB0) | (with_reducible exact set4_below hB0 (by omega) _ _ _ _) | (with_reducible exact set4_below (set4_below hB0 (by omega) _ _ _ _) (by omega) _ _ _ _) | (with_reducible exact set4_below (set4_below (set4_below (set4_below hB0 (by omega) _ _ _ _) (by omega) _ _ _ _) (by omega) _ _ _ _) (by omega) _ _ _ _) | go_grown))
  have hBa_ : wd.heap[w.heap.size]? = some (.cells #[.int .u64 a0, .int .u64 a1, .int .u64 a2, .int .u64 a3] 25 (0, 0)) := heap_keep' hb (by repeat (first | (with_reducible exact HBa.out) | (with_reducible exact set4 HBa.out _ _ _ _) | (with_reducible apply set4) | (with_reducible refine heap_new' ?_ _; simp; done) | (with_reducible refine keep4 ?_ (by omega) _ _ _ _) | (with_reducible refine heap_old ?_ _) | (with_reducible refine heap_drew ?_) | (with_reducible refine heap_set_ne ?_ (by simp <;> omega) _)))
  have hBb_ : wd.heap[w.heap.size + 1]? = some (.cells #[.int .u64 b0, .int .u64 b1, .int .u64 b2, .int .u64 b3] 25 (0, 0)) := heap_keep' hb (by repeat (first | (with_reducible exact HBb.out) | (with_reducible exact set4 HBb.out _ _ _ _) | (with_reducible apply set4) | (with_reducible refine heap_new' ?_ _; simp; done) | (with_reducible refine keep4 ?_ (by omega) _ _ _ _) | (with_reducible refine heap_old ?_ _) | (with_reducible refine heap_drew ?_) | (with_reducible refine heap_set_ne ?_ (by simp <;> omega) _)))
  have hBc_ : wd.heap[w.heap.size + 1 + 1]? = some (.cells #[.int .u64 c0, .int .u64 c1, .int .u64 c2, .int .u64 c3] 25 (0, 0)) := heap_keep' hb (by repeat (first | (with_reducible exact HBc.out) | (with_reducible exact set4 HBc.out _ _ _ _) | (with_reducible apply set4) | (with_reducible refine heap_new' ?_ _; simp; done) | (with_reducible refine keep4 ?_ (by omega) _ _ _ _) | (with_reducible refine heap_old ?_ _) | (with_reducible refine heap_drew ?_) | (with_reducible refine heap_set_ne ?_ (by simp <;> omega) _)))
  clear hb HB HBa cBa fBa zBa HBb cBb fBb zBb HBc cBc fBc zBc
  have HB := HBn; clear HBn
  have HBa := Lib.hid hBa_; have cBa := cells4 hBa_; have fBa := frozen_of hBa_; have zBa := lt_of_heap hBa_; clear hBa_
  have HBb := Lib.hid hBb_; have cBb := cells4 hBb_; have fBb := frozen_of hBb_; have zBb := lt_of_heap hBb_; clear hBb_
  have HBc := Lib.hid hBc_; have cBc := cells4 hBc_; have fBc := frozen_of hBc_; have zBc := lt_of_heap hBc_; clear hBc_
  clear hBt hown
  go_wp2_with (fail)
  go_at_call 21
  refine (F1.out _).mono ?_
  rintro e we ⟨rfl, hb⟩
  have HBn : Hid (Below w.heap.size w we) := Lib.hid ((fun (h : Below _ _ _) => below_call h h.size hb) (by have hB0 := HB.out; have hS0 := hB0.size; first | (with_reducible exact hB0) | (with_reducible exact set4_below hB0 (by omega) _ _ _ _) | (with_reducible exact set4_below (set4_below hB0 (by omega) _ _ _ _) (by omega) _ _ _ _) | (with_reducible exact set4_below (set4_below (set4_below (set4_below hB0 (by omega) _ _ _ _) (by omega) _ _ _ _) (by omega) _ _ _ _) (by omega) _ _ _ _) | go_grown))
  have hBa_ : we.heap[w.heap.size]? = some (.cells #[.int .u64 a0, .int .u64 a1, .int .u64 a2, .int .u64 a3] 25 (0, 0)) := heap_keep' hb (by repeat (first | (with_reducible exact HBa.out) | (with_reducible exact set4 HBa.out _ _ _ _) | (with_reducible apply set4) | (with_reducible refine heap_new' ?_ _; simp; done) | (with_reducible refine keep4 ?_ (by omega) _ _ _ _) | (with_reducible refine heap_old ?_ _) | (with_reducible refine heap_drew ?_) | (with_reducible refine heap_set_ne ?_ (by simp <;> omega) _)))
  have hBb_ : we.heap[w.heap.size + 1]? = some (.cells #[.int .u64 b0, .int .u64 b1, .int .u64 b2, .int .u64 b3] 25 (0, 0)) := heap_keep' hb (by repeat (first | (with_reducible exact HBb.out) | (with_reducible exact set4 HBb.out _ _ _ _) | (with_reducible apply set4) | (with_reducible refine heap_new' ?_ _; simp; done) | (with_reducible refine keep4 ?_ (by omega) _ _ _ _) | (with_reducible refine heap_old ?_ _) | (with_reducible refine heap_drew ?_) | (with_reducible refine heap_set_ne ?_ (by simp <;> omega) _)))
  have hBc_ : we.heap[w.heap.size + 1 + 1]? = some (.cells #[.int .u64 c0, .int .u64 c1, .int .u64 c2, .int .u64 c3] 25 (0, 0)) := heap_keep' hb (by repeat (first | (with_reducible exact HBc.out) | (with_reducible exact set4 HBc.out _ _ _ _) | (with_reducible apply set4) | (with_reducible refine heap_new' ?_ _; simp; done) | (with_reducible refine keep4 ?_ (by omega) _ _ _ _) | (with_reducible refine heap_old ?_ _) | (with_reducible refine heap_drew ?_) | (with_reducible refine heap_set_ne ?_ (by simp <;> omega) _)))
  have hBx_ : we.heap[wd.heap.size]? = some (.cells #[.int .u64 a0, .int .u64 a1, .int .u64 a2, .int .u64 a3] 25 (0, 0)) := heap_keep' hb (by repeat (first | (with_reducible refine heap_new' ?_ _; simp; done) | (with_reducible refine keep4 ?_ (by omega) _ _ _ _) | (with_reducible refine heap_old ?_ _) | (with_reducible refine heap_drew ?_) | (with_reducible refine heap_set_ne ?_ (by simp <;> omega) _)))
  clear hb HB HBa cBa fBa zBa HBb cBb fBb zBb HBc cBc fBc zBc
  have HB := HBn; clear HBn
  have HBa := Lib.hid hBa_; have cBa := cells4 hBa_; have fBa := frozen_of hBa_; have zBa := lt_of_heap hBa_; clear hBa_
  have HBb := Lib.hid hBb_; have cBb := cells4 hBb_; have fBb := frozen_of hBb_; have zBb := lt_of_heap hBb_; clear hBb_
  have HBc := Lib.hid hBc_; have cBc := cells4 hBc_; have fBc := frozen_of hBc_; have zBc := lt_of_heap hBc_; clear hBc_
  have HBx := Lib.hid hBx_; have cBx := cells4 hBx_; have fBx := frozen_of hBx_; have zBx := lt_of_heap hBx_; clear hBx_
  go_wp2_with (fail)
  go_at_call 23
  refine (HA.out _ _ (heap_new' (by simp) _)).mono ?_
  rintro e wh ⟨rfl, hb⟩
  have HBn : Hid (Below w.heap.size w wh) := Lib.hid ((fun (h : Below _ _ _) => below_call h h.size hb) (by have hB0 := HB.out; have hS0 := hB0.size; first | (with_reducible exact hB0) | (with_reducible exact set4_below hB0 (by omega) _ _ _ _) | (with_reducible exact set4_below (set4_below hB0 (by omega) _ _ _ _) (by omega) _ _ _ _) | (with_reducible exact set4_below (set4_below (set4_below (set4_below hB0 (by omega) _ _ _ _) (by omega) _ _ _ _) (by omega) _ _ _ _) (by omega) _ _ _ _) | go_grown))
  have hBa_ : wh.heap[w.heap.size]? = some (.cells #[.int .u64 a0, .int .u64 a1, .int .u64 a2, .int .u64 a3] 25 (0, 0)) := heap_keep' hb (by repeat (first | (with_reducible exact HBa.out) | (with_reducible exact set4 HBa.out _ _ _ _) | (with_reducible apply set4) | (with_reducible refine heap_new' ?_ _; simp; done) | (with_reducible refine keep4 ?_ (by omega) _ _ _ _) | (with_reducible refine heap_old ?_ _) | (with_reducible refine heap_drew ?_) | (with_reducible refine heap_set_ne ?_ (by simp <;> omega) _)))
  have hBb_ : wh.heap[w.heap.size + 1]? = some (.cells #[.int .u64 b0, .int .u64 b1, .int .u64 b2, .int .u64 b3] 25 (0, 0)) := heap_keep' hb (by repeat (first | (with_reducible exact HBb.out) | (with_reducible exact set4 HBb.out _ _ _ _) | (with_reducible apply set4) | (with_reducible refine heap_new' ?_ _; simp; done) | (with_reducible refine keep4 ?_ (by omega) _ _ _ _) | (with_reducible refine heap_old ?_ _) | (with_reducible refine heap_drew ?_) | (with_reducible refine heap_set_ne ?_ (by simp <;> omega) _)))
  have hBc_ : wh.heap[w.heap.size + 1 + 1]? = some (.cells #[.int .u64 c0, .int .u64 c1, .int .u64 c2, .int .u64 c3] 25 (0, 0)) := heap_keep' hb (by repeat (first | (with_reducible exact HBc.out) | (with_reducible exact set4 HBc.out _ _ _ _) | (with_reducible apply set4) | (with_reducible refine heap_new' ?_ _; simp; done) | (with_reducible refine keep4 ?_ (by omega) _ _ _ _) | (with_reducible refine heap_old ?_ _) | (with_reducible refine heap_drew ?_) | (with_reducible refine heap_set_ne ?_ (by simp <;> omega) _)))
  have hBx_ : wh.heap[wd.heap.size]? = some (.cells #[.int .u64 a0, .int .u64 a1, .int .u64 a2, .int .u64 a3] 25 (0, 0)) := heap_keep' hb (by repeat (first | (with_reducible exact HBx.out) | (with_reducible exact set4 HBx.out _ _ _ _) | (with_reducible apply set4) | (with_reducible refine heap_new' ?_ _; simp; done) | (with_reducible refine keep4 ?_ (by omega) _ _ _ _) | (with_reducible refine heap_old ?_ _) | (with_reducible refine heap_drew ?_) | (with_reducible refine heap_set_ne ?_ (by simp <;> omega) _)))
  clear hb HB HBa cBa fBa zBa HBb cBb fBb zBb HBc cBc fBc zBc HBx cBx fBx zBx
  have HB := HBn; clear HBn
  have HBa := Lib.hid hBa_; have cBa := cells4 hBa_; have fBa := frozen_of hBa_; have zBa := lt_of_heap hBa_; clear hBa_
  have HBb := Lib.hid hBb_; have cBb := cells4 hBb_; have fBb := frozen_of hBb_; have zBb := lt_of_heap hBb_; clear hBb_
  have HBc := Lib.hid hBc_; have cBc := cells4 hBc_; have fBc := frozen_of hBc_; have zBc := lt_of_heap hBc_; clear hBc_
  have HBx := Lib.hid hBx_; have cBx := cells4 hBx_; have fBx := frozen_of hBx_; have zBx := lt_of_heap hBx_; clear hBx_
  go_wp2_with (fail)
  go_at_call 24
  refine (HP.out _).mono ?_
  rintro e wi ⟨rfl, hb⟩
  have HBn : Hid (Below w.heap.size w wi) := Lib.hid ((fun (h : Below _ _ _) => below_call h h.size hb) (by have hB0 := HB.out; have hS0 := hB0.size; first | (with_reducible exact hB0) | (with_reducible exact set4_below hB0 (by omega) _ _ _ _) | (with_reducible exact set4_below (set4_below hB0 (by omega) _ _ _ _) (by omega) _ _ _ _) | (with_reducible exact set4_below (set4_below (set4_below (set4_below hB0 (by omega) _ _ _ _) (by omega) _ _ _ _) (by omega) _ _ _ _) (by omega) _ _ _ _) | go_grown))
  have hBa_ : wi.heap[w.heap.size]? = some (.cells #[.int .u64 a0, .int .u64 a1, .int .u64 a2, .int .u64 a3] 25 (0, 0)) := heap_keep' hb (by repeat (first | (with_reducible exact HBa.out) | (with_reducible exact set4 HBa.out _ _ _ _) | (with_reducible apply set4) | (with_reducible refine heap_new' ?_ _; simp; done) | (with_reducible refine keep4 ?_ (by omega) _ _ _ _) | (with_reducible refine heap_old ?_ _) | (with_reducible refine heap_drew ?_) | (with_reducible refine heap_set_ne ?_ (by simp <;> omega) _)))
  have hBb_ : wi.heap[w.heap.size + 1]? = some (.cells #[.int .u64 b0, .int .u64 b1, .int .u64 b2, .int .u64 b3] 25 (0, 0)) := heap_keep' hb (by repeat (first | (with_reducible exact HBb.out) | (with_reducible exact set4 HBb.out _ _ _ _) | (with_reducible apply set4) | (with_reducible refine heap_new' ?_ _; simp; done) | (with_reducible refine keep4 ?_ (by omega) _ _ _ _) | (with_reducible refine heap_old ?_ _) | (with_reducible refine heap_drew ?_) | (with_reducible refine heap_set_ne ?_ (by simp <;> omega) _)))
  have hBc_ : wi.heap[w.heap.size + 1 + 1]? = some (.cells #[.int .u64 c0, .int .u64 c1, .int .u64 c2, .int .u64 c3] 25 (0, 0)) := heap_keep' hb (by repeat (first | (with_reducible exact HBc.out) | (with_reducible exact set4 HBc.out _ _ _ _) | (with_reducible apply set4) | (with_reducible refine heap_new' ?_ _; simp; done) | (with_reducible refine keep4 ?_ (by omega) _ _ _ _) | (with_reducible refine heap_old ?_ _) | (with_reducible refine heap_drew ?_) | (with_reducible refine heap_set_ne ?_ (by simp <;> omega) _)))
  have hBx_ : wi.heap[wd.heap.size]? = some (.cells #[.int .u64 a0, .int .u64 a1, .int .u64 a2, .int .u64 a3] 25 (0, 0)) := heap_keep' hb (by repeat (first | (with_reducible exact HBx.out) | (with_reducible exact set4 HBx.out _ _ _ _) | (with_reducible apply set4) | (with_reducible refine heap_new' ?_ _; simp; done) | (with_reducible refine keep4 ?_ (by omega) _ _ _ _) | (with_reducible refine heap_old ?_ _) | (with_reducible refine heap_drew ?_) | (with_reducible refine heap_set_ne ?_ (by simp <;> omega) _)))
  clear hb HB HBa cBa fBa zBa HBb cBb fBb zBb HBc cBc fBc zBc HBx cBx fBx zBx
  have HB := HBn; clear HBn
  have HBa := Lib.hid hBa_; have cBa := cells4 hBa_; have fBa := frozen_of hBa_; have zBa := lt_of_heap hBa_; clear hBa_
  have HBb := Lib.hid hBb_; have cBb := cells4 hBb_; have fBb := frozen_of hBb_; have zBb := lt_of_heap hBb_; clear hBb_
  have HBc := Lib.hid hBc_; have cBc := cells4 hBc_; have fBc := frozen_of hBc_; have zBc := lt_of_heap hBc_; clear hBc_
  have HBx := Lib.hid hBx_; have cBx := cells4 hBx_; have fBx := frozen_of hBx_; have zBx := lt_of_heap hBx_; clear hBx_
  go_wp2_with (fail)
  go_at_call 21
  refine (HL.out _).mono ?_
  rintro e wj ⟨rfl, hb⟩
  have HBn : Hid (Below w.heap.size w wj) := Lib.hid ((fun (h : Below _ _ _) => below_call h h.size hb) (by have hB0 := HB.out; have hS0 := hB0.size; first | (with_reducible exact hB0) | (with_reducible exact set4_below hB0 (by omega) _ _ _ _) | (with_reducible exact set4_below (set4_below hB0 (by omega) _ _ _ _) (by omega) _ _ _ _) | (with_reducible exact set4_below (set4_below (set4_below (set4_below hB0 (by omega) _ _ _ _) (by omega) _ _ _ _) (by omega) _ _ _ _) (by omega) _ _ _ _) | go_grown))
  have hBa_ : wj.heap[w.heap.size]? = some (.cells #[.int .u64 a0, .int .u64 a1, .int .u64 a2, .int .u64 a3] 25 (0, 0)) := heap_keep' hb (by repeat (first | (with_reducible exact HBa.out) | (with_reducible exact set4 HBa.out _ _ _ _) | (with_reducible apply set4) | (with_reducible refine heap_new' ?_ _; simp; done) | (with_reducible refine keep4 ?_ (by omega) _ _ _ _) | (with_reducible refine heap_old ?_ _) | (with_reducible refine heap_drew ?_) | (with_reducible refine heap_set_ne ?_ (by simp <;> omega) _)))
  have hBb_ : wj.heap[w.heap.size + 1]? = some (.cells #[.int .u64 b0, .int .u64 b1, .int .u64 b2, .int .u64 b3] 25 (0, 0)) := heap_keep' hb (by repeat (first | (with_reducible exact HBb.out) | (with_reducible exact set4 HBb.out _ _ _ _) | (with_reducible apply set4) | (with_reducible refine heap_new' ?_ _; simp; done) | (with_reducible refine keep4 ?_ (by omega) _ _ _ _) | (with_reducible refine heap_old ?_ _) | (with_reducible refine heap_drew ?_) | (with_reducible refine heap_set_ne ?_ (by simp <;> omega) _)))
  have hBc_ : wj.heap[w.heap.size + 1 + 1]? = some (.cells #[.int .u64 c0, .int .u64 c1, .int .u64 c2, .int .u64 c3] 25 (0, 0)) := heap_keep' hb (by repeat (first | (with_reducible exact HBc.out) | (with_reducible exact set4 HBc.out _ _ _ _) | (with_reducible apply set4) | (with_reducible refine heap_new' ?_ _; simp; done) | (with_reducible refine keep4 ?_ (by omega) _ _ _ _) | (with_reducible refine heap_old ?_ _) | (with_reducible refine heap_drew ?_) | (with_reducible refine heap_set_ne ?_ (by simp <;> omega) _)))
  have hBx_ : wj.heap[wd.heap.size]? = some (.cells #[.int .u64 a0, .int .u64 a1, .int .u64 a2, .int .u64 a3] 25 (0, 0)) := heap_keep' hb (by repeat (first | (with_reducible exact HBx.out) | (with_reducible exact set4 HBx.out _ _ _ _) | (with_reducible apply set4) | (with_reducible refine heap_new' ?_ _; simp; done) | (with_reducible refine keep4 ?_ (by omega) _ _ _ _) | (with_reducible refine heap_old ?_ _) | (with_reducible refine heap_drew ?_) | (with_reducible refine heap_set_ne ?_ (by simp <;> omega) _)))
  clear hb HB HBa cBa fBa zBa HBb cBb fBb zBb HBc cBc fBc zBc HBx cBx fBx zBx
  have HB := HBn; clear HBn
  have HBa := Lib.hid hBa_; have cBa := cells4 hBa_; have fBa := frozen_of hBa_; have zBa := lt_of_heap hBa_; clear hBa_
  have HBb := Lib.hid hBb_; have cBb := cells4 hBb_; have fBb := frozen_of hBb_; have zBb := lt_of_heap hBb_; clear hBb_
  have HBc := Lib.hid hBc_; have cBc := cells4 hBc_; have fBc := frozen_of hBc_; have zBc := lt_of_heap hBc_; clear hBc_
  have HBx := Lib.hid hBx_; have cBx := cells4 hBx_; have fBx := frozen_of hBx_; have zBx := lt_of_heap hBx_; clear hBx_
  go_wp2
  go_ret
  refine ⟨rfl, ?_⟩
  have hB0 := HB.out; have hS0 := hB0.size; first | exact hB0 | go_grown

set_option maxHeartbeats 8000000 in
theorem rows_D (a0 a1 a2 a3 b0 b1 b2 b3 c0 c1 c2 c3 : Nat) (ha : W4 a0 a1 a2 a3) (F1 : Hid (∀ w : World, Calls Try.prog 21 #[.agg #[.int .u64 a0, .int .u64 a1, .int .u64 a2, .int .u64 a3], .agg #[.int .u64 b0, .int .u64 b1, .int .u64 b2, .int .u64 b3]] w fun e w' => e = .returned (.bool false) ∧ Below w.heap.size w w')) (F2 : Hid (∀ w : World, Calls Try.prog 21 #[.agg #[.int .u64 b0, .int .u64 b1, .int .u64 b2, .int .u64 b3], .agg #[.int .u64 a0, .int .u64 a1, .int .u64 a2, .int .u64 a3]] w fun e w' => e = .returned (.bool false) ∧ Below w.heap.size w w')) (E : eqL [(a0 : Int), a1, a2, a3] [(b0 : Int), b1, b2, b3] = true) (w : World) : Calls Try.prog 4 #[.agg #[.int .u64 a0, .int .u64 a1, .int .u64 a2, .int .u64 a3], .agg #[.int .u64 b0, .int .u64 b1, .int .u64 b2, .int .u64 b3], .agg #[.int .u64 c0, .int .u64 c1, .int .u64 c2, .int .u64 c3]] w fun e w' => e = .returned (.bool true) ∧ Below w.heap.size w w' := by
  have H0 := Lib.hid awake_fact
  have HY := Lib.hid (Bytes_bts a0 a1 a2 a3 ha)
  have HO := Lib.hid (Of_bytes a0 a1 a2 a3 ha)
  obtain ⟨p0, p1, p2, p3, hpp, FP⟩ := prime_fact
  obtain ⟨s0, s1, s2, s3, ⟨hs, hsv⟩, FA⟩ := Add1_fact a0 a1 a2 a3 ha
  obtain ⟨z, hz, FL⟩ := less_fact s0 s1 s2 s3 p0 p1 p2 p3 hs hpp.1
  obtain rfl : z = true := hz.2 (by rw [hpp.2, hsv]; exact Nat.mod_lt _ pP_pos)
  have HP := Lib.hid FP; have HA := Lib.hid FA; have HL := Lib.hid FL
  have E5 := @eqL_self a0 a1 a2 a3
  clear FP FA FL hz hpp hs hsv ha
  go_enter Try.func4, Try.ntmps4
  go_wp2_with (fail)
  go_at_call 13
  refine (H0.out _).mono ?_
  rintro e wa ⟨rfl, hb⟩
  have HBn : Hid (Below w.heap.size w wa) := Lib.hid ((fun (h : Below _ _ _) => below_call h h.size hb) (by first | go_grown))
  have hBa_ : wa.heap[w.heap.size]? = some (.cells #[.int .u64 a0, .int .u64 a1, .int .u64 a2, .int .u64 a3] 25 (0, 0)) := heap_keep' hb (by repeat (first | (with_reducible refine heap_new' ?_ _; simp; done) | (with_reducible refine keep4 ?_ (by omega) _ _ _ _) | (with_reducible refine heap_old ?_ _) | (with_reducible refine heap_drew ?_) | (with_reducible refine heap_set_ne ?_ (by simp <;> omega) _)))
  have hBb_ : wa.heap[w.heap.size + 1]? = some (.cells #[.int .u64 b0, .int .u64 b1, .int .u64 b2, .int .u64 b3] 25 (0, 0)) := heap_keep' hb (by repeat (first | (with_reducible refine heap_new' ?_ _; simp; done) | (with_reducible refine keep4 ?_ (by omega) _ _ _ _) | (with_reducible refine heap_old ?_ _) | (with_reducible refine heap_drew ?_) | (with_reducible refine heap_set_ne ?_ (by simp <;> omega) _)))
  have hBc_ : wa.heap[w.heap.size + 1 + 1]? = some (.cells #[.int .u64 c0, .int .u64 c1, .int .u64 c2, .int .u64 c3] 25 (0, 0)) := heap_keep' hb (by repeat (first | (with_reducible refine heap_new' ?_ _; simp; done) | (with_reducible refine keep4 ?_ (by omega) _ _ _ _) | (with_reducible refine heap_old ?_ _) | (with_reducible refine heap_drew ?_) | (with_reducible refine heap_set_ne ?_ (by simp <;> omega) _)))
  clear hb
  have HB := HBn; clear HBn
  have HBa := Lib.hid hBa_; have cBa := cells4 hBa_; have fBa := frozen_of hBa_; have zBa := lt_of_heap hBa_; clear hBa_
  have HBb := Lib.hid hBb_; have cBb := cells4 hBb_; have fBb := frozen_of hBb_; have zBb := lt_of_heap hBb_; clear hBb_
  have HBc := Lib.hid hBc_; have cBc := cells4 hBc_; have fBc := frozen_of hBc_; have zBc := lt_of_heap hBc_; clear hBc_
  go_wp2
  refine Rg.region_ (n := 72) [0, 0, 3, 0, 0, 31, 0, 0, 192, 511, 0] [1, 1, 1, 1, 1, 1, 1, 1, 0, 0, 0] [14, 15, 16, 17, 18, 19, 20, 21, 22, 23, 24] [[(3, none)], [(4, none)], [(14, some 0), (15, some 1)], [(4, none)], [(3, none)], [(17, some 3), (18, some 4)], [(3, none)], [(4, none)], [(20, some 6), (21, some 7)], [(16, some 2), (19, some 5), (22, some 8)], []] 11 (by kernel_rfl) (by kernel_rfl) (by rfl) ?_
  intro W hW
  have hBa_ : W.heap[w.heap.size]? = some (.cells #[.int .u64 a0, .int .u64 a1, .int .u64 a2, .int .u64 a3] 25 (0, 0)) := by rw [hW]; exact (by repeat (first | (with_reducible exact HBa.out) | (with_reducible exact set4 HBa.out _ _ _ _) | (with_reducible apply set4) | (with_reducible refine heap_new' ?_ _; simp; done) | (with_reducible refine keep4 ?_ (by omega) _ _ _ _) | (with_reducible refine heap_old ?_ _) | (with_reducible refine heap_drew ?_) | (with_reducible refine heap_set_ne ?_ (by simp <;> omega) _)))
  have hBb_ : W.heap[w.heap.size + 1]? = some (.cells #[.int .u64 b0, .int .u64 b1, .int .u64 b2, .int .u64 b3] 25 (0, 0)) := by rw [hW]; exact (by repeat (first | (with_reducible exact HBb.out) | (with_reducible exact set4 HBb.out _ _ _ _) | (with_reducible apply set4) | (with_reducible refine heap_new' ?_ _; simp; done) | (with_reducible refine keep4 ?_ (by omega) _ _ _ _) | (with_reducible refine heap_old ?_ _) | (with_reducible refine heap_drew ?_) | (with_reducible refine heap_set_ne ?_ (by simp <;> omega) _)))
  have hBc_ : W.heap[w.heap.size + 1 + 1]? = some (.cells #[.int .u64 c0, .int .u64 c1, .int .u64 c2, .int .u64 c3] 25 (0, 0)) := by rw [hW]; exact (by repeat (first | (with_reducible exact HBc.out) | (with_reducible exact set4 HBc.out _ _ _ _) | (with_reducible apply set4) | (with_reducible refine heap_new' ?_ _; simp; done) | (with_reducible refine keep4 ?_ (by omega) _ _ _ _) | (with_reducible refine heap_old ?_ _) | (with_reducible refine heap_drew ?_) | (with_reducible refine heap_set_ne ?_ (by simp <;> omega) _)))
  have HB0 : Below w.heap.size w W := by rw [hW]; have hB0 := HB.out; have hS0 := hB0.size; first | exact hB0.drew | exact (set4_below hB0 (by omega) _ _ _ _).drew | go_grown
  change Rg.Chain' _ _ _ _ _ [(0, 1, 14, [(3, none)]), (1, 1, 15, [(4, none)]), (2, 1, 16, [(14, some 0), (15, some 1)]), (3, 1, 17, [(4, none)]), (4, 1, 18, [(3, none)]), (5, 1, 19, [(17, some 3), (18, some 4)]), (6, 1, 20, [(3, none)]), (7, 1, 21, [(4, none)]), (8, 0, 22, [(20, some 6), (21, some 7)]), (9, 0, 23, [(16, some 2), (19, some 5), (22, some 8)]), (10, 0, 24, [])] [(0, 1, 14, [(3, none)]), (1, 1, 15, [(4, none)]), (2, 1, 16, [(14, some 0), (15, some 1)]), (3, 1, 17, [(4, none)]), (4, 1, 18, [(3, none)]), (5, 1, 19, [(17, some 3), (18, some 4)]), (6, 1, 20, [(3, none)]), (7, 1, 21, [(4, none)]), (8, 0, 22, [(20, some 6), (21, some 7)]), (9, 0, 23, [(16, some 2), (19, some 5), (22, some 8)]), (10, 0, 24, [])] _
  apply Rg.ch_def (by rfl) (fun a w1 _ => Rg.wanted_none (by rfl))
  · rintro a w1 hb ⟨e3, -⟩
    conv at e3 => rhs; whnf
    have n3 := e3
    simp only [Act.eval, Array.getD_eq_getD_getElem?] at n3
    apply Rg.gives_value
    · conv => lhs; simp [go_sem, n3, cells4 (heap_keep' hb hBa_), cells4 (heap_keep' hb hBb_), cells4 (heap_keep' hb hBc_)]
    · exact ⟨rfl, Below.refl _ _⟩
  apply Rg.ch_def (by rfl) (fun a w1 _ => Rg.wanted_none (by rfl))
  · rintro a w1 hb ⟨e4, -⟩
    conv at e4 => rhs; whnf
    have n4 := e4
    simp only [Act.eval, Array.getD_eq_getD_getElem?] at n4
    apply Rg.gives_value
    · conv => lhs; simp [go_sem, n4, cells4 (heap_keep' hb hBa_), cells4 (heap_keep' hb hBb_), cells4 (heap_keep' hb hBc_)]
    · exact ⟨rfl, Below.refl _ _⟩
  apply Rg.ch_def (by rfl) (fun a w1 _ => Rg.wanted_none (by rfl))
  · rintro a w1 hb ⟨e14, e15, -⟩
    replace e14 : a.eval (.tmp 14) = _ := e14
    replace e15 : a.eval (.tmp 15) = _ := e15
    apply Rg.gives_enter
    · apply run_call Try.func21 (by kernel_rfl) rfl _ (by rfl)
      conv => lhs; simp only [List.map_toArray, List.map_cons, List.map_nil, eval_const_, eval_global_, e14, e15]
    · refine (F1.out _).mono ?_
      rintro e w2 ⟨rfl, hb2⟩
      exact ⟨_, rfl, rfl, hb2⟩
  apply Rg.ch_def (by rfl) (fun a w1 _ => Rg.wanted_none (by rfl))
  · rintro a w1 hb ⟨e4, -⟩
    conv at e4 => rhs; whnf
    have n4 := e4
    simp only [Act.eval, Array.getD_eq_getD_getElem?] at n4
    apply Rg.gives_value
    · conv => lhs; simp [go_sem, n4, cells4 (heap_keep' hb hBa_), cells4 (heap_keep' hb hBb_), cells4 (heap_keep' hb hBc_)]
    · exact ⟨rfl, Below.refl _ _⟩
  apply Rg.ch_def (by rfl) (fun a w1 _ => Rg.wanted_none (by rfl))
  · rintro a w1 hb ⟨e3, -⟩
    conv at e3 => rhs; whnf
    have n3 := e3
    simp only [Act.eval, Array.getD_eq_getD_getElem?] at n3
    apply Rg.gives_value
    · conv => lhs; simp [go_sem, n3, cells4 (heap_keep' hb hBa_), cells4 (heap_keep' hb hBb_), cells4 (heap_keep' hb hBc_)]
    · exact ⟨rfl, Below.refl _ _⟩
  apply Rg.ch_def (by rfl) (fun a w1 _ => Rg.wanted_none (by rfl))
  · rintro a w1 hb ⟨e17, e18, -⟩
    replace e17 : a.eval (.tmp 17) = _ := e17
    replace e18 : a.eval (.tmp 18) = _ := e18
    apply Rg.gives_enter
    · apply run_call Try.func21 (by kernel_rfl) rfl _ (by rfl)
      conv => lhs; simp only [List.map_toArray, List.map_cons, List.map_nil, eval_const_, eval_global_, e17, e18]
    · refine (F2.out _).mono ?_
      rintro e w2 ⟨rfl, hb2⟩
      exact ⟨_, rfl, rfl, hb2⟩
  apply Rg.ch_def (by rfl) (fun a w1 _ => Rg.wanted_none (by rfl))
  · rintro a w1 hb ⟨e3, -⟩
    conv at e3 => rhs; whnf
    have n3 := e3
    simp only [Act.eval, Array.getD_eq_getD_getElem?] at n3
    apply Rg.gives_value
    · conv => lhs; simp [go_sem, n3, cells4 (heap_keep' hb hBa_), cells4 (heap_keep' hb hBb_), cells4 (heap_keep' hb hBc_)]
    · exact ⟨rfl, Below.refl _ _⟩
  apply Rg.ch_def (by rfl) (fun a w1 _ => Rg.wanted_none (by rfl))
  · rintro a w1 hb ⟨e4, -⟩
    conv at e4 => rhs; whnf
    have n4 := e4
    simp only [Act.eval, Array.getD_eq_getD_getElem?] at n4
    apply Rg.gives_value
    · conv => lhs; simp [go_sem, n4, cells4 (heap_keep' hb hBa_), cells4 (heap_keep' hb hBb_), cells4 (heap_keep' hb hBc_)]
    · exact ⟨rfl, Below.refl _ _⟩
  apply Rg.ch_pure (by rfl)
  · rintro a w1 ⟨e20, e21, -⟩
    replace e20 : a.eval (.tmp 20) = _ := e20
    have n20 := e20
    simp only [Act.eval, Array.getD_eq_getD_getElem?] at n20
    replace e21 : a.eval (.tmp 21) = _ := e21
    have n21 := e21
    simp only [Act.eval, Array.getD_eq_getD_getElem?] at n21
    apply Rg.yields_run (Rg.wanted_none (by rfl))
    intro w2
    conv => lhs; simp [go_sem, n20, n21, E]
  apply Rg.ch_pure (by rfl)
  · rintro a w1 ⟨e16, e19, e22, -⟩
    replace e16 : a.eval (.tmp 16) = _ := e16
    have n16 := e16
    simp only [Act.eval, Array.getD_eq_getD_getElem?] at n16
    replace e19 : a.eval (.tmp 19) = _ := e19
    have n19 := e19
    simp only [Act.eval, Array.getD_eq_getD_getElem?] at n19
    replace e22 : a.eval (.tmp 22) = _ := e22
    have n22 := e22
    simp only [Act.eval, Array.getD_eq_getD_getElem?] at n22
    apply Rg.yields_run (Rg.wanted_none (by rfl))
    intro w2
    conv => lhs; simp [go_sem, n16, n19, n22, E]
  apply Rg.ch_pure (by rfl)
  · rintro a w1 -
    apply Rg.yields_run (Rg.wanted_none (by rfl))
    intro w2
    conv => lhs; simp [go_sem, E]
  intro w1 hb1
  rintro _ rfl _ rfl _ rfl _ rfl _ rfl _ rfl _ rfl _ rfl _ rfl _ rfl _ rfl
  change Go.wpList _ _ _ _ _ _
  simp only [List.drop_succ_cons, List.drop_zero, List.drop_nil, Act.put, List.setIfInBounds_toArray, List.set_cons_succ, List.set_cons_zero]
  change Go.NoPanic _ _ _ _
  refine NoPanic.normal ?_
  have HBn : Hid (Below w.heap.size w w1) := Lib.hid (below_call HB0 HB0.size hb1)
  have hBa__ := heap_keep' hb1 hBa_
  have hBb__ := heap_keep' hb1 hBb_
  have hBc__ := heap_keep' hb1 hBc_
  clear hb1 HB0 HB hBa_ HBa cBa fBa zBa hBb_ HBb cBb fBb zBb hBc_ HBc cBc fBc zBc
  clear hW
  obtain ⟨wb, rfl⟩ : ∃ x : World, x = w1 := ⟨_, rfl⟩
  have HB := HBn; clear HBn
  have HBa := Lib.hid hBa__; have cBa := cells4 hBa__; have fBa := frozen_of hBa__; have zBa := lt_of_heap hBa__; clear hBa__
  have HBb := Lib.hid hBb__; have cBb := cells4 hBb__; have fBb := frozen_of hBb__; have zBb := lt_of_heap hBb__; clear hBb__
  have HBc := Lib.hid hBc__; have cBc := cells4 hBc__; have fBc := frozen_of hBc__; have zBc := lt_of_heap hBc__; clear hBc__
  go_wp2
  refine wp_loop_rounds 4 ?_
  rw [rounds_succ]
  go_wp2
  rw [rounds_succ]
  go_wp2
  rw [rounds_succ]
  go_wp2
  rw [rounds_succ]
  go_wp2_with (fail)
  go_at_call 18
  refine (HY.out _).mono ?_
  rintro e wc ⟨⟨v, rfl, hBt, hown⟩, hb⟩
  have HBn : Hid (Below w.heap.size w wc) := Lib.hid ((fun (h : Below _ _ _) => below_call h h.size hb) (by have hB0 := HB.out; have hS0 := hB0.size; first | (with_reducible exact hB0) | (with_reducible exact set4_below hB0 (by omega) _ _ _ _) | (with_reducible exact set4_below (set4_below hB0 (by omega) _ _ _ _) (by omega) _ _ _ _) | (with_reducible exact set4_below (set4_below (set4_below (set4_below hB0 (by omega) _ _ _ _) (by omega) _ _ _ _) (by omega) _ _ _ _) (by omega) _ _ _ _) | go_grown))
  have hBa_ : wc.heap[w.heap.size]? = some (.cells #[.int .u64 a0, .int .u64 a1, .int .u64 a2, .int .u64 a3] 25 (0, 0)) := heap_keep' hb (by repeat (first | (with_reducible exact HBa.out) | (with_reducible exact set4 HBa.out _ _ _ _) | (with_reducible apply set4) | (with_reducible refine heap_new' ?_ _; simp; done) | (with_reducible refine keep4 ?_ (by omega) _ _ _ _) | (with_reducible refine heap_old ?_ _) | (with_reducible refine heap_drew ?_) | (with_reducible refine heap_set_ne ?_ (by simp <;> omega) _)))
  have hBb_ : wc.heap[w.heap.size + 1]? = some (.cells #[.int .u64 b0, .int .u64 b1, .int .u64 b2, .int .u64 b3] 25 (0, 0)) := heap_keep' hb (by repeat (first | (with_reducible exact HBb.out) | (with_reducible exact set4 HBb.out _ _ _ _) | (with_reducible apply set4) | (with_reducible refine heap_new' ?_ _; simp; done) | (with_reducible refine keep4 ?_ (by omega) _ _ _ _) | (with_reducible refine heap_old ?_ _) | (with_reducible refine heap_drew ?_) | (with_reducible refine heap_set_ne ?_ (by simp <;> omega) _)))
  have hBc_ : wc.heap[w.heap.size + 1 + 1]? = some (.cells #[.int .u64 c0, .int .u64 c1, .int .u64 c2, .int .u64 c3] 25 (0, 0)) := heap_keep' hb (by repeat (first | (with_reducible exact HBc.out) | (with_reducible exact set4 HBc.out _ _ _ _) | (with_reducible apply set4) | (with_reducible refine heap_new' ?_ _; simp; done) | (with_reducible refine keep4 ?_ (by omega) _ _ _ _) | (with_reducible refine heap_old ?_ _) | (with_reducible refine heap_drew ?_) | (with_reducible refine heap_set_ne ?_ (by simp <;> omega) _)))
  clear hb HB HBa cBa fBa zBa HBb cBb fBb zBb HBc cBc fBc zBc
  have HB := HBn; clear HBn
  have HBa := Lib.hid hBa_; have cBa := cells4 hBa_; have fBa := frozen_of hBa_; have zBa := lt_of_heap hBa_; clear hBa_
  have HBb := Lib.hid hBb_; have cBb := cells4 hBb_; have fBb := frozen_of hBb_; have zBb := lt_of_heap hBb_; clear hBb_
  have HBc := Lib.hid hBc_; have cBc := cells4 hBc_; have fBc := frozen_of hBc_; have zBc := lt_of_heap hBc_; clear hBc_
  go_wp2_with (fail)
  go_at_call 14
  refine (HO.out _ _ hBt).mono ?_
  rintro e wd ⟨rfl, hb⟩
  have HBn : Hid (Below w.heap.size w wd) := Lib.hid ((fun (h : Below _ _ _) => below_call h h.size hb) (by have hB0 := HB.out; have hS0 := hB0.size; first | (with_reducible exact hB0) | (with_reducible exact set4_below hB0 (by omega) _ _ _ _) | (with_reducible exact set4_below (set4_below hB0 (by omega) _ _ _ _) (by omega) _ _ _ _) | (with_reducible exact set4_below (set4_below (set4_below (set4_below hB0 (by omega) _ _ _ _) (by omega) _ _ _ _) (by omega) _ _ _ _) (by omega) _ _ _ _) | go_grown))
  have hBa_ : wd.heap[w.heap.size]? = some (.cells #[.int .u64 a0, .int .u64 a1, .int .u64 a2, .int .u64 a3] 25 (0, 0)) := heap_keep' hb (by repeat (first | (with_reducible exact HBa.out) | (with_reducible exact set4 HBa.out _ _ _ _) | (with_reducible apply set4) | (with_reducible refine heap_new' ?_ _; simp; done) | (with_reducible refine keep4 ?_ (by omega) _ _ _ _) | (with_reducible refine heap_old ?_ _) | (with_reducible refine heap_drew ?_) | (with_reducible refine heap_set_ne ?_ (by simp <;> omega) _)))
  have hBb_ : wd.heap[w.heap.size + 1]? = some (.cells #[.int .u64 b0, .int .u64 b1, .int .u64 b2, .int .u64 b3] 25 (0, 0)) := heap_keep' hb (by repeat (first | (with_reducible exact HBb.out) | (with_reducible exact set4 HBb.out _ _ _ _) | (with_reducible apply set4) | (with_reducible refine heap_new' ?_ _; simp; done) | (with_reducible refine keep4 ?_ (by omega) _ _ _ _) | (with_reducible refine heap_old ?_ _) | (with_reducible refine heap_drew ?_) | (with_reducible refine heap_set_ne ?_ (by simp <;> omega) _)))
  have hBc_ : wd.heap[w.heap.size + 1 + 1]? = some (.cells #[.int .u64 c0, .int .u64 c1, .int .u64 c2, .int .u64 c3] 25 (0, 0)) := heap_keep' hb (by repeat (first | (with_reducible exact HBc.out) | (with_reducible exact set4 HBc.out _ _ _ _) | (with_reducible apply set4) | (with_reducible refine heap_new' ?_ _; simp; done) | (with_reducible refine keep4 ?_ (by omega) _ _ _ _) | (with_reducible refine heap_old ?_ _) | (with_reducible refine heap_drew ?_) | (with_reducible refine heap_set_ne ?_ (by simp <;> omega) _)))
  clear hb HB HBa cBa fBa zBa HBb cBb fBb zBb HBc cBc fBc zBc
  have HB := HBn; clear HBn
  have HBa := Lib.hid hBa_; have cBa := cells4 hBa_; have fBa := frozen_of hBa_; have zBa := lt_of_heap hBa_; clear hBa_
  have HBb := Lib.hid hBb_; have cBb := cells4 hBb_; have fBb := frozen_of hBb_; have zBb := lt_of_heap hBb_; clear hBb_
  have HBc := Lib.hid hBc_; have cBc := cells4 hBc_; have fBc := frozen_of hBc_; have zBc := lt_of_heap hBc_; clear hBc_
  clear hBt hown
  go_wp2_with (fail)
  go_at_call 21
  refine (F1.out _).mono ?_
  rintro e we ⟨rfl, hb⟩
  have HBn : Hid (Below w.heap.size w we) := Lib.hid ((fun (h : Below _ _ _) => below_call h h.size hb) (by have hB0 := HB.out; have hS0 := hB0.size; first | (with_reducible exact hB0) | (with_reducible exact set4_below hB0 (by omega) _ _ _ _) | (with_reducible exact set4_below (set4_below hB0 (by omega) _ _ _ _) (by omega) _ _ _ _) | (with_reducible exact set4_below (set4_below (set4_below (set4_below hB0 (by omega) _ _ _ _) (by omega) _ _ _ _) (by omega) _ _ _ _) (by omega) _ _ _ _) | go_grown))
  have hBa_ : we.heap[w.heap.size]? = some (.cells #[.int .u64 a0, .int .u64 a1, .int .u64 a2, .int .u64 a3] 25 (0, 0)) := heap_keep' hb (by repeat (first | (with_reducible exact HBa.out) | (with_reducible exact set4 HBa.out _ _ _ _) | (with_reducible apply set4) | (with_reducible refine heap_new' ?_ _; simp; done) | (with_reducible refine keep4 ?_ (by omega) _ _ _ _) | (with_reducible refine heap_old ?_ _) | (with_reducible refine heap_drew ?_) | (with_reducible refine heap_set_ne ?_ (by simp <;> omega) _)))
  have hBb_ : we.heap[w.heap.size + 1]? = some (.cells #[.int .u64 b0, .int .u64 b1, .int .u64 b2, .int .u64 b3] 25 (0, 0)) := heap_keep' hb (by repeat (first | (with_reducible exact HBb.out) | (with_reducible exact set4 HBb.out _ _ _ _) | (with_reducible apply set4) | (with_reducible refine heap_new' ?_ _; simp; done) | (with_reducible refine keep4 ?_ (by omega) _ _ _ _) | (with_reducible refine heap_old ?_ _) | (with_reducible refine heap_drew ?_) | (with_reducible refine heap_set_ne ?_ (by simp <;> omega) _)))
  have hBc_ : we.heap[w.heap.size + 1 + 1]? = some (.cells #[.int .u64 c0, .int .u64 c1, .int .u64 c2, .int .u64 c3] 25 (0, 0)) := heap_keep' hb (by repeat (first | (with_reducible exact HBc.out) | (with_reducible exact set4 HBc.out _ _ _ _) | (with_reducible apply set4) | (with_reducible refine heap_new' ?_ _; simp; done) | (with_reducible refine keep4 ?_ (by omega) _ _ _ _) | (with_reducible refine heap_old ?_ _) | (with_reducible refine heap_drew ?_) | (with_reducible refine heap_set_ne ?_ (by simp <;> omega) _)))
  have hBx_ : we.heap[wd.heap.size]? = some (.cells #[.int .u64 a0, .int .u64 a1, .int .u64 a2, .int .u64 a3] 25 (0, 0)) := heap_keep' hb (by repeat (first | (with_reducible refine heap_new' ?_ _; simp; done) | (with_reducible refine keep4 ?_ (by omega) _ _ _ _) | (with_reducible refine heap_old ?_ _) | (with_reducible refine heap_drew ?_) | (with_reducible refine heap_set_ne ?_ (by simp <;> omega) _)))
  clear hb HB HBa cBa fBa zBa HBb cBb fBb zBb HBc cBc fBc zBc
  have HB := HBn; clear HBn
  have HBa := Lib.hid hBa_; have cBa := cells4 hBa_; have fBa := frozen_of hBa_; have zBa := lt_of_heap hBa_; clear hBa_
  have HBb := Lib.hid hBb_; have cBb := cells4 hBb_; have fBb := frozen_of hBb_; have zBb := lt_of_heap hBb_; clear hBb_
  have HBc := Lib.hid hBc_; have cBc := cells4 hBc_; have fBc := frozen_of hBc_; have zBc := lt_of_heap hBc_; clear hBc_
  have HBx := Lib.hid hBx_; have cBx := cells4 hBx_; have fBx := frozen_of hBx_; have zBx := lt_of_heap hBx_; clear hBx_
  go_wp2_with (fail)
  go_at_call 23
  refine (HA.out _ _ (heap_new' (by simp) _)).mono ?_
  rintro e wh ⟨rfl, hb⟩
  have HBn : Hid (Below w.heap.size w wh) := Lib.hid ((fun (h : Below _ _ _) => below_call h h.size hb) (by have hB0 := HB.out; have hS0 := hB0.size; first | (with_reducible exact hB0) | (with_reducible exact set4_below hB0 (by omega) _ _ _ _) | (with_reducible exact set4_below (set4_below hB0 (by omega) _ _ _ _) (by omega) _ _ _ _) | (with_reducible exact set4_below (set4_below (set4_below (set4_below hB0 (by omega) _ _ _ _) (by omega) _ _ _ _) (by omega) _ _ _ _) (by omega) _ _ _ _) | go_grown))
  have hBa_ : wh.heap[w.heap.size]? = some (.cells #[.int .u64 a0, .int .u64 a1, .int .u64 a2, .int .u64 a3] 25 (0, 0)) := heap_keep' hb (by repeat (first | (with_reducible exact HBa.out) | (with_reducible exact set4 HBa.out _ _ _ _) | (with_reducible apply set4) | (with_reducible refine heap_new' ?_ _; simp; done) | (with_reducible refine keep4 ?_ (by omega) _ _ _ _) | (with_reducible refine heap_old ?_ _) | (with_reducible refine heap_drew ?_) | (with_reducible refine heap_set_ne ?_ (by simp <;> omega) _)))
  have hBb_ : wh.heap[w.heap.size + 1]? = some (.cells #[.int .u64 b0, .int .u64 b1, .int .u64 b2, .int .u64 b3] 25 (0, 0)) := heap_keep' hb (by repeat (first | (with_reducible exact HBb.out) | (with_reducible exact set4 HBb.out _ _ _ _) | (with_reducible apply set4) | (with_reducible refine heap_new' ?_ _; simp; done) | (with_reducible refine keep4 ?_ (by omega) _ _ _ _) | (with_reducible refine heap_old ?_ _) | (with_reducible refine heap_drew ?_) | (with_reducible refine heap_set_ne ?_ (by simp <;> omega) _)))
  have hBc_ : wh.heap[w.heap.size + 1 + 1]? = some (.cells #[.int .u64 c0, .int .u64 c1, .int .u64 c2, .int .u64 c3] 25 (0, 0)) := heap_keep' hb (by repeat (first | (with_reducible exact HBc.out) | (with_reducible exact set4 HBc.out _ _ _ _) | (with_reducible apply set4) | (with_reducible refine heap_new' ?_ _; simp; done) | (with_reducible refine keep4 ?_ (by omega) _ _ _ _) | (with_reducible refine heap_old ?_ _) | (with_reducible refine heap_drew ?_) | (with_reducible refine heap_set_ne ?_ (by simp <;> omega) _)))
  have hBx_ : wh.heap[wd.heap.size]? = some (.cells #[.int .u64 a0, .int .u64 a1, .int .u64 a2, .int .u64 a3] 25 (0, 0)) := heap_keep' hb (by repeat (first | (with_reducible exact HBx.out) | (with_reducible exact set4 HBx.out _ _ _ _) | (with_reducible apply set4) | (with_reducible refine heap_new' ?_ _; simp; done) | (with_reducible refine keep4 ?_ (by omega) _ _ _ _) | (with_reducible refine heap_old ?_ _) | (with_reducible refine heap_drew ?_) | (with_reducible refine heap_set_ne ?_ (by simp <;> omega) _)))
  clear hb HB HBa cBa fBa zBa HBb cBb fBb zBb HBc cBc fBc zBc HBx cBx fBx zBx
  have HB := HBn; clear HBn
  have HBa := Lib.hid hBa_; have cBa := cells4 hBa_; have fBa := frozen_of hBa_; have zBa := lt_of_heap hBa_; clear hBa_
  have HBb := Lib.hid hBb_; have cBb := cells4 hBb_; have fBb := frozen_of hBb_; have zBb := lt_of_heap hBb_; clear hBb_
  have HBc := Lib.hid hBc_; have cBc := cells4 hBc_; have fBc := frozen_of hBc_; have zBc := lt_of_heap hBc_; clear hBc_
  have HBx := Lib.hid hBx_; have cBx := cells4 hBx_; have fBx := frozen_of hBx_; have zBx := lt_of_heap hBx_; clear hBx_
  go_wp2_with (fail)
  go_at_call 24
  refine (HP.out _).mono ?_
  rintro e wi ⟨rfl, hb⟩
  have HBn : Hid (Below w.heap.size w wi) := Lib.hid ((fun (h : Below _ _ _) => below_call h h.size hb) (by have hB0 := HB.out; have hS0 := hB0.size; first | (with_reducible exact hB0) | (with_reducible exact set4_below hB0 (by omega) _ _ _ _) | (with_reducible exact set4_below (set4_below hB0 (by omega) _ _ _ _) (by omega) _ _ _ _) | (with_reducible exact set4_below (set4_below (set4_below (set4_below hB0 (by omega) _ _ _ _) (by omega) _ _ _ _) (by omega) _ _ _ _) (by omega) _ _ _ _) | go_grown))
  have hBa_ : wi.heap[w.heap.size]? = some (.cells #[.int .u64 a0, .int .u64 a1, .int .u64 a2, .int .u64 a3] 25 (0, 0)) := heap_keep' hb (by repeat (first | (with_reducible exact HBa.out) | (with_reducible exact set4 HBa.out _ _ _ _) | (with_reducible apply set4) | (with_reducible refine heap_new' ?_ _; simp; done) | (with_reducible refine keep4 ?_ (by omega) _ _ _ _) | (with_reducible refine heap_old ?_ _) | (with_reducible refine heap_drew ?_) | (with_reducible refine heap_set_ne ?_ (by simp <;> omega) _)))
  have hBb_ : wi.heap[w.heap.size + 1]? = some (.cells #[.int .u64 b0, .int .u64 b1, .int .u64 b2, .int .u64 b3] 25 (0, 0)) := heap_keep' hb (by repeat (first | (with_reducible exact HBb.out) | (with_reducible exact set4 HBb.out _ _ _ _) | (with_reducible apply set4) | (with_reducible refine heap_new' ?_ _; simp; done) | (with_reducible refine keep4 ?_ (by omega) _ _ _ _) | (with_reducible refine heap_old ?_ _) | (with_reducible refine heap_drew ?_) | (with_reducible refine heap_set_ne ?_ (by simp <;> omega) _)))
  have hBc_ : wi.heap[w.heap.size + 1 + 1]? = some (.cells #[.int .u64 c0, .int .u64 c1, .int .u64 c2, .int .u64 c3] 25 (0, 0)) := heap_keep' hb (by repeat (first | (with_reducible exact HBc.out) | (with_reducible exact set4 HBc.out _ _ _ _) | (with_reducible apply set4) | (with_reducible refine heap_new' ?_ _; simp; done) | (with_reducible refine keep4 ?_ (by omega) _ _ _ _) | (with_reducible refine heap_old ?_ _) | (with_reducible refine heap_drew ?_) | (with_reducible refine heap_set_ne ?_ (by simp <;> omega) _)))
  have hBx_ : wi.heap[wd.heap.size]? = some (.cells #[.int .u64 a0, .int .u64 a1, .int .u64 a2, .int .u64 a3] 25 (0, 0)) := heap_keep' hb (by repeat (first | (with_reducible exact HBx.out) | (with_reducible exact set4 HBx.out _ _ _ _) | (with_reducible apply set4) | (with_reducible refine heap_new' ?_ _; simp; done) | (with_reducible refine keep4 ?_ (by omega) _ _ _ _) | (with_reducible refine heap_old ?_ _) | (with_reducible refine heap_drew ?_) | (with_reducible refine heap_set_ne ?_ (by simp <;> omega) _)))
  clear hb HB HBa cBa fBa zBa HBb cBb fBb zBb HBc cBc fBc zBc HBx cBx fBx zBx
  have HB := HBn; clear HBn
  have HBa := Lib.hid hBa_; have cBa := cells4 hBa_; have fBa := frozen_of hBa_; have zBa := lt_of_heap hBa_; clear hBa_
  have HBb := Lib.hid hBb_; have cBb := cells4 hBb_; have fBb := frozen_of hBb_; have zBb := lt_of_heap hBb_; clear hBb_
  have HBc := Lib.hid hBc_; have cBc := cells4 hBc_; have fBc := frozen_of hBc_; have zBc := lt_of_heap hBc_; clear hBc_
  have HBx := Lib.hid hBx_; have cBx := cells4 hBx_; have fBx := frozen_of hBx_; have zBx := lt_of_heap hBx_; clear hBx_
  go_wp2_with (fail)
  go_at_call 21
  refine (HL.out _).mono ?_
  rintro e wj ⟨rfl, hb⟩
  have HBn : Hid (Below w.heap.size w wj) := Lib.hid ((fun (h : Below _ _ _) => below_call h h.size hb) (by have hB0 := HB.out; have hS0 := hB0.size; first | (with_reducible exact hB0) | (with_reducible exact set4_below hB0 (by omega) _ _ _ _) | (with_reducible exact set4_below (set4_below hB0 (by omega) _ _ _ _) (by omega) _ _ _ _) | (with_reducible exact set4_below (set4_below (set4_below (set4_below hB0 (by omega) _ _ _ _) (by omega) _ _ _ _) (by omega) _ _ _ _) (by omega) _ _ _ _) | go_grown))
  have hBa_ : wj.heap[w.heap.size]? = some (.cells #[.int .u64 a0, .int .u64 a1, .int .u64 a2, .int .u64 a3] 25 (0, 0)) := heap_keep' hb (by repeat (first | (with_reducible exact HBa.out) | (with_reducible exact set4 HBa.out _ _ _ _) | (with_reducible apply set4) | (with_reducible refine heap_new' ?_ _; simp; done) | (with_reducible refine keep4 ?_ (by omega) _ _ _ _) | (with_reducible refine heap_old ?_ _) | (with_reducible refine heap_drew ?_) | (with_reducible refine heap_set_ne ?_ (by simp <;> omega) _)))
  have hBb_ : wj.heap[w.heap.size + 1]? = some (.cells #[.int .u64 b0, .int .u64 b1, .int .u64 b2, .int .u64 b3] 25 (0, 0)) := heap_keep' hb (by repeat (first | (with_reducible exact HBb.out) | (with_reducible exact set4 HBb.out _ _ _ _) | (with_reducible apply set4) | (with_reducible refine heap_new' ?_ _; simp; done) | (with_reducible refine keep4 ?_ (by omega) _ _ _ _) | (with_reducible refine heap_old ?_ _) | (with_reducible refine heap_drew ?_) | (with_reducible refine heap_set_ne ?_ (by simp <;> omega) _)))
  have hBc_ : wj.heap[w.heap.size + 1 + 1]? = some (.cells #[.int .u64 c0, .int .u64 c1, .int .u64 c2, .int .u64 c3] 25 (0, 0)) := heap_keep' hb (by repeat (first | (with_reducible exact HBc.out) | (with_reducible exact set4 HBc.out _ _ _ _) | (with_reducible apply set4) | (with_reducible refine heap_new' ?_ _; simp; done) | (with_reducible refine keep4 ?_ (by omega) _ _ _ _) | (with_reducible refine heap_old ?_ _) | (with_reducible refine heap_drew ?_) | (with_reducible refine heap_set_ne ?_ (by simp <;> omega) _)))
  have hBx_ : wj.heap[wd.heap.size]? = some (.cells #[.int .u64 a0, .int .u64 a1, .int .u64 a2, .int .u64 a3] 25 (0, 0)) := heap_keep' hb (by repeat (first | (with_reducible exact HBx.out) | (with_reducible exact set4 HBx.out _ _ _ _) | (with_reducible apply set4) | (with_reducible refine heap_new' ?_ _; simp; done) | (with_reducible refine keep4 ?_ (by omega) _ _ _ _) | (with_reducible refine heap_old ?_ _) | (with_reducible refine heap_drew ?_) | (with_reducible refine heap_set_ne ?_ (by simp <;> omega) _)))
  clear hb HB HBa cBa fBa zBa HBb cBb fBb zBb HBc cBc fBc zBc HBx cBx fBx zBx
  have HB := HBn; clear HBn
  have HBa := Lib.hid hBa_; have cBa := cells4 hBa_; have fBa := frozen_of hBa_; have zBa := lt_of_heap hBa_; clear hBa_
  have HBb := Lib.hid hBb_; have cBb := cells4 hBb_; have fBb := frozen_of hBb_; have zBb := lt_of_heap hBb_; clear hBb_
  have HBc := Lib.hid hBc_; have cBc := cells4 hBc_; have fBc := frozen_of hBc_; have zBc := lt_of_heap hBc_; clear hBc_
  have HBx := Lib.hid hBx_; have cBx := cells4 hBx_; have fBx := frozen_of hBx_; have zBx := lt_of_heap hBx_; clear hBx_
  go_wp2
  go_ret
  refine ⟨rfl, ?_⟩
  have hB0 := HB.out; have hS0 := hB0.size; first | exact hB0 | go_grown

theorem rows_fact (a0 a1 a2 a3 b0 b1 b2 b3 c0 c1 c2 c3 : Nat) (ha : W4 a0 a1 a2 a3) (hb : W4 b0 b1 b2 b3) (hc : W4 c0 c1 c2 c3) (w : World) : Calls Try.prog 4 #[.agg #[.int .u64 a0, .int .u64 a1, .int .u64 a2, .int .u64 a3], .agg #[.int .u64 b0, .int .u64 b1, .int .u64 b2, .int .u64 b3], .agg #[.int .u64 c0, .int .u64 c1, .int .u64 c2, .int .u64 c3]] w fun e w' => e = .returned (.bool true) ∧ Below w.heap.size w w' := by
  obtain ⟨z1, h1, F1⟩ := less_fact a0 a1 a2 a3 b0 b1 b2 b3 ha hb
  obtain ⟨z2, h2, F2⟩ := less_fact b0 b1 b2 b3 a0 a1 a2 a3 hb ha
  obtain ⟨z3, h3, F3⟩ := less_fact b0 b1 b2 b3 c0 c1 c2 c3 hb hc
  obtain ⟨z4, h4, F4⟩ := less_fact a0 a1 a2 a3 c0 c1 c2 c3 ha hc
  have no : ∀ {z : Bool} {p : Prop}, (z = true ↔ p) → ¬ p → z = false := fun {z p} h n => by
    cases z
    · rfl
    · exact absurd (h.1 rfl) n
  rcases Nat.lt_trichotomy (V a0 a1 a2 a3) (V b0 b1 b2 b3) with h | h | h
  · obtain rfl := h1.2 h
    obtain rfl := no h2 (by omega)
    by_cases hbc : V b0 b1 b2 b3 < V c0 c1 c2 c3
    · obtain rfl := h3.2 hbc
      obtain rfl := h4.2 (by omega)
      exact rows_A a0 a1 a2 a3 b0 b1 b2 b3 c0 c1 c2 c3 ha F1 F2 (eqL_no ha hb (by omega)) F3 F4 w
    · obtain rfl := no h3 hbc
      exact rows_B a0 a1 a2 a3 b0 b1 b2 b3 c0 c1 c2 c3 ha F1 F2 (eqL_no ha hb (by omega)) F3 w
  · obtain rfl := no h1 (by omega)
    obtain rfl := no h2 (by omega)
    exact rows_D a0 a1 a2 a3 b0 b1 b2 b3 c0 c1 c2 c3 ha F1 F2 (eqL_yes ha hb h) w
  · obtain rfl := no h1 (by omega)
    obtain rfl := h2.2 h
    exact rows_C a0 a1 a2 a3 b0 b1 b2 b3 c0 c1 c2 c3 ha F1 F2 (eqL_no ha hb (by omega)) w

end Go.Proofs.Ytldnjbpcdojffaa
