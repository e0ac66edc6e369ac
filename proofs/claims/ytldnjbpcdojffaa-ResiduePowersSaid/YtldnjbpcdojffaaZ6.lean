/- @@NUM 25 The walk of law 08's ResidueBytes. Conditions: words are below 2^64. -/
import Derived.Test.YtldnjbpcdojffaaZ4
import Derived.Test.YtldnjbpcdojffaaZ5
set_option linter.unusedSectionVars false
namespace Go.Proofs.Ytldnjbpcdojffaa
set_option linter.unusedVariables false
set_option linter.unusedSimpArgs false
open Go Go.RowKit
open Pl (V V8 W4 T256 le bytesOf)
open Dg (nv dg Ok)

set_option maxHeartbeats 8000000 in
theorem rb_B0 (n0 n1 n2 n3 m0 m1 m2 m3 x0 x1 x2 x3 : Nat) (zs bn : List Nat) (dn dm dz : List Int) (z1 : Bool) (sa : Option Addr) (len cap : Nat)
    (H0 : Hid (∀ w : World, Calls Try.prog 13 #[] w fun e w' => e = .returned (.bool true) ∧ Below w.heap.size w w'))
    (HBn : Hid (∀ w : World, Calls Try.prog 18 #[.agg #[.int .u64 n0, .int .u64 n1, .int .u64 n2, .int .u64 n3]] w fun e w' => (∃ v, e = .returned v ∧ Bts w'.heap.size w' v bn) ∧ Below w.heap.size w w'))
    (HRn : Hid (∀ w : World, Calls Try.prog 20 #[.agg #[.int .u64 n0, .int .u64 n1, .int .u64 n2, .int .u64 n3]] w fun e w' => (∃ v, e = .returned v ∧ RdI w'.heap.size w' v dn) ∧ Below w.heap.size w w'))
    (HRm : Hid (∀ w : World, Calls Try.prog 20 #[.agg #[.int .u64 m0, .int .u64 m1, .int .u64 m2, .int .u64 m3]] w fun e w' => (∃ v, e = .returned v ∧ RdI w'.heap.size w' v dm) ∧ Below w.heap.size w w'))
    (HRB : Hid (∀ (sv : Value) (w : World), RdI w.heap.size w sv dn → Calls Try.prog 19 #[sv] w fun e w' => (∃ v, e = .returned v ∧ Bts w'.heap.size w' v bn) ∧ Below w.heap.size w w'))
    (HL : Hid (∀ w : World, Calls Try.prog 21 #[.agg #[.int .u64 n0, .int .u64 n1, .int .u64 n2, .int .u64 n3], .agg #[.int .u64 m0, .int .u64 m1, .int .u64 m2, .int .u64 m3]] w fun e w' => e = .returned (.bool z1) ∧ Below w.heap.size w w'))
    (HRL : Hid (∀ (sa sb : Value) (w : World), RdI w.heap.size w sa dn → RdI w.heap.size w sb dm → Calls Try.prog 22 #[sa, sb] w fun e w' => e = .returned (.bool z1) ∧ Below w.heap.size w w'))
    (HZ : Hid (∀ w : World, Calls Try.prog 15 #[.agg #[.int .u64 n0, .int .u64 n1, .int .u64 n2, .int .u64 n3]] w fun e w' => e = .returned (.bool false) ∧ Below w.heap.size w w'))
    (hL1 : ¬ dn.length = 0) (hL2 : ¬ dn = []) (w : World)
    (HOf : Hid (∀ w : World, Calls Try.prog 14 #[.slice sa len cap] w fun e w' => e = .returned (.tuple #[.agg #[.int .u64 0, .int .u64 0, .int .u64 0, .int .u64 0], .int .i64 3]) ∧ Below w.heap.size w w'))
    (HZ0 : Hid (∀ w : World, Calls Try.prog 15 #[.agg #[.int .u64 0, .int .u64 0, .int .u64 0, .int .u64 0]] w fun e w' => e = .returned (.bool true) ∧ Below w.heap.size w w'))
    (hl1 : ¬ (100 : Int) < (len : Int)) (hl2 : ¬ (len : Int) = 32) : Calls Try.prog 3 #[.slice sa len cap, .agg #[.int .u64 n0, .int .u64 n1, .int .u64 n2, .int .u64 n3], .agg #[.int .u64 m0, .int .u64 m1, .int .u64 m2, .int .u64 m3]] w fun e w' => e = .returned (.bool true) ∧ Below w.heap.size w w' := by
  go_enter Try.func3, Try.ntmps3
  have hL3 : (((dn.length : Int)) == 0) = false := by simpa using hL1
  clear hL1 hL2
  go_wp2_with (fail)
  go_at_call 13
  refine (H0.out _).mono ?_
  rintro e wa ⟨rfl, hb⟩
  have HBn : Hid (Below w.heap.size w wa) := Lib.hid ((fun (h : Below _ _ _) => below_call h h.size hb) (by first | go_grown))
  have hBq_ : wa.heap[w.heap.size]? = some (.cells #[.int .u64 n0, .int .u64 n1, .int .u64 n2, .int .u64 n3] 25 (0, 0)) := heap_keep' hb (by repeat (first | (with_reducible refine heap_new' ?_ _; simp; done) | (with_reducible refine keep4 ?_ (by omega) _ _ _ _) | (with_reducible refine heap_old ?_ _) | (with_reducible refine heap_drew ?_) | (with_reducible refine heap_set_ne ?_ (by simp <;> omega) _)))
  have hBm_ : wa.heap[w.heap.size + 1]? = some (.cells #[.int .u64 m0, .int .u64 m1, .int .u64 m2, .int .u64 m3] 25 (0, 0)) := heap_keep' hb (by repeat (first | (with_reducible refine heap_new' ?_ _; simp; done) | (with_reducible refine keep4 ?_ (by omega) _ _ _ _) | (with_reducible refine heap_old ?_ _) | (with_reducible refine heap_drew ?_) | (with_reducible refine heap_set_ne ?_ (by simp <;> omega) _)))
  clear hb
  have HB := HBn; clear HBn
  have HBq := Lib.hid hBq_; have cBq := cells4 hBq_; have fBq := frozen_of hBq_; have zBq := lt_of_heap hBq_; clear hBq_
  have HBm := Lib.hid hBm_; have cBm := cells4 hBm_; have fBm := frozen_of hBm_; have zBm := lt_of_heap hBm_; clear hBm_
  go_wp2_with (fail)
  go_at_call 14
  refine (HOf.out _).mono ?_
  rintro e wb ⟨rfl, hb⟩
  have HBn : Hid (Below w.heap.size w wb) := Lib.hid ((fun (h : Below _ _ _) => below_call h h.size hb) (by have hB0 := HB.out; have hS0 := hB0.size; first | (with_reducible exact hB0) | (with_reducible exact set4_below hB0 (by omega) _ _ _ _) | (with_reducible exact set4_below (set4_below hB0 (by omega) _ _ _ _) (by omega) _ _ _ _) | (with_reducible exact set4_below (set4_below (set4_below (set4_below hB0 (by omega) _ _ _ _) (by omega) _ _ _ _) (by omega) _ _ _ _) (by omega) _ _ _ _) | go_grown))
  have hBq_ : wb.heap[w.heap.size]? = some (.cells #[.int .u64 n0, .int .u64 n1, .int .u64 n2, .int .u64 n3] 25 (0, 0)) := heap_keep' hb (by repeat (first | (with_reducible exact HBq.out) | (with_reducible exact set4 HBq.out _ _ _ _) | (with_reducible apply set4) | (with_reducible refine heap_new' ?_ _; simp; done) | (with_reducible refine keep4 ?_ (by omega) _ _ _ _) | (with_reducible refine heap_old ?_ _) | (with_reducible refine heap_drew ?_) | (with_reducible refine heap_set_ne ?_ (by simp <;> omega) _)))
  have hBm_ : wb.heap[w.heap.size + 1]? = some (.cells #[.int .u64 m0, .int .u64 m1, .int .u64 m2, .int .u64 m3] 25 (0, 0)) := heap_keep' hb (by repeat (first | (with_reducible exact HBm.out) | (with_reducible exact set4 HBm.out _ _ _ _) | (with_reducible apply set4) | (with_reducible refine heap_new' ?_ _; simp; done) | (with_reducible refine keep4 ?_ (by omega) _ _ _ _) | (with_reducible refine heap_old ?_ _) | (with_reducible refine heap_drew ?_) | (with_reducible refine heap_set_ne ?_ (by simp <;> omega) _)))
  clear hb HB HBq cBq fBq zBq HBm cBm fBm zBm
  have HB := HBn; clear HBn
  have HBq := Lib.hid hBq_; have cBq := cells4 hBq_; have fBq := frozen_of hBq_; have zBq := lt_of_heap hBq_; clear hBq_
  have HBm := Lib.hid hBm_; have cBm := cells4 hBm_; have fBm := frozen_of hBm_; have zBm := lt_of_heap hBm_; clear hBm_
  go_wp2_with (fail)
  go_at_call 15
  refine (HZ0.out _).mono ?_
  rintro e wc ⟨rfl, hb⟩
  have HBn : Hid (Below w.heap.size w wc) := Lib.hid ((fun (h : Below _ _ _) => below_call h h.size hb) (by have hB0 := HB.out; have hS0 := hB0.size; first | (with_reducible exact hB0) | (with_reducible exact set4_below hB0 (by omega) _ _ _ _) | (with_reducible exact set4_below (set4_below hB0 (by omega) _ _ _ _) (by omega) _ _ _ _) | (with_reducible exact set4_below (set4_below (set4_below (set4_below hB0 (by omega) _ _ _ _) (by omega) _ _ _ _) (by omega) _ _ _ _) (by omega) _ _ _ _) | go_grown))
  have hBq_ : wc.heap[w.heap.size]? = some (.cells #[.int .u64 n0, .int .u64 n1, .int .u64 n2, .int .u64 n3] 25 (0, 0)) := heap_keep' hb (by repeat (first | (with_reducible exact HBq.out) | (with_reducible exact set4 HBq.out _ _ _ _) | (with_reducible apply set4) | (with_reducible refine heap_new' ?_ _; simp; done) | (with_reducible refine keep4 ?_ (by omega) _ _ _ _) | (with_reducible refine heap_old ?_ _) | (with_reducible refine heap_drew ?_) | (with_reducible refine heap_set_ne ?_ (by simp <;> omega) _)))
  have hBm_ : wc.heap[w.heap.size + 1]? = some (.cells #[.int .u64 m0, .int .u64 m1, .int .u64 m2, .int .u64 m3] 25 (0, 0)) := heap_keep' hb (by repeat (first | (with_reducible exact HBm.out) | (with_reducible exact set4 HBm.out _ _ _ _) | (with_reducible apply set4) | (with_reducible refine heap_new' ?_ _; simp; done) | (with_reducible refine keep4 ?_ (by omega) _ _ _ _) | (with_reducible refine heap_old ?_ _) | (with_reducible refine heap_drew ?_) | (with_reducible refine heap_set_ne ?_ (by simp <;> omega) _)))
  have hBx_ : wc.heap[wb.heap.size]? = some (.cells #[.int .u64 0, .int .u64 0, .int .u64 0, .int .u64 0] 25 (0, 0)) := heap_keep' hb (by repeat (first | (with_reducible refine heap_new' ?_ _; simp; done) | (with_reducible refine keep4 ?_ (by omega) _ _ _ _) | (with_reducible refine heap_old ?_ _) | (with_reducible refine heap_drew ?_) | (with_reducible refine heap_set_ne ?_ (by simp <;> omega) _)))
  clear hb HB HBq cBq fBq zBq HBm cBm fBm zBm
  have HB := HBn; clear HBn
  have HBq := Lib.hid hBq_; have cBq := cells4 hBq_; have fBq := frozen_of hBq_; have zBq := lt_of_heap hBq_; clear hBq_
  have HBm := Lib.hid hBm_; have cBm := cells4 hBm_; have fBm := frozen_of hBm_; have zBm := lt_of_heap hBm_; clear hBm_
  have HBx := Lib.hid hBx_; have cBx := cells4 hBx_; have fBx := frozen_of hBx_; have zBx := lt_of_heap hBx_; clear hBx_
  go_wp2
  refine Rg.region_ (n := 77) [0, 1, 3, 0, 11, 27, 59, 127, 255, 511, 511, 2047, 511, 8191, 511, 32767, 65535, 131071, 262143, 524287, 1048575, 2097151, 1048575, 8388607, 16777215, 33554431, 67108863, 134217727, 268435455] [1, 1, 1, 1, 1, 1, 1, 0, 0, 1, 1, 1, 1, 1, 1, 1, 1, 0, 0, 0, 1, 1, 1, 1, 0, 0, 0, 0, 0] [49, 50, 51, 52, 53, 54, 55, 56, 57, 58, 59, 60, 61, 62, 63, 64, 65, 66, 67, 68, 69, 70, 71, 72, 73, 74, 75, 76, 6] [[(4, none)], [(49, some 0)], [(50, some 1)], [(4, none)], [(52, some 3)], [(53, some 4)], [(54, some 5)], [(51, some 2), (55, some 6)], [(56, some 7)], [(4, none), (57, some 8)], [(5, none), (57, some 8)], [(58, some 9), (59, some 10), (57, some 8)], [(4, none), (57, some 8)], [(61, some 12), (57, some 8)], [(5, none), (57, some 8)], [(63, some 14), (57, some 8)], [(62, some 13), (64, some 15), (57, some 8)], [(60, some 11), (65, some 16), (57, some 8)], [(57, some 8), (66, some 17)], [(67, some 18)], [(4, none), (68, some 19)], [(69, some 20), (68, some 19)], [(4, none), (68, some 19)], [(71, some 22), (68, some 19)], [(72, some 23), (68, some 19)], [(73, some 24), (68, some 19)], [(70, some 21), (74, some 25), (68, some 19)], [(68, some 19), (75, some 26)], [(76, some 27)]] 29 (by kernel_rfl) (by kernel_rfl) (by rfl) ?_
  intro W hW
  have hBq_ : W.heap[w.heap.size]? = some (.cells #[.int .u64 n0, .int .u64 n1, .int .u64 n2, .int .u64 n3] 25 (0, 0)) := by rw [hW]; exact (by repeat (first | (with_reducible exact HBq.out) | (with_reducible exact set4 HBq.out _ _ _ _) | (with_reducible apply set4) | (with_reducible refine heap_new' ?_ _; simp; done) | (with_reducible refine keep4 ?_ (by omega) _ _ _ _) | (with_reducible refine heap_old ?_ _) | (with_reducible refine heap_drew ?_) | (with_reducible refine heap_set_ne ?_ (by simp <;> omega) _)))
  have hBm_ : W.heap[w.heap.size + 1]? = some (.cells #[.int .u64 m0, .int .u64 m1, .int .u64 m2, .int .u64 m3] 25 (0, 0)) := by rw [hW]; exact (by repeat (first | (with_reducible exact HBm.out) | (with_reducible exact set4 HBm.out _ _ _ _) | (with_reducible apply set4) | (with_reducible refine heap_new' ?_ _; simp; done) | (with_reducible refine keep4 ?_ (by omega) _ _ _ _) | (with_reducible refine heap_old ?_ _) | (with_reducible refine heap_drew ?_) | (with_reducible refine heap_set_ne ?_ (by simp <;> omega) _)))
  have hBx_ : W.heap[wb.heap.size]? = some (.cells #[.int .u64 0, .int .u64 0, .int .u64 0, .int .u64 0] 25 (0, 0)) := by rw [hW]; exact (by repeat (first | (with_reducible exact HBx.out) | (with_reducible exact set4 HBx.out _ _ _ _) | (with_reducible apply set4) | (with_reducible refine heap_new' ?_ _; simp; done) | (with_reducible refine keep4 ?_ (by omega) _ _ _ _) | (with_reducible refine heap_old ?_ _) | (with_reducible refine heap_drew ?_) | (with_reducible refine heap_set_ne ?_ (by simp <;> omega) _)))
  have HB0 : Below w.heap.size w W := by rw [hW]; have hB0 := HB.out; have hS0 := hB0.size; first | exact hB0.drew | exact (set4_below hB0 (by omega) _ _ _ _).drew | go_grown
  change Rg.Chain' _ _ _ _ _ [(0, 1, 49, [(4, none)]), (1, 1, 50, [(49, some 0)]), (2, 1, 51, [(50, some 1)]), (3, 1, 52, [(4, none)]), (4, 1, 53, [(52, some 3)]), (5, 1, 54, [(53, some 4)]), (6, 1, 55, [(54, some 5)]), (7, 0, 56, [(51, some 2), (55, some 6)]), (8, 0, 57, [(56, some 7)]), (9, 1, 58, [(4, none), (57, some 8)]), (10, 1, 59, [(5, none), (57, some 8)]), (11, 1, 60, [(58, some 9), (59, some 10), (57, some 8)]), (12, 1, 61, [(4, none), (57, some 8)]), (13, 1, 62, [(61, some 12), (57, some 8)]), (14, 1, 63, [(5, none), (57, some 8)]), (15, 1, 64, [(63, some 14), (57, some 8)]), (16, 1, 65, [(62, some 13), (64, some 15), (57, some 8)]), (17, 0, 66, [(60, some 11), (65, some 16), (57, some 8)]), (18, 0, 67, [(57, some 8), (66, some 17)]), (19, 0, 68, [(67, some 18)]), (20, 1, 69, [(4, none), (68, some 19)]), (21, 1, 70, [(69, some 20), (68, some 19)]), (22, 1, 71, [(4, none), (68, some 19)]), (23, 1, 72, [(71, some 22), (68, some 19)]), (24, 0, 73, [(72, some 23), (68, some 19)]), (25, 0, 74, [(73, some 24), (68, some 19)]), (26, 0, 75, [(70, some 21), (74, some 25), (68, some 19)]), (27, 0, 76, [(68, some 19), (75, some 26)]), (28, 0, 6, [(76, some 27)])] [(0, 1, 49, [(4, none)]), (1, 1, 50, [(49, some 0)]), (2, 1, 51, [(50, some 1)]), (3, 1, 52, [(4, none)]), (4, 1, 53, [(52, some 3)]), (5, 1, 54, [(53, some 4)]), (6, 1, 55, [(54, some 5)]), (7, 0, 56, [(51, some 2), (55, some 6)]), (8, 0, 57, [(56, some 7)]), (9, 1, 58, [(4, none), (57, some 8)]), (10, 1, 59, [(5, none), (57, some 8)]), (11, 1, 60, [(58, some 9), (59, some 10), (57, some 8)]), (12, 1, 61, [(4, none), (57, some 8)]), (13, 1, 62, [(61, some 12), (57, some 8)]), (14, 1, 63, [(5, none), (57, some 8)]), (15, 1, 64, [(63, some 14), (57, some 8)]), (16, 1, 65, [(62, some 13), (64, some 15), (57, some 8)]), (17, 0, 66, [(60, some 11), (65, some 16), (57, some 8)]), (18, 0, 67, [(57, some 8), (66, some 17)]), (19, 0, 68, [(67, some 18)]), (20, 1, 69, [(4, none), (68, some 19)]), (21, 1, 70, [(69, some 20), (68, some 19)]), (22, 1, 71, [(4, none), (68, some 19)]), (23, 1, 72, [(71, some 22), (68, some 19)]), (24, 0, 73, [(72, some 23), (68, some 19)]), (25, 0, 74, [(73, some 24), (68, some 19)]), (26, 0, 75, [(70, some 21), (74, some 25), (68, some 19)]), (27, 0, 76, [(68, some 19), (75, some 26)]), (28, 0, 6, [(76, some 27)])] _
  apply Rg.ch_def (by rfl) (fun a w1 _ => Rg.wanted_none (by rfl))
  · rintro a w1 hb ⟨e4, -⟩
    conv at e4 => rhs; whnf
    have n4 := e4
    simp only [Act.eval, Array.getD_eq_getD_getElem?] at n4
    apply Rg.gives_value
    · conv => lhs; simp [go_sem, n4, cells4 (heap_keep' hb hBq_), cells4 (heap_keep' hb hBm_), cells4 (heap_keep' hb hBx_)]
    · exact ⟨rfl, Below.refl _ _⟩
  apply Rg.ch_rel (fun w v => Bts w.heap.size w v bn) (stable_bts _) (by rfl) (fun a w1 _ => Rg.wanted_none (by rfl))
  · rintro a w1 hb ⟨e49, -⟩
    replace e49 : a.eval (.tmp 49) = _ := e49
    apply Rg.gives_enter
    · apply run_call Try.func18 (by kernel_rfl) rfl _ (by rfl)
      conv => lhs; simp only [List.map_toArray, List.map_cons, List.map_nil, eval_const_, eval_global_, e49]
    · refine (HBn.out _).mono ?_
      rintro e w2 ⟨⟨v, rfl, hv⟩, hb2⟩
      exact ⟨_, rfl, hv, hb2⟩
  apply Rg.ch_def (by rfl) (fun a w1 _ => Rg.wanted_none (by rfl))
  · rintro a w1 hb ⟨e50, -⟩
    replace e50 : (fun w v => Bts w.heap.size w v bn) w1 (a.eval (.tmp 50)) := e50
    exact Rg.gives_value (w' := w1) (conv_exec (s := 50) rfl e50) ⟨rfl, Below.refl _ _⟩
  apply Rg.ch_def (by rfl) (fun a w1 _ => Rg.wanted_none (by rfl))
  · rintro a w1 hb ⟨e4, -⟩
    conv at e4 => rhs; whnf
    have n4 := e4
    simp only [Act.eval, Array.getD_eq_getD_getElem?] at n4
    apply Rg.gives_value
    · conv => lhs; simp [go_sem, n4, cells4 (heap_keep' hb hBq_), cells4 (heap_keep' hb hBm_), cells4 (heap_keep' hb hBx_)]
    · exact ⟨rfl, Below.refl _ _⟩
  apply Rg.ch_rel (fun w v => RdI w.heap.size w v dn) (stable_rdi _) (by rfl) (fun a w1 _ => Rg.wanted_none (by rfl))
  · rintro a w1 hb ⟨e52, -⟩
    replace e52 : a.eval (.tmp 52) = _ := e52
    apply Rg.gives_enter
    · apply run_call Try.func20 (by kernel_rfl) rfl _ (by rfl)
      conv => lhs; simp only [List.map_toArray, List.map_cons, List.map_nil, eval_const_, eval_global_, e52]
    · refine (HRn.out _).mono ?_
      rintro e w2 ⟨⟨v, rfl, hv⟩, hb2⟩
      exact ⟨_, rfl, hv, hb2⟩
  apply Rg.ch_rel (fun w v => Bts w.heap.size w v bn) (stable_bts _) (by rfl) (fun a w1 _ => Rg.wanted_none (by rfl))
  · rintro a w1 hb ⟨e53, -⟩
    replace e53 : (fun w v => RdI w.heap.size w v dn) w1 (a.eval (.tmp 53)) := e53
    apply Rg.gives_enter
    · apply run_call Try.func19 (by kernel_rfl) rfl _ (by rfl)
      conv => lhs; simp only [List.map_toArray, List.map_cons, List.map_nil, eval_const_, eval_global_]
    · refine (HRB.out _ _ e53).mono ?_
      rintro e w2 ⟨⟨v, rfl, hv⟩, hb2⟩
      exact ⟨_, rfl, hv, hb2⟩
  apply Rg.ch_def (by rfl) (fun a w1 _ => Rg.wanted_none (by rfl))
  · rintro a w1 hb ⟨e54, -⟩
    replace e54 : (fun w v => Bts w.heap.size w v bn) w1 (a.eval (.tmp 54)) := e54
    exact Rg.gives_value (w' := w1) (conv_exec (s := 54) rfl e54) ⟨rfl, Below.refl _ _⟩
  apply Rg.ch_pure (by rfl)
  · rintro a w1 ⟨e51, e55, -⟩
    replace e51 : a.eval (.tmp 51) = _ := e51
    have n51 := e51
    simp only [Act.eval, Array.getD_eq_getD_getElem?] at n51
    replace e55 : a.eval (.tmp 55) = _ := e55
    have n55 := e55
    simp only [Act.eval, Array.getD_eq_getD_getElem?] at n55
    apply Rg.yields_run (Rg.wanted_none (by rfl))
    intro w2
    conv => lhs; simp [go_sem, n51, n55, hL3]
  apply Rg.ch_pure (by rfl)
  · rintro a w1 ⟨e56, -⟩
    replace e56 : a.eval (.tmp 56) = _ := e56
    have n56 := e56
    simp only [Act.eval, Array.getD_eq_getD_getElem?] at n56
    apply Rg.yields_run (Rg.wanted_none (by rfl))
    intro w2
    conv => lhs; simp [go_sem, n56, hL3]
  apply Rg.ch_def (by rfl) (fun a w1 h => by obtain ⟨-, e57, -⟩ := h; exact Rg.wanted_some (by rfl) (by rfl) e57)
  · rintro a w1 hb ⟨e4, e57, -⟩
    conv at e4 => rhs; whnf
    have n4 := e4
    simp only [Act.eval, Array.getD_eq_getD_getElem?] at n4
    replace e57 : a.eval (.tmp 57) = _ := e57
    have n57 := e57
    simp only [Act.eval, Array.getD_eq_getD_getElem?] at n57
    apply Rg.gives_value
    · conv => lhs; simp [go_sem, n4, n57, cells4 (heap_keep' hb hBq_), cells4 (heap_keep' hb hBm_), cells4 (heap_keep' hb hBx_)]
    · exact ⟨rfl, Below.refl _ _⟩
  apply Rg.ch_def (by rfl) (fun a w1 h => by obtain ⟨-, e57, -⟩ := h; exact Rg.wanted_some (by rfl) (by rfl) e57)
  · rintro a w1 hb ⟨e5, e57, -⟩
    conv at e5 => rhs; whnf
    have n5 := e5
    simp only [Act.eval, Array.getD_eq_getD_getElem?] at n5
    replace e57 : a.eval (.tmp 57) = _ := e57
    have n57 := e57
    simp only [Act.eval, Array.getD_eq_getD_getElem?] at n57
    apply Rg.gives_value
    · conv => lhs; simp [go_sem, n5, n57, cells4 (heap_keep' hb hBq_), cells4 (heap_keep' hb hBm_), cells4 (heap_keep' hb hBx_)]
    · exact ⟨rfl, Below.refl _ _⟩
  apply Rg.ch_def (by rfl) (fun a w1 h => by obtain ⟨-, -, e57, -⟩ := h; exact Rg.wanted_some (by rfl) (by rfl) e57)
  · rintro a w1 hb ⟨e58, e59, e57, -⟩
    replace e58 : a.eval (.tmp 58) = _ := e58
    replace e59 : a.eval (.tmp 59) = _ := e59
    replace e57 : a.eval (.tmp 57) = _ := e57
    apply Rg.gives_enter
    · apply run_call Try.func21 (by kernel_rfl) rfl _ (by rfl)
      conv => lhs; simp only [List.map_toArray, List.map_cons, List.map_nil, eval_const_, eval_global_, e58, e59]
    · refine (HL.out _).mono ?_
      rintro e w2 ⟨rfl, hb2⟩
      exact ⟨_, rfl, rfl, hb2⟩
  apply Rg.ch_def (by rfl) (fun a w1 h => by obtain ⟨-, e57, -⟩ := h; exact Rg.wanted_some (by rfl) (by rfl) e57)
  · rintro a w1 hb ⟨e4, e57, -⟩
    conv at e4 => rhs; whnf
    have n4 := e4
    simp only [Act.eval, Array.getD_eq_getD_getElem?] at n4
    replace e57 : a.eval (.tmp 57) = _ := e57
    have n57 := e57
    simp only [Act.eval, Array.getD_eq_getD_getElem?] at n57
    apply Rg.gives_value
    · conv => lhs; simp [go_sem, n4, n57, cells4 (heap_keep' hb hBq_), cells4 (heap_keep' hb hBm_), cells4 (heap_keep' hb hBx_)]
    · exact ⟨rfl, Below.refl _ _⟩
  apply Rg.ch_rel (fun w v => RdI w.heap.size w v dn) (stable_rdi _) (by rfl) (fun a w1 h => by obtain ⟨-, e57, -⟩ := h; exact Rg.wanted_some (by rfl) (by rfl) e57)
  · rintro a w1 hb ⟨e61, e57, -⟩
    replace e61 : a.eval (.tmp 61) = _ := e61
    replace e57 : a.eval (.tmp 57) = _ := e57
    apply Rg.gives_enter
    · apply run_call Try.func20 (by kernel_rfl) rfl _ (by rfl)
      conv => lhs; simp only [List.map_toArray, List.map_cons, List.map_nil, eval_const_, eval_global_, e61]
    · refine (HRn.out _).mono ?_
      rintro e w2 ⟨⟨v, rfl, hv⟩, hb2⟩
      exact ⟨_, rfl, hv, hb2⟩
  apply Rg.ch_def (by rfl) (fun a w1 h => by obtain ⟨-, e57, -⟩ := h; exact Rg.wanted_some (by rfl) (by rfl) e57)
  · rintro a w1 hb ⟨e5, e57, -⟩
    conv at e5 => rhs; whnf
    have n5 := e5
    simp only [Act.eval, Array.getD_eq_getD_getElem?] at n5
    replace e57 : a.eval (.tmp 57) = _ := e57
    have n57 := e57
    simp only [Act.eval, Array.getD_eq_getD_getElem?] at n57
    apply Rg.gives_value
    · conv => lhs; simp [go_sem, n5, n57, cells4 (heap_keep' hb hBq_), cells4 (heap_keep' hb hBm_), cells4 (heap_keep' hb hBx_)]
    · exact ⟨rfl, Below.refl _ _⟩
  apply Rg.ch_rel (fun w v => RdI w.heap.size w v dm) (stable_rdi _) (by rfl) (fun a w1 h => by obtain ⟨-, e57, -⟩ := h; exact Rg.wanted_some (by rfl) (by rfl) e57)
  · rintro a w1 hb ⟨e63, e57, -⟩
    replace e63 : a.eval (.tmp 63) = _ := e63
    replace e57 : a.eval (.tmp 57) = _ := e57
    apply Rg.gives_enter
    · apply run_call Try.func20 (by kernel_rfl) rfl _ (by rfl)
      conv => lhs; simp only [List.map_toArray, List.map_cons, List.map_nil, eval_const_, eval_global_, e63]
    · refine (HRm.out _).mono ?_
      rintro e w2 ⟨⟨v, rfl, hv⟩, hb2⟩
      exact ⟨_, rfl, hv, hb2⟩
  apply Rg.ch_def (by rfl) (fun a w1 h => by obtain ⟨-, -, e57, -⟩ := h; exact Rg.wanted_some (by rfl) (by rfl) e57)
  · rintro a w1 hb ⟨e62, e64, e57, -⟩
    replace e62 : (fun w v => RdI w.heap.size w v dn) w1 (a.eval (.tmp 62)) := e62
    replace e64 : (fun w v => RdI w.heap.size w v dm) w1 (a.eval (.tmp 64)) := e64
    replace e57 : a.eval (.tmp 57) = _ := e57
    apply Rg.gives_enter
    · apply run_call Try.func22 (by kernel_rfl) rfl _ (by rfl)
      conv => lhs; simp only [List.map_toArray, List.map_cons, List.map_nil, eval_const_, eval_global_]
    · refine (HRL.out _ _ _ e62 e64).mono ?_
      rintro e w2 ⟨rfl, hb2⟩
      exact ⟨_, rfl, rfl, hb2⟩
  apply Rg.ch_pure (by rfl)
  · rintro a w1 ⟨e60, e65, e57, -⟩
    replace e60 : a.eval (.tmp 60) = _ := e60
    have n60 := e60
    simp only [Act.eval, Array.getD_eq_getD_getElem?] at n60
    replace e65 : a.eval (.tmp 65) = _ := e65
    have n65 := e65
    simp only [Act.eval, Array.getD_eq_getD_getElem?] at n65
    replace e57 : a.eval (.tmp 57) = _ := e57
    have n57 := e57
    simp only [Act.eval, Array.getD_eq_getD_getElem?] at n57
    apply Rg.yields_run (Rg.wanted_some (by rfl) (by rfl) e57)
    intro w2
    conv => lhs; simp [go_sem, n60, n65, n57, hL3]
  apply Rg.ch_pure (by rfl)
  · rintro a w1 ⟨e57, e66, -⟩
    replace e57 : a.eval (.tmp 57) = _ := e57
    have n57 := e57
    simp only [Act.eval, Array.getD_eq_getD_getElem?] at n57
    replace e66 : a.eval (.tmp 66) = _ := e66
    have n66 := e66
    simp only [Act.eval, Array.getD_eq_getD_getElem?] at n66
    apply Rg.yields_run (Rg.wanted_none (by rfl))
    intro w2
    conv => lhs; simp [go_sem, n57, n66, hL3]
  apply Rg.ch_pure (by rfl)
  · rintro a w1 ⟨e67, -⟩
    replace e67 : a.eval (.tmp 67) = _ := e67
    have n67 := e67
    simp only [Act.eval, Array.getD_eq_getD_getElem?] at n67
    apply Rg.yields_run (Rg.wanted_none (by rfl))
    intro w2
    conv => lhs; simp [go_sem, n67, hL3]
  apply Rg.ch_def (by rfl) (fun a w1 h => by obtain ⟨-, e68, -⟩ := h; exact Rg.wanted_some (by rfl) (by rfl) e68)
  · rintro a w1 hb ⟨e4, e68, -⟩
    conv at e4 => rhs; whnf
    have n4 := e4
    simp only [Act.eval, Array.getD_eq_getD_getElem?] at n4
    replace e68 : a.eval (.tmp 68) = _ := e68
    have n68 := e68
    simp only [Act.eval, Array.getD_eq_getD_getElem?] at n68
    apply Rg.gives_value
    · conv => lhs; simp [go_sem, n4, n68, cells4 (heap_keep' hb hBq_), cells4 (heap_keep' hb hBm_), cells4 (heap_keep' hb hBx_)]
    · exact ⟨rfl, Below.refl _ _⟩
  apply Rg.ch_def (by rfl) (fun a w1 h => by obtain ⟨-, e68, -⟩ := h; exact Rg.wanted_some (by rfl) (by rfl) e68)
  · rintro a w1 hb ⟨e69, e68, -⟩
    replace e69 : a.eval (.tmp 69) = _ := e69
    replace e68 : a.eval (.tmp 68) = _ := e68
    apply Rg.gives_enter
    · apply run_call Try.func15 (by kernel_rfl) rfl _ (by rfl)
      conv => lhs; simp only [List.map_toArray, List.map_cons, List.map_nil, eval_const_, eval_global_, e69]
    · refine (HZ.out _).mono ?_
      rintro e w2 ⟨rfl, hb2⟩
      exact ⟨_, rfl, rfl, hb2⟩
  apply Rg.ch_def (by rfl) (fun a w1 h => by obtain ⟨-, e68, -⟩ := h; exact Rg.wanted_some (by rfl) (by rfl) e68)
  · rintro a w1 hb ⟨e4, e68, -⟩
    conv at e4 => rhs; whnf
    have n4 := e4
    simp only [Act.eval, Array.getD_eq_getD_getElem?] at n4
    replace e68 : a.eval (.tmp 68) = _ := e68
    have n68 := e68
    simp only [Act.eval, Array.getD_eq_getD_getElem?] at n68
    apply Rg.gives_value
    · conv => lhs; simp [go_sem, n4, n68, cells4 (heap_keep' hb hBq_), cells4 (heap_keep' hb hBm_), cells4 (heap_keep' hb hBx_)]
    · exact ⟨rfl, Below.refl _ _⟩
  apply Rg.ch_rel (fun w v => RdI w.heap.size w v dn) (stable_rdi _) (by rfl) (fun a w1 h => by obtain ⟨-, e68, -⟩ := h; exact Rg.wanted_some (by rfl) (by rfl) e68)
  · rintro a w1 hb ⟨e71, e68, -⟩
    replace e71 : a.eval (.tmp 71) = _ := e71
    replace e68 : a.eval (.tmp 68) = _ := e68
    apply Rg.gives_enter
    · apply run_call Try.func20 (by kernel_rfl) rfl _ (by rfl)
      conv => lhs; simp only [List.map_toArray, List.map_cons, List.map_nil, eval_const_, eval_global_, e71]
    · refine (HRn.out _).mono ?_
      rintro e w2 ⟨⟨v, rfl, hv⟩, hb2⟩
      exact ⟨_, rfl, hv, hb2⟩
  -- operation 24
  apply Rg.ch_pure (by rfl)
  · rintro a w1 ⟨e72, e68, -⟩
    obtain ⟨xa, xc, ex⟩ := RdI.some e72
    apply Rg.yields_run (Rg.wanted_some (by rfl) (by rfl) e68)
    intro w2
    simp only [Act.eval, Array.getD_eq_getD_getElem?] at ex
    conv => lhs; simp [go_sem, ex]
  apply Rg.ch_pure (by rfl)
  · rintro a w1 ⟨e73, e68, -⟩
    replace e73 : a.eval (.tmp 73) = _ := e73
    have n73 := e73
    simp only [Act.eval, Array.getD_eq_getD_getElem?] at n73
    replace e68 : a.eval (.tmp 68) = _ := e68
    have n68 := e68
    simp only [Act.eval, Array.getD_eq_getD_getElem?] at n68
    apply Rg.yields_run (Rg.wanted_some (by rfl) (by rfl) e68)
    intro w2
    conv => lhs; simp [go_sem, n73, n68, hL3]
  apply Rg.ch_pure (by rfl)
  · rintro a w1 ⟨e70, e74, e68, -⟩
    replace e70 : a.eval (.tmp 70) = _ := e70
    have n70 := e70
    simp only [Act.eval, Array.getD_eq_getD_getElem?] at n70
    replace e74 : a.eval (.tmp 74) = _ := e74
    have n74 := e74
    simp only [Act.eval, Array.getD_eq_getD_getElem?] at n74
    replace e68 : a.eval (.tmp 68) = _ := e68
    have n68 := e68
    simp only [Act.eval, Array.getD_eq_getD_getElem?] at n68
    apply Rg.yields_run (Rg.wanted_some (by rfl) (by rfl) e68)
    intro w2
    conv => lhs; simp [go_sem, n70, n74, n68, hL3]
  apply Rg.ch_pure (by rfl)
  · rintro a w1 ⟨e68, e75, -⟩
    replace e68 : a.eval (.tmp 68) = _ := e68
    have n68 := e68
    simp only [Act.eval, Array.getD_eq_getD_getElem?] at n68
    replace e75 : a.eval (.tmp 75) = _ := e75
    have n75 := e75
    simp only [Act.eval, Array.getD_eq_getD_getElem?] at n75
    apply Rg.yields_run (Rg.wanted_none (by rfl))
    intro w2
    conv => lhs; simp [go_sem, n68, n75, hL3]
  apply Rg.ch_pure (by rfl)
  · rintro a w1 ⟨e76, -⟩
    replace e76 : a.eval (.tmp 76) = _ := e76
    have n76 := e76
    simp only [Act.eval, Array.getD_eq_getD_getElem?] at n76
    apply Rg.yields_run (Rg.wanted_none (by rfl))
    intro w2
    conv => lhs; simp [go_sem, n76, hL3]
  intro w1 hb1
  rintro _ rfl v50 hv50 _ rfl _ rfl v53 hv53 v54 hv54 _ rfl _ rfl _ rfl _ rfl _ rfl _ rfl _ rfl v62 hv62 _ rfl v64 hv64 _ rfl _ rfl _ rfl _ rfl _ rfl _ rfl _ rfl v72 hv72 _ rfl _ rfl _ rfl _ rfl _ rfl
  change Go.wpList _ _ _ _ _ _
  set_option maxRecDepth 100000 in simp only [List.drop_succ_cons, List.drop_zero, List.drop_nil, Act.put, List.setIfInBounds_toArray, List.set_cons_succ, List.set_cons_zero]
  change Go.NoPanic _ _ _ _
  refine NoPanic.normal ?_
  have HBn : Hid (Below w.heap.size w w1) := Lib.hid (below_call HB0 HB0.size hb1)
  have hBq__ := heap_keep' hb1 hBq_
  have hBm__ := heap_keep' hb1 hBm_
  have hBx__ := heap_keep' hb1 hBx_
  clear hb1 HB0 HB hBq_ HBq cBq fBq zBq hBm_ HBm cBm fBm zBm hBx_ HBx cBx fBx zBx
  clear hW
  obtain ⟨wd, rfl⟩ : ∃ x : World, x = w1 := ⟨_, rfl⟩
  have HB := HBn; clear HBn
  have HBq := Lib.hid hBq__; have cBq := cells4 hBq__; have fBq := frozen_of hBq__; have zBq := lt_of_heap hBq__; clear hBq__
  have HBm := Lib.hid hBm__; have cBm := cells4 hBm__; have fBm := frozen_of hBm__; have zBm := lt_of_heap hBm__; clear hBm__
  have HBx := Lib.hid hBx__; have cBx := cells4 hBx__; have fBx := frozen_of hBx__; have zBx := lt_of_heap hBx__; clear hBx__
  go_wp2
  go_ret
  refine ⟨rfl, ?_⟩
  have hB0 := HB.out; have hS0 := hB0.size; first | exact hB0 | go_grown

set_option maxHeartbeats 8000000 in
theorem rb_B1 (n0 n1 n2 n3 m0 m1 m2 m3 x0 x1 x2 x3 : Nat) (zs bn : List Nat) (dn dm dz : List Int) (z1 : Bool) (sa : Option Addr) (len cap : Nat)
    (H0 : Hid (∀ w : World, Calls Try.prog 13 #[] w fun e w' => e = .returned (.bool true) ∧ Below w.heap.size w w'))
    (HBn : Hid (∀ w : World, Calls Try.prog 18 #[.agg #[.int .u64 n0, .int .u64 n1, .int .u64 n2, .int .u64 n3]] w fun e w' => (∃ v, e = .returned v ∧ Bts w'.heap.size w' v bn) ∧ Below w.heap.size w w'))
    (HRn : Hid (∀ w : World, Calls Try.prog 20 #[.agg #[.int .u64 n0, .int .u64 n1, .int .u64 n2, .int .u64 n3]] w fun e w' => (∃ v, e = .returned v ∧ RdI w'.heap.size w' v dn) ∧ Below w.heap.size w w'))
    (HRm : Hid (∀ w : World, Calls Try.prog 20 #[.agg #[.int .u64 m0, .int .u64 m1, .int .u64 m2, .int .u64 m3]] w fun e w' => (∃ v, e = .returned v ∧ RdI w'.heap.size w' v dm) ∧ Below w.heap.size w w'))
    (HRB : Hid (∀ (sv : Value) (w : World), RdI w.heap.size w sv dn → Calls Try.prog 19 #[sv] w fun e w' => (∃ v, e = .returned v ∧ Bts w'.heap.size w' v bn) ∧ Below w.heap.size w w'))
    (HL : Hid (∀ w : World, Calls Try.prog 21 #[.agg #[.int .u64 n0, .int .u64 n1, .int .u64 n2, .int .u64 n3], .agg #[.int .u64 m0, .int .u64 m1, .int .u64 m2, .int .u64 m3]] w fun e w' => e = .returned (.bool z1) ∧ Below w.heap.size w w'))
    (HRL : Hid (∀ (sa sb : Value) (w : World), RdI w.heap.size w sa dn → RdI w.heap.size w sb dm → Calls Try.prog 22 #[sa, sb] w fun e w' => e = .returned (.bool z1) ∧ Below w.heap.size w w'))
    (HZ : Hid (∀ w : World, Calls Try.prog 15 #[.agg #[.int .u64 n0, .int .u64 n1, .int .u64 n2, .int .u64 n3]] w fun e w' => e = .returned (.bool true) ∧ Below w.heap.size w w'))
    (hL1 : dn.length = 0) (hL2 : dn = []) (w : World)
    (HOf : Hid (∀ w : World, Calls Try.prog 14 #[.slice sa len cap] w fun e w' => e = .returned (.tuple #[.agg #[.int .u64 0, .int .u64 0, .int .u64 0, .int .u64 0], .int .i64 3]) ∧ Below w.heap.size w w'))
    (HZ0 : Hid (∀ w : World, Calls Try.prog 15 #[.agg #[.int .u64 0, .int .u64 0, .int .u64 0, .int .u64 0]] w fun e w' => e = .returned (.bool true) ∧ Below w.heap.size w w'))
    (hl1 : ¬ (100 : Int) < (len : Int)) (hl2 : ¬ (len : Int) = 32) : Calls Try.prog 3 #[.slice sa len cap, .agg #[.int .u64 n0, .int .u64 n1, .int .u64 n2, .int .u64 n3], .agg #[.int .u64 m0, .int .u64 m1, .int .u64 m2, .int .u64 m3]] w fun e w' => e = .returned (.bool true) ∧ Below w.heap.size w w' := by
  go_enter Try.func3, Try.ntmps3
  have hL3 : (((dn.length : Int)) == 0) = true := by simpa using hL1
  clear hL1 hL2
  go_wp2_with (fail)
  go_at_call 13
  refine (H0.out _).mono ?_
  rintro e wa ⟨rfl, hb⟩
  have HBn : Hid (Below w.heap.size w wa) := Lib.hid ((fun (h : Below _ _ _) => below_call h h.size hb) (by first | go_grown))
  have hBq_ : wa.heap[w.heap.size]? = some (.cells #[.int .u64 n0, .int .u64 n1, .int .u64 n2, .int .u64 n3] 25 (0, 0)) := heap_keep' hb (by repeat (first | (with_reducible refine heap_new' ?_ _; simp; done) | (with_reducible refine keep4 ?_ (by omega) _ _ _ _) | (with_reducible refine heap_old ?_ _) | (with_reducible refine heap_drew ?_) | (with_reducible refine heap_set_ne ?_ (by simp <;> omega) _)))
  have hBm_ : wa.heap[w.heap.size + 1]? = some (.cells #[.int .u64 m0, .int .u64 m1, .int .u64 m2, .int .u64 m3] 25 (0, 0)) := heap_keep' hb (by repeat (first | (with_reducible refine heap_new' ?_ _; simp; done) | (with_reducible refine keep4 ?_ (by omega) _ _ _ _) | (with_reducible refine heap_old ?_ _) | (with_reducible refine heap_drew ?_) | (with_reducible refine heap_set_ne ?_ (by simp <;> omega) _)))
  clear hb
  have HB := HBn; clear HBn
  have HBq := Lib.hid hBq_; have cBq := cells4 hBq_; have fBq := frozen_of hBq_; have zBq := lt_of_heap hBq_; clear hBq_
  have HBm := Lib.hid hBm_; have cBm := cells4 hBm_; have fBm := frozen_of hBm_; have zBm := lt_of_heap hBm_; clear hBm_
  go_wp2_with (fail)
  go_at_call 14
  refine (HOf.out _).mono ?_
  rintro e wb ⟨rfl, hb⟩
  have HBn : Hid (Below w.heap.size w wb) := Lib.hid ((fun (h : Below _ _ _) => below_call h h.size hb) (by have hB0 := HB.out; have hS0 := hB0.size; first | (with_reducible exact hB0) | (with_reducible exact set4_below hB0 (by omega) _ _ _ _) | (with_reducible exact set4_below (set4_below hB0 (by omega) _ _ _ _) (by omega) _ _ _ _) | (with_reducible exact set4_below (set4_below (set4_below (set4_below hB0 (by omega) _ _ _ _) (by omega) _ _ _ _) (by omega) _ _ _ _) (by omega) _ _ _ _) | go_grown))
  have hBq_ : wb.heap[w.heap.size]? = some (.cells #[.int .u64 n0, .int .u64 n1, .int .u64 n2, .int .u64 n3] 25 (0, 0)) := heap_keep' hb (by repeat (first | (with_reducible exact HBq.out) | (with_reducible exact set4 HBq.out _ _ _ _) | (with_reducible apply set4) | (with_reducible refine heap_new' ?_ _; simp; done) | (with_reducible refine keep4 ?_ (by omega) _ _ _ _) | (with_reducible refine heap_old ?_ _) | (with_reducible refine heap_drew ?_) | (with_reducible refine heap_set_ne ?_ (by simp <;> omega) _)))
  have hBm_ : wb.heap[w.heap.size + 1]? = some (.cells #[.int .u64 m0, .int .u64 m1, .int .u64 m2, .int .u64 m3] 25 (0, 0)) := heap_keep' hb (by repeat (first | (with_reducible exact HBm.out) | (with_reducible exact set4 HBm.out _ _ _ _) | (with_reducible apply set4) | (with_reducible refine heap_new' ?_ _; simp; done) | (with_reducible refine keep4 ?_ (by omega) _ _ _ _) | (with_reducible refine heap_old ?_ _) | (with_reducible refine heap_drew ?_) | (with_reducible refine heap_set_ne ?_ (by simp <;> omega) _)))
  clear hb HB HBq cBq fBq zBq HBm cBm fBm zBm
  have HB := HBn; clear HBn
  have HBq := Lib.hid hBq_; have cBq := cells4 hBq_; have fBq := frozen_of hBq_; have zBq := lt_of_heap hBq_; clear hBq_
  have HBm := Lib.hid hBm_; have cBm := cells4 hBm_; have fBm := frozen_of hBm_; have zBm := lt_of_heap hBm_; clear hBm_
  go_wp2_with (fail)
  go_at_call 15
  refine (HZ0.out _).mono ?_
  rintro e wc ⟨rfl, hb⟩
  have HBn : Hid (Below w.heap.size w wc) := Lib.hid ((fun (h : Below _ _ _) => below_call h h.size hb) (by have hB0 := HB.out; have hS0 := hB0.size; first | (with_reducible exact hB0) | (with_reducible exact set4_below hB0 (by omega) _ _ _ _) | (with_reducible exact set4_below (set4_below hB0 (by omega) _ _ _ _) (by omega) _ _ _ _) | (with_reducible exact set4_below (set4_below (set4_below (set4_below hB0 (by omega) _ _ _ _) (by omega) _ _ _ _) (by omega) _ _ _ _) (by omega) _ _ _ _) | go_grown))
  have hBq_ : wc.heap[w.heap.size]? = some (.cells #[.int .u64 n0, .int .u64 n1, .int .u64 n2, .int .u64 n3] 25 (0, 0)) := heap_keep' hb (by repeat (first | (with_reducible exact HBq.out) | (with_reducible exact set4 HBq.out _ _ _ _) | (with_reducible apply set4) | (with_reducible refine heap_new' ?_ _; simp; done) | (with_reducible refine keep4 ?_ (by omega) _ _ _ _) | (with_reducible refine heap_old ?_ _) | (with_reducible refine heap_drew ?_) | (with_reducible refine heap_set_ne ?_ (by simp <;> omega) _)))
  have hBm_ : wc.heap[w.heap.size + 1]? = some (.cells #[.int .u64 m0, .int .u64 m1, .int .u64 m2, .int .u64 m3] 25 (0, 0)) := heap_keep' hb (by repeat (first | (with_reducible exact HBm.out) | (with_reducible exact set4 HBm.out _ _ _ _) | (with_reducible apply set4) | (with_reducible refine heap_new' ?_ _; simp; done) | (with_reducible refine keep4 ?_ (by omega) _ _ _ _) | (with_reducible refine heap_old ?_ _) | (with_reducible refine heap_drew ?_) | (with_reducible refine heap_set_ne ?_ (by simp <;> omega) _)))
  have hBx_ : wc.heap[wb.heap.size]? = some (.cells #[.int .u64 0, .int .u64 0, .int .u64 0, .int .u64 0] 25 (0, 0)) := heap_keep' hb (by repeat (first | (with_reducible refine heap_new' ?_ _; simp; done) | (with_reducible refine keep4 ?_ (by omega) _ _ _ _) | (with_reducible refine heap_old ?_ _) | (with_reducible refine heap_drew ?_) | (with_reducible refine heap_set_ne ?_ (by simp <;> omega) _)))
  clear hb HB HBq cBq fBq zBq HBm cBm fBm zBm
  have HB := HBn; clear HBn
  have HBq := Lib.hid hBq_; have cBq := cells4 hBq_; have fBq := frozen_of hBq_; have zBq := lt_of_heap hBq_; clear hBq_
  have HBm := Lib.hid hBm_; have cBm := cells4 hBm_; have fBm := frozen_of hBm_; have zBm := lt_of_heap hBm_; clear hBm_
  have HBx := Lib.hid hBx_; have cBx := cells4 hBx_; have fBx := frozen_of hBx_; have zBx := lt_of_heap hBx_; clear hBx_
  go_wp2
  refine Rg.region_ (n := 77) [0, 1, 3, 0, 11, 27, 59, 127, 255, 511, 511, 2047, 511, 8191, 511, 32767, 65535, 131071, 262143, 524287, 1048575, 2097151, 1048575, 8388607, 16777215, 33554431, 67108863, 134217727, 268435455] [1, 1, 1, 1, 1, 1, 1, 0, 0, 1, 1, 1, 1, 1, 1, 1, 1, 0, 0, 0, 1, 1, 1, 1, 0, 0, 0, 0, 0] [49, 50, 51, 52, 53, 54, 55, 56, 57, 58, 59, 60, 61, 62, 63, 64, 65, 66, 67, 68, 69, 70, 71, 72, 73, 74, 75, 76, 6] [[(4, none)], [(49, some 0)], [(50, some 1)], [(4, none)], [(52, some 3)], [(53, some 4)], [(54, some 5)], [(51, some 2), (55, some 6)], [(56, some 7)], [(4, none), (57, some 8)], [(5, none), (57, some 8)], [(58, some 9), (59, some 10), (57, some 8)], [(4, none), (57, some 8)], [(61, some 12), (57, some 8)], [(5, none), (57, some 8)], [(63, some 14), (57, some 8)], [(62, some 13), (64, some 15), (57, some 8)], [(60, some 11), (65, some 16), (57, some 8)], [(57, some 8), (66, some 17)], [(67, some 18)], [(4, none), (68, some 19)], [(69, some 20), (68, some 19)], [(4, none), (68, some 19)], [(71, some 22), (68, some 19)], [(72, some 23), (68, some 19)], [(73, some 24), (68, some 19)], [(70, some 21), (74, some 25), (68, some 19)], [(68, some 19), (75, some 26)], [(76, some 27)]] 29 (by kernel_rfl) (by kernel_rfl) (by rfl) ?_
  intro W hW
  have hBq_ : W.heap[w.heap.size]? = some (.cells #[.int .u64 n0, .int .u64 n1, .int .u64 n2, .int .u64 n3] 25 (0, 0)) := by rw [hW]; exact (by repeat (first | (with_reducible exact HBq.out) | (with_reducible exact set4 HBq.out _ _ _ _) | (with_reducible apply set4) | (with_reducible refine heap_new' ?_ _; simp; done) | (with_reducible refine keep4 ?_ (by omega) _ _ _ _) | (with_reducible refine heap_old ?_ _) | (with_reducible refine heap_drew ?_) | (with_reducible refine heap_set_ne ?_ (by simp <;> omega) _)))
  have hBm_ : W.heap[w.heap.size + 1]? = some (.cells #[.int .u64 m0, .int .u64 m1, .int .u64 m2, .int .u64 m3] 25 (0, 0)) := by rw [hW]; exact (by repeat (first | (with_reducible exact HBm.out) | (with_reducible exact set4 HBm.out _ _ _ _) | (with_reducible apply set4) | (with_reducible refine heap_new' ?_ _; simp; done) | (with_reducible refine keep4 ?_ (by omega) _ _ _ _) | (with_reducible refine heap_old ?_ _) | (with_reducible refine heap_drew ?_) | (with_reducible refine heap_set_ne ?_ (by simp <;> omega) _)))
  have hBx_ : W.heap[wb.heap.size]? = some (.cells #[.int .u64 0, .int .u64 0, .int .u64 0, .int .u64 0] 25 (0, 0)) := by rw [hW]; exact (by repeat (first | (with_reducible exact HBx.out) | (with_reducible exact set4 HBx.out _ _ _ _) | (with_reducible apply set4) | (with_reducible refine heap_new' ?_ _; simp; done) | (with_reducible refine keep4 ?_ (by omega) _ _ _ _) | (with_reducible refine heap_old ?_ _) | (with_reducible refine heap_drew ?_) | (with_reducible refine heap_set_ne ?_ (by simp <;> omega) _)))
  have HB0 : Below w.heap.size w W := by rw [hW]; have hB0 := HB.out; have hS0 := hB0.size; first | exact hB0.drew | exact (set4_below hB0 (by omega) _ _ _ _).drew | go_grown
  change Rg.Chain' _ _ _ _ _ [(0, 1, 49, [(4, none)]), (1, 1, 50, [(49, some 0)]), (2, 1, 51, [(50, some 1)]), (3, 1, 52, [(4, none)]), (4, 1, 53, [(52, some 3)]), (5, 1, 54, [(53, some 4)]), (6, 1, 55, [(54, some 5)]), (7, 0, 56, [(51, some 2), (55, some 6)]), (8, 0, 57, [(56, some 7)]), (9, 1, 58, [(4, none), (57, some 8)]), (10, 1, 59, [(5, none), (57, some 8)]), (11, 1, 60, [(58, some 9), (59, some 10), (57, some 8)]), (12, 1, 61, [(4, none), (57, some 8)]), (13, 1, 62, [(61, some 12), (57, some 8)]), (14, 1, 63, [(5, none), (57, some 8)]), (15, 1, 64, [(63, some 14), (57, some 8)]), (16, 1, 65, [(62, some 13), (64, some 15), (57, some 8)]), (17, 0, 66, [(60, some 11), (65, some 16), (57, some 8)]), (18, 0, 67, [(57, some 8), (66, some 17)]), (19, 0, 68, [(67, some 18)]), (20, 1, 69, [(4, none), (68, some 19)]), (21, 1, 70, [(69, some 20), (68, some 19)]), (22, 1, 71, [(4, none), (68, some 19)]), (23, 1, 72, [(71, some 22), (68, some 19)]), (24, 0, 73, [(72, some 23), (68, some 19)]), (25, 0, 74, [(73, some 24), (68, some 19)]), (26, 0, 75, [(70, some 21), (74, some 25), (68, some 19)]), (27, 0, 76, [(68, some 19), (75, some 26)]), (28, 0, 6, [(76, some 27)])] [(0, 1, 49, [(4, none)]), (1, 1, 50, [(49, some 0)]), (2, 1, 51, [(50, some 1)]), (3, 1, 52, [(4, none)]), (4, 1, 53, [(52, some 3)]), (5, 1, 54, [(53, some 4)]), (6, 1, 55, [(54, some 5)]), (7, 0, 56, [(51, some 2), (55, some 6)]), (8, 0, 57, [(56, some 7)]), (9, 1, 58, [(4, none), (57, some 8)]), (10, 1, 59, [(5, none), (57, some 8)]), (11, 1, 60, [(58, some 9), (59, some 10), (57, some 8)]), (12, 1, 61, [(4, none), (57, some 8)]), (13, 1, 62, [(61, some 12), (57, some 8)]), (14, 1, 63, [(5, none), (57, some 8)]), (15, 1, 64, [(63, some 14), (57, some 8)]), (16, 1, 65, [(62, some 13), (64, some 15), (57, some 8)]), (17, 0, 66, [(60, some 11), (65, some 16), (57, some 8)]), (18, 0, 67, [(57, some 8), (66, some 17)]), (19, 0, 68, [(67, some 18)]), (20, 1, 69, [(4, none), (68, some 19)]), (21, 1, 70, [(69, some 20), (68, some 19)]), (22, 1, 71, [(4, none), (68, some 19)]), (23, 1, 72, [(71, some 22), (68, some 19)]), (24, 0, 73, [(72, some 23), (68, some 19)]), (25, 0, 74, [(73, some 24), (68, some 19)]), (26, 0, 75, [(70, some 21), (74, some 25), (68, some 19)]), (27, 0, 76, [(68, some 19), (75, some 26)]), (28, 0, 6, [(76, some 27)])] _
  apply Rg.ch_def (by rfl) (fun a w1 _ => Rg.wanted_none (by rfl))
  · rintro a w1 hb ⟨e4, -⟩
    conv at e4 => rhs; whnf
    have n4 := e4
    simp only [Act.eval, Array.getD_eq_getD_getElem?] at n4
    apply Rg.gives_value
    · conv => lhs; simp [go_sem, n4, cells4 (heap_keep' hb hBq_), cells4 (heap_keep' hb hBm_), cells4 (heap_keep' hb hBx_)]
    · exact ⟨rfl, Below.refl _ _⟩
  apply Rg.ch_rel (fun w v => Bts w.heap.size w v bn) (stable_bts _) (by rfl) (fun a w1 _ => Rg.wanted_none (by rfl))
  · rintro a w1 hb ⟨e49, -⟩
    replace e49 : a.eval (.tmp 49) = _ := e49
    apply Rg.gives_enter
    · apply run_call Try.func18 (by kernel_rfl) rfl _ (by rfl)
      conv => lhs; simp only [List.map_toArray, List.map_cons, List.map_nil, eval_const_, eval_global_, e49]
    · refine (HBn.out _).mono ?_
      rintro e w2 ⟨⟨v, rfl, hv⟩, hb2⟩
      exact ⟨_, rfl, hv, hb2⟩
  apply Rg.ch_def (by rfl) (fun a w1 _ => Rg.wanted_none (by rfl))
  · rintro a w1 hb ⟨e50, -⟩
    replace e50 : (fun w v => Bts w.heap.size w v bn) w1 (a.eval (.tmp 50)) := e50
    exact Rg.gives_value (w' := w1) (conv_exec (s := 50) rfl e50) ⟨rfl, Below.refl _ _⟩
  apply Rg.ch_def (by rfl) (fun a w1 _ => Rg.wanted_none (by rfl))
  · rintro a w1 hb ⟨e4, -⟩
    conv at e4 => rhs; whnf
    have n4 := e4
    simp only [Act.eval, Array.getD_eq_getD_getElem?] at n4
    apply Rg.gives_value
    · conv => lhs; simp [go_sem, n4, cells4 (heap_keep' hb hBq_), cells4 (heap_keep' hb hBm_), cells4 (heap_keep' hb hBx_)]
    · exact ⟨rfl, Below.refl _ _⟩
  apply Rg.ch_rel (fun w v => RdI w.heap.size w v dn) (stable_rdi _) (by rfl) (fun a w1 _ => Rg.wanted_none (by rfl))
  · rintro a w1 hb ⟨e52, -⟩
    replace e52 : a.eval (.tmp 52) = _ := e52
    apply Rg.gives_enter
    · apply run_call Try.func20 (by kernel_rfl) rfl _ (by rfl)
      conv => lhs; simp only [List.map_toArray, List.map_cons, List.map_nil, eval_const_, eval_global_, e52]
    · refine (HRn.out _).mono ?_
      rintro e w2 ⟨⟨v, rfl, hv⟩, hb2⟩
      exact ⟨_, rfl, hv, hb2⟩
  apply Rg.ch_rel (fun w v => Bts w.heap.size w v bn) (stable_bts _) (by rfl) (fun a w1 _ => Rg.wanted_none (by rfl))
  · rintro a w1 hb ⟨e53, -⟩
    replace e53 : (fun w v => RdI w.heap.size w v dn) w1 (a.eval (.tmp 53)) := e53
    apply Rg.gives_enter
    · apply run_call Try.func19 (by kernel_rfl) rfl _ (by rfl)
      conv => lhs; simp only [List.map_toArray, List.map_cons, List.map_nil, eval_const_, eval_global_]
    · refine (HRB.out _ _ e53).mono ?_
      rintro e w2 ⟨⟨v, rfl, hv⟩, hb2⟩
      exact ⟨_, rfl, hv, hb2⟩
  apply Rg.ch_def (by rfl) (fun a w1 _ => Rg.wanted_none (by rfl))
  · rintro a w1 hb ⟨e54, -⟩
    replace e54 : (fun w v => Bts w.heap.size w v bn) w1 (a.eval (.tmp 54)) := e54
    exact Rg.gives_value (w' := w1) (conv_exec (s := 54) rfl e54) ⟨rfl, Below.refl _ _⟩
  apply Rg.ch_pure (by rfl)
  · rintro a w1 ⟨e51, e55, -⟩
    replace e51 : a.eval (.tmp 51) = _ := e51
    have n51 := e51
    simp only [Act.eval, Array.getD_eq_getD_getElem?] at n51
    replace e55 : a.eval (.tmp 55) = _ := e55
    have n55 := e55
    simp only [Act.eval, Array.getD_eq_getD_getElem?] at n55
    apply Rg.yields_run (Rg.wanted_none (by rfl))
    intro w2
    conv => lhs; simp [go_sem, n51, n55, hL3]
  apply Rg.ch_pure (by rfl)
  · rintro a w1 ⟨e56, -⟩
    replace e56 : a.eval (.tmp 56) = _ := e56
    have n56 := e56
    simp only [Act.eval, Array.getD_eq_getD_getElem?] at n56
    apply Rg.yields_run (Rg.wanted_none (by rfl))
    intro w2
    conv => lhs; simp [go_sem, n56, hL3]
  apply Rg.ch_def (by rfl) (fun a w1 h => by obtain ⟨-, e57, -⟩ := h; exact Rg.wanted_some (by rfl) (by rfl) e57)
  · rintro a w1 hb ⟨e4, e57, -⟩
    conv at e4 => rhs; whnf
    have n4 := e4
    simp only [Act.eval, Array.getD_eq_getD_getElem?] at n4
    replace e57 : a.eval (.tmp 57) = _ := e57
    have n57 := e57
    simp only [Act.eval, Array.getD_eq_getD_getElem?] at n57
    apply Rg.gives_value
    · conv => lhs; simp [go_sem, n4, n57, cells4 (heap_keep' hb hBq_), cells4 (heap_keep' hb hBm_), cells4 (heap_keep' hb hBx_)]
    · exact ⟨rfl, Below.refl _ _⟩
  apply Rg.ch_def (by rfl) (fun a w1 h => by obtain ⟨-, e57, -⟩ := h; exact Rg.wanted_some (by rfl) (by rfl) e57)
  · rintro a w1 hb ⟨e5, e57, -⟩
    conv at e5 => rhs; whnf
    have n5 := e5
    simp only [Act.eval, Array.getD_eq_getD_getElem?] at n5
    replace e57 : a.eval (.tmp 57) = _ := e57
    have n57 := e57
    simp only [Act.eval, Array.getD_eq_getD_getElem?] at n57
    apply Rg.gives_value
    · conv => lhs; simp [go_sem, n5, n57, cells4 (heap_keep' hb hBq_), cells4 (heap_keep' hb hBm_), cells4 (heap_keep' hb hBx_)]
    · exact ⟨rfl, Below.refl _ _⟩
  apply Rg.ch_def (by rfl) (fun a w1 h => by obtain ⟨-, -, e57, -⟩ := h; exact Rg.wanted_some (by rfl) (by rfl) e57)
  · rintro a w1 hb ⟨e58, e59, e57, -⟩
    replace e58 : a.eval (.tmp 58) = _ := e58
    replace e59 : a.eval (.tmp 59) = _ := e59
    replace e57 : a.eval (.tmp 57) = _ := e57
    apply Rg.gives_enter
    · apply run_call Try.func21 (by kernel_rfl) rfl _ (by rfl)
      conv => lhs; simp only [List.map_toArray, List.map_cons, List.map_nil, eval_const_, eval_global_, e58, e59]
    · refine (HL.out _).mono ?_
      rintro e w2 ⟨rfl, hb2⟩
      exact ⟨_, rfl, rfl, hb2⟩
  apply Rg.ch_def (by rfl) (fun a w1 h => by obtain ⟨-, e57, -⟩ := h; exact Rg.wanted_some (by rfl) (by rfl) e57)
  · rintro a w1 hb ⟨e4, e57, -⟩
    conv at e4 => rhs; whnf
    have n4 := e4
    simp only [Act.eval, Array.getD_eq_getD_getElem?] at n4
    replace e57 : a.eval (.tmp 57) = _ := e57
    have n57 := e57
    simp only [Act.eval, Array.getD_eq_getD_getElem?] at n57
    apply Rg.gives_value
    · conv => lhs; simp [go_sem, n4, n57, cells4 (heap_keep' hb hBq_), cells4 (heap_keep' hb hBm_), cells4 (heap_keep' hb hBx_)]
    · exact ⟨rfl, Below.refl _ _⟩
  apply Rg.ch_rel (fun w v => RdI w.heap.size w v dn) (stable_rdi _) (by rfl) (fun a w1 h => by obtain ⟨-, e57, -⟩ := h; exact Rg.wanted_some (by rfl) (by rfl) e57)
  · rintro a w1 hb ⟨e61, e57, -⟩
    replace e61 : a.eval (.tmp 61) = _ := e61
    replace e57 : a.eval (.tmp 57) = _ := e57
    apply Rg.gives_enter
    · apply run_call Try.func20 (by kernel_rfl) rfl _ (by rfl)
      conv => lhs; simp only [List.map_toArray, List.map_cons, List.map_nil, eval_const_, eval_global_, e61]
    · refine (HRn.out _).mono ?_
      rintro e w2 ⟨⟨v, rfl, hv⟩, hb2⟩
      exact ⟨_, rfl, hv, hb2⟩
  apply Rg.ch_def (by rfl) (fun a w1 h => by obtain ⟨-, e57, -⟩ := h; exact Rg.wanted_some (by rfl) (by rfl) e57)
  · rintro a w1 hb ⟨e5, e57, -⟩
    conv at e5 => rhs; whnf
    have n5 := e5
    simp only [Act.eval, Array.getD_eq_getD_getElem?] at n5
    replace e57 : a.eval (.tmp 57) = _ := e57
    have n57 := e57
    simp only [Act.eval, Array.getD_eq_getD_getElem?] at n57
    apply Rg.gives_value
    · conv => lhs; simp [go_sem, n5, n57, cells4 (heap_keep' hb hBq_), cells4 (heap_keep' hb hBm_), cells4 (heap_keep' hb hBx_)]
    · exact ⟨rfl, Below.refl _ _⟩
  apply Rg.ch_rel (fun w v => RdI w.heap.size w v dm) (stable_rdi _) (by rfl) (fun a w1 h => by obtain ⟨-, e57, -⟩ := h; exact Rg.wanted_some (by rfl) (by rfl) e57)
  · rintro a w1 hb ⟨e63, e57, -⟩
    replace e63 : a.eval (.tmp 63) = _ := e63
    replace e57 : a.eval (.tmp 57) = _ := e57
    apply Rg.gives_enter
    · apply run_call Try.func20 (by kernel_rfl) rfl _ (by rfl)
      conv => lhs; simp only [List.map_toArray, List.map_cons, List.map_nil, eval_const_, eval_global_, e63]
    · refine (HRm.out _).mono ?_
      rintro e w2 ⟨⟨v, rfl, hv⟩, hb2⟩
      exact ⟨_, rfl, hv, hb2⟩
  apply Rg.ch_def (by rfl) (fun a w1 h => by obtain ⟨-, -, e57, -⟩ := h; exact Rg.wanted_some (by rfl) (by rfl) e57)
  · rintro a w1 hb ⟨e62, e64, e57, -⟩
    replace e62 : (fun w v => RdI w.heap.size w v dn) w1 (a.eval (.tmp 62)) := e62
    replace e64 : (fun w v => RdI w.heap.size w v dm) w1 (a.eval (.tmp 64)) := e64
    replace e57 : a.eval (.tmp 57) = _ := e57
    apply Rg.gives_enter
    · apply run_call Try.func22 (by kernel_rfl) rfl _ (by rfl)
      conv => lhs; simp only [List.map_toArray, List.map_cons, List.map_nil, eval_const_, eval_global_]
    · refine (HRL.out _ _ _ e62 e64).mono ?_
      rintro e w2 ⟨rfl, hb2⟩
      exact ⟨_, rfl, rfl, hb2⟩
  apply Rg.ch_pure (by rfl)
  · rintro a w1 ⟨e60, e65, e57, -⟩
    replace e60 : a.eval (.tmp 60) = _ := e60
    have n60 := e60
    simp only [Act.eval, Array.getD_eq_getD_getElem?] at n60
    replace e65 : a.eval (.tmp 65) = _ := e65
    have n65 := e65
    simp only [Act.eval, Array.getD_eq_getD_getElem?] at n65
    replace e57 : a.eval (.tmp 57) = _ := e57
    have n57 := e57
    simp only [Act.eval, Array.getD_eq_getD_getElem?] at n57
    apply Rg.yields_run (Rg.wanted_some (by rfl) (by rfl) e57)
    intro w2
    conv => lhs; simp [go_sem, n60, n65, n57, hL3]
  apply Rg.ch_pure (by rfl)
  · rintro a w1 ⟨e57, e66, -⟩
    replace e57 : a.eval (.tmp 57) = _ := e57
    have n57 := e57
    simp only [Act.eval, Array.getD_eq_getD_getElem?] at n57
    replace e66 : a.eval (.tmp 66) = _ := e66
    have n66 := e66
    simp only [Act.eval, Array.getD_eq_getD_getElem?] at n66
    apply Rg.yields_run (Rg.wanted_none (by rfl))
    intro w2
    conv => lhs; simp [go_sem, n57, n66, hL3]
  apply Rg.ch_pure (by rfl)
  · rintro a w1 ⟨e67, -⟩
    replace e67 : a.eval (.tmp 67) = _ := e67
    have n67 := e67
    simp only [Act.eval, Array.getD_eq_getD_getElem?] at n67
    apply Rg.yields_run (Rg.wanted_none (by rfl))
    intro w2
    conv => lhs; simp [go_sem, n67, hL3]
  apply Rg.ch_def (by rfl) (fun a w1 h => by obtain ⟨-, e68, -⟩ := h; exact Rg.wanted_some (by rfl) (by rfl) e68)
  · rintro a w1 hb ⟨e4, e68, -⟩
    conv at e4 => rhs; whnf
    have n4 := e4
    simp only [Act.eval, Array.getD_eq_getD_getElem?] at n4
    replace e68 : a.eval (.tmp 68) = _ := e68
    have n68 := e68
    simp only [Act.eval, Array.getD_eq_getD_getElem?] at n68
    apply Rg.gives_value
    · conv => lhs; simp [go_sem, n4, n68, cells4 (heap_keep' hb hBq_), cells4 (heap_keep' hb hBm_), cells4 (heap_keep' hb hBx_)]
    · exact ⟨rfl, Below.refl _ _⟩
  apply Rg.ch_def (by rfl) (fun a w1 h => by obtain ⟨-, e68, -⟩ := h; exact Rg.wanted_some (by rfl) (by rfl) e68)
  · rintro a w1 hb ⟨e69, e68, -⟩
    replace e69 : a.eval (.tmp 69) = _ := e69
    replace e68 : a.eval (.tmp 68) = _ := e68
    apply Rg.gives_enter
    · apply run_call Try.func15 (by kernel_rfl) rfl _ (by rfl)
      conv => lhs; simp only [List.map_toArray, List.map_cons, List.map_nil, eval_const_, eval_global_, e69]
    · refine (HZ.out _).mono ?_
      rintro e w2 ⟨rfl, hb2⟩
      exact ⟨_, rfl, rfl, hb2⟩
  apply Rg.ch_def (by rfl) (fun a w1 h => by obtain ⟨-, e68, -⟩ := h; exact Rg.wanted_some (by rfl) (by rfl) e68)
  · rintro a w1 hb ⟨e4, e68, -⟩
    conv at e4 => rhs; whnf
    have n4 := e4
    simp only [Act.eval, Array.getD_eq_getD_getElem?] at n4
    replace e68 : a.eval (.tmp 68) = _ := e68
    have n68 := e68
    simp only [Act.eval, Array.getD_eq_getD_getElem?] at n68
    apply Rg.gives_value
    · conv => lhs; simp [go_sem, n4, n68, cells4 (heap_keep' hb hBq_), cells4 (heap_keep' hb hBm_), cells4 (heap_keep' hb hBx_)]
    · exact ⟨rfl, Below.refl _ _⟩
  apply Rg.ch_rel (fun w v => RdI w.heap.size w v dn) (stable_rdi _) (by rfl) (fun a w1 h => by obtain ⟨-, e68, -⟩ := h; exact Rg.wanted_some (by rfl) (by rfl) e68)
  · rintro a w1 hb ⟨e71, e68, -⟩
    replace e71 : a.eval (.tmp 71) = _ := e71
    replace e68 : a.eval (.tmp 68) = _ := e68
    apply Rg.gives_enter
    · apply run_call Try.func20 (by kernel_rfl) rfl _ (by rfl)
      conv => lhs; simp only [List.map_toArray, List.map_cons, List.map_nil, eval_const_, eval_global_, e71]
    · refine (HRn.out _).mono ?_
      rintro e w2 ⟨⟨v, rfl, hv⟩, hb2⟩
      exact ⟨_, rfl, hv, hb2⟩
  -- operation 24
  apply Rg.ch_pure (by rfl)
  · rintro a w1 ⟨e72, e68, -⟩
    obtain ⟨xa, xc, ex⟩ := RdI.some e72
    apply Rg.yields_run (Rg.wanted_some (by rfl) (by rfl) e68)
    intro w2
    simp only [Act.eval, Array.getD_eq_getD_getElem?] at ex
    conv => lhs; simp [go_sem, ex]
  apply Rg.ch_pure (by rfl)
  · rintro a w1 ⟨e73, e68, -⟩
    replace e73 : a.eval (.tmp 73) = _ := e73
    have n73 := e73
    simp only [Act.eval, Array.getD_eq_getD_getElem?] at n73
    replace e68 : a.eval (.tmp 68) = _ := e68
    have n68 := e68
    simp only [Act.eval, Array.getD_eq_getD_getElem?] at n68
    apply Rg.yields_run (Rg.wanted_some (by rfl) (by rfl) e68)
    intro w2
    conv => lhs; simp [go_sem, n73, n68, hL3]
  apply Rg.ch_pure (by rfl)
  · rintro a w1 ⟨e70, e74, e68, -⟩
    replace e70 : a.eval (.tmp 70) = _ := e70
    have n70 := e70
    simp only [Act.eval, Array.getD_eq_getD_getElem?] at n70
    replace e74 : a.eval (.tmp 74) = _ := e74
    have n74 := e74
    simp only [Act.eval, Array.getD_eq_getD_getElem?] at n74
    replace e68 : a.eval (.tmp 68) = _ := e68
    have n68 := e68
    simp only [Act.eval, Array.getD_eq_getD_getElem?] at n68
    apply Rg.yields_run (Rg.wanted_some (by rfl) (by rfl) e68)
    intro w2
    conv => lhs; simp [go_sem, n70, n74, n68, hL3]
  apply Rg.ch_pure (by rfl)
  · rintro a w1 ⟨e68, e75, -⟩
    replace e68 : a.eval (.tmp 68) = _ := e68
    have n68 := e68
    simp only [Act.eval, Array.getD_eq_getD_getElem?] at n68
    replace e75 : a.eval (.tmp 75) = _ := e75
    have n75 := e75
    simp only [Act.eval, Array.getD_eq_getD_getElem?] at n75
    apply Rg.yields_run (Rg.wanted_none (by rfl))
    intro w2
    conv => lhs; simp [go_sem, n68, n75, hL3]
  apply Rg.ch_pure (by rfl)
  · rintro a w1 ⟨e76, -⟩
    replace e76 : a.eval (.tmp 76) = _ := e76
    have n76 := e76
    simp only [Act.eval, Array.getD_eq_getD_getElem?] at n76
    apply Rg.yields_run (Rg.wanted_none (by rfl))
    intro w2
    conv => lhs; simp [go_sem, n76, hL3]
  intro w1 hb1
  rintro _ rfl v50 hv50 _ rfl _ rfl v53 hv53 v54 hv54 _ rfl _ rfl _ rfl _ rfl _ rfl _ rfl _ rfl v62 hv62 _ rfl v64 hv64 _ rfl _ rfl _ rfl _ rfl _ rfl _ rfl _ rfl v72 hv72 _ rfl _ rfl _ rfl _ rfl _ rfl
  change Go.wpList _ _ _ _ _ _
  set_option maxRecDepth 100000 in simp only [List.drop_succ_cons, List.drop_zero, List.drop_nil, Act.put, List.setIfInBounds_toArray, List.set_cons_succ, List.set_cons_zero]
  change Go.NoPanic _ _ _ _
  refine NoPanic.normal ?_
  have HBn : Hid (Below w.heap.size w w1) := Lib.hid (below_call HB0 HB0.size hb1)
  have hBq__ := heap_keep' hb1 hBq_
  have hBm__ := heap_keep' hb1 hBm_
  have hBx__ := heap_keep' hb1 hBx_
  clear hb1 HB0 HB hBq_ HBq cBq fBq zBq hBm_ HBm cBm fBm zBm hBx_ HBx cBx fBx zBx
  clear hW
  obtain ⟨wd, rfl⟩ : ∃ x : World, x = w1 := ⟨_, rfl⟩
  have HB := HBn; clear HBn
  have HBq := Lib.hid hBq__; have cBq := cells4 hBq__; have fBq := frozen_of hBq__; have zBq := lt_of_heap hBq__; clear hBq__
  have HBm := Lib.hid hBm__; have cBm := cells4 hBm__; have fBm := frozen_of hBm__; have zBm := lt_of_heap hBm__; clear hBm__
  have HBx := Lib.hid hBx__; have cBx := cells4 hBx__; have fBx := frozen_of hBx__; have zBx := lt_of_heap hBx__; clear hBx__
  go_wp2
  go_ret
  refine ⟨rfl, ?_⟩
  have hB0 := HB.out; have hS0 := hB0.size; first | exact hB0 | go_grown

end Go.Proofs.Ytldnjbpcdojffaa
/- @@NUM 25 The walk of law 08's ResidueBytes. Conditions: words are below 2^64. -/
namespace Go.Proofs.Ytldnjbpcdojffaa
set_option linter.unusedVariables false
set_option linter.unusedSimpArgs false
open Go Go.RowKit
open Pl (V V8 W4 T256 le bytesOf)
open Dg (nv dg Ok)

set_option maxHeartbeats 8000000 in
theorem rb_C1 (n0 n1 n2 n3 m0 m1 m2 m3 x0 x1 x2 x3 : Nat) (zs bn : List Nat) (dn dm dz : List Int) (z1 : Bool) (sa : Option Addr) (cap : Nat)
    (H0 : Hid (∀ w : World, Calls Try.prog 13 #[] w fun e w' => e = .returned (.bool true) ∧ Below w.heap.size w w'))
    (HBn : Hid (∀ w : World, Calls Try.prog 18 #[.agg #[.int .u64 n0, .int .u64 n1, .int .u64 n2, .int .u64 n3]] w fun e w' => (∃ v, e = .returned v ∧ Bts w'.heap.size w' v bn) ∧ Below w.heap.size w w'))
    (HRn : Hid (∀ w : World, Calls Try.prog 20 #[.agg #[.int .u64 n0, .int .u64 n1, .int .u64 n2, .int .u64 n3]] w fun e w' => (∃ v, e = .returned v ∧ RdI w'.heap.size w' v dn) ∧ Below w.heap.size w w'))
    (HRm : Hid (∀ w : World, Calls Try.prog 20 #[.agg #[.int .u64 m0, .int .u64 m1, .int .u64 m2, .int .u64 m3]] w fun e w' => (∃ v, e = .returned v ∧ RdI w'.heap.size w' v dm) ∧ Below w.heap.size w w'))
    (HRB : Hid (∀ (sv : Value) (w : World), RdI w.heap.size w sv dn → Calls Try.prog 19 #[sv] w fun e w' => (∃ v, e = .returned v ∧ Bts w'.heap.size w' v bn) ∧ Below w.heap.size w w'))
    (HL : Hid (∀ w : World, Calls Try.prog 21 #[.agg #[.int .u64 n0, .int .u64 n1, .int .u64 n2, .int .u64 n3], .agg #[.int .u64 m0, .int .u64 m1, .int .u64 m2, .int .u64 m3]] w fun e w' => e = .returned (.bool z1) ∧ Below w.heap.size w w'))
    (HRL : Hid (∀ (sa sb : Value) (w : World), RdI w.heap.size w sa dn → RdI w.heap.size w sb dm → Calls Try.prog 22 #[sa, sb] w fun e w' => e = .returned (.bool z1) ∧ Below w.heap.size w w'))
    (HZ : Hid (∀ w : World, Calls Try.prog 15 #[.agg #[.int .u64 n0, .int .u64 n1, .int .u64 n2, .int .u64 n3]] w fun e w' => e = .returned (.bool true) ∧ Below w.heap.size w w'))
    (hL1 : dn.length = 0) (hL2 : dn = []) (w : World) (HI : Hid (Bts w.heap.size w (.slice sa 32 cap) zs))
    (HOf : Hid (∀ (sv : Value) (w : World), Bts w.heap.size w sv zs → Calls Try.prog 14 #[sv] w fun e w' => e = .returned (.tuple #[.agg #[.int .u64 x0, .int .u64 x1, .int .u64 x2, .int .u64 x3], .int .i64 0]) ∧ Below w.heap.size w w'))
    (HROf : Hid (∀ (sv : Value) (w : World), Bts w.heap.size w sv zs → Calls Try.prog 17 #[sv] w fun e w' => (∃ v, e = .returned v ∧ RdI w'.heap.size w' v dz) ∧ Below w.heap.size w w'))
    (His : Hid (∀ (sv : Value) (w : World), RdI w.heap.size w sv dz → Calls Try.prog 16 #[.agg #[.int .u64 x0, .int .u64 x1, .int .u64 x2, .int .u64 x3], sv] w fun e w' => e = .returned (.bool true) ∧ Below w.heap.size w w'))
    (HBx : Hid (∀ w : World, Calls Try.prog 18 #[.agg #[.int .u64 x0, .int .u64 x1, .int .u64 x2, .int .u64 x3]] w fun e w' => (∃ v, e = .returned v ∧ Bts w'.heap.size w' v zs) ∧ Below w.heap.size w w')) : Calls Try.prog 3 #[.slice sa 32 cap, .agg #[.int .u64 n0, .int .u64 n1, .int .u64 n2, .int .u64 n3], .agg #[.int .u64 m0, .int .u64 m1, .int .u64 m2, .int .u64 m3]] w fun e w' => e = .returned (.bool true) ∧ Below w.heap.size w w' := by
  go_enter Try.func3, Try.ntmps3
  have hL3 : (((dn.length : Int)) == 0) = true := by simpa using hL1
  clear hL1 hL2
  go_wp2_with (fail)
  go_at_call 13
  refine (H0.out _).mono ?_
  rintro e wa ⟨rfl, hb⟩
  have HBn : Hid (Below w.heap.size w wa) := Lib.hid ((fun (h : Below _ _ _) => below_call h h.size hb) (by first | go_grown))
  have hBq_ : wa.heap[w.heap.size]? = some (.cells #[.int .u64 n0, .int .u64 n1, .int .u64 n2, .int .u64 n3] 25 (0, 0)) := heap_keep' hb (by repeat (first | (with_reducible refine heap_new' ?_ _; simp; done) | (with_reducible refine keep4 ?_ (by omega) _ _ _ _) | (with_reducible refine heap_old ?_ _) | (with_reducible refine heap_drew ?_) | (with_reducible refine heap_set_ne ?_ (by simp <;> omega) _)))
  have hBm_ : wa.heap[w.heap.size + 1]? = some (.cells #[.int .u64 m0, .int .u64 m1, .int .u64 m2, .int .u64 m3] 25 (0, 0)) := heap_keep' hb (by repeat (first | (with_reducible refine heap_new' ?_ _; simp; done) | (with_reducible refine keep4 ?_ (by omega) _ _ _ _) | (with_reducible refine heap_old ?_ _) | (with_reducible refine heap_drew ?_) | (with_reducible refine heap_set_ne ?_ (by simp <;> omega) _)))
  clear hb
  have HB := HBn; clear HBn
  have HBq := Lib.hid hBq_; have cBq := cells4 hBq_; have fBq := frozen_of hBq_; have zBq := lt_of_heap hBq_; clear hBq_
  have HBm := Lib.hid hBm_; have cBm := cells4 hBm_; have fBm := frozen_of hBm_; have zBm := lt_of_heap hBm_; clear hBm_
  go_wp2_with (fail)
  go_at_call 14
  refine (HOf.out _ _ ((HI.out.below HB.out).up HB.out.size)).mono ?_
  rintro e wb ⟨rfl, hb⟩
  have HBn : Hid (Below w.heap.size w wb) := Lib.hid ((fun (h : Below _ _ _) => below_call h h.size hb) (by have hB0 := HB.out; have hS0 := hB0.size; first | (with_reducible exact hB0) | (with_reducible exact set4_below hB0 (by omega) _ _ _ _) | (with_reducible exact set4_below (set4_below hB0 (by omega) _ _ _ _) (by omega) _ _ _ _) | (with_reducible exact set4_below (set4_below (set4_below (set4_below hB0 (by omega) _ _ _ _) (by omega) _ _ _ _) (by omega) _ _ _ _) (by omega) _ _ _ _) | go_grown))
  have hBq_ : wb.heap[w.heap.size]? = some (.cells #[.int .u64 n0, .int .u64 n1, .int .u64 n2, .int .u64 n3] 25 (0, 0)) := heap_keep' hb (by repeat (first | (with_reducible exact HBq.out) | (with_reducible exact set4 HBq.out _ _ _ _) | (with_reducible apply set4) | (with_reducible refine heap_new' ?_ _; simp; done) | (with_reducible refine keep4 ?_ (by omega) _ _ _ _) | (with_reducible refine heap_old ?_ _) | (with_reducible refine heap_drew ?_) | (with_reducible refine heap_set_ne ?_ (by simp <;> omega) _)))
  have hBm_ : wb.heap[w.heap.size + 1]? = some (.cells #[.int .u64 m0, .int .u64 m1, .int .u64 m2, .int .u64 m3] 25 (0, 0)) := heap_keep' hb (by repeat (first | (with_reducible exact HBm.out) | (with_reducible exact set4 HBm.out _ _ _ _) | (with_reducible apply set4) | (with_reducible refine heap_new' ?_ _; simp; done) | (with_reducible refine keep4 ?_ (by omega) _ _ _ _) | (with_reducible refine heap_old ?_ _) | (with_reducible refine heap_drew ?_) | (with_reducible refine heap_set_ne ?_ (by simp <;> omega) _)))
  clear hb HB HBq cBq fBq zBq HBm cBm fBm zBm
  have HB := HBn; clear HBn
  have HBq := Lib.hid hBq_; have cBq := cells4 hBq_; have fBq := frozen_of hBq_; have zBq := lt_of_heap hBq_; clear hBq_
  have HBm := Lib.hid hBm_; have cBm := cells4 hBm_; have fBm := frozen_of hBm_; have zBm := lt_of_heap hBm_; clear hBm_
  go_wp2
  refine Rg.region_ (n := 77) [0, 1, 3, 7, 7, 23, 63, 127, 255, 511, 1023, 2047, 4095, 1023, 9215, 32767, 65535] [0, 0, 0, 1, 0, 1, 1, 0, 0, 0, 1, 1, 1, 0, 1, 0, 0] [32, 33, 34, 35, 36, 37, 38, 39, 40, 41, 42, 43, 44, 45, 46, 47, 48] [[(8, none)], [(32, some 0)], [(33, some 1)], [(7, none), (34, some 2)], [(0, none), (34, some 2)], [(36, some 4), (34, some 2)], [(35, some 3), (37, some 5), (34, some 2)], [(38, some 6), (34, some 2)], [(34, some 2), (39, some 7)], [(40, some 8)], [(7, none), (41, some 9)], [(42, some 10), (41, some 9)], [(43, some 11), (41, some 9)], [(0, none), (41, some 9)], [(45, some 13), (41, some 9)], [(44, some 12), (46, some 14), (41, some 9)], [(41, some 9), (47, some 15)]] 17 (by kernel_rfl) (by kernel_rfl) (by rfl) ?_
  intro W hW
  have hBq_ : W.heap[w.heap.size]? = some (.cells #[.int .u64 n0, .int .u64 n1, .int .u64 n2, .int .u64 n3] 25 (0, 0)) := by rw [hW]; exact (by repeat (first | (with_reducible exact HBq.out) | (with_reducible exact set4 HBq.out _ _ _ _) | (with_reducible apply set4) | (with_reducible refine heap_new' ?_ _; simp; done) | (with_reducible refine keep4 ?_ (by omega) _ _ _ _) | (with_reducible refine heap_old ?_ _) | (with_reducible refine heap_drew ?_) | (with_reducible refine heap_set_ne ?_ (by simp <;> omega) _)))
  have hBm_ : W.heap[w.heap.size + 1]? = some (.cells #[.int .u64 m0, .int .u64 m1, .int .u64 m2, .int .u64 m3] 25 (0, 0)) := by rw [hW]; exact (by repeat (first | (with_reducible exact HBm.out) | (with_reducible exact set4 HBm.out _ _ _ _) | (with_reducible apply set4) | (with_reducible refine heap_new' ?_ _; simp; done) | (with_reducible refine keep4 ?_ (by omega) _ _ _ _) | (with_reducible refine heap_old ?_ _) | (with_reducible refine heap_drew ?_) | (with_reducible refine heap_set_ne ?_ (by simp <;> omega) _)))
  have hBx_ : W.heap[wb.heap.size]? = some (.cells #[.int .u64 x0, .int .u64 x1, .int .u64 x2, .int .u64 x3] 25 (0, 0)) := by rw [hW]; exact (by repeat (first | (with_reducible refine heap_new' ?_ _; simp; done) | (with_reducible refine keep4 ?_ (by omega) _ _ _ _) | (with_reducible refine heap_old ?_ _) | (with_reducible refine heap_drew ?_) | (with_reducible refine heap_set_ne ?_ (by simp <;> omega) _)))
  have HB0 : Below w.heap.size w W := by rw [hW]; have hB0 := HB.out; have hS0 := hB0.size; first | exact hB0.drew | exact (set4_below hB0 (by omega) _ _ _ _).drew | go_grown
  change Rg.Chain' _ _ _ _ _ [(0, 0, 32, [(8, none)]), (1, 0, 33, [(32, some 0)]), (2, 0, 34, [(33, some 1)]), (3, 1, 35, [(7, none), (34, some 2)]), (4, 0, 36, [(0, none), (34, some 2)]), (5, 1, 37, [(36, some 4), (34, some 2)]), (6, 1, 38, [(35, some 3), (37, some 5), (34, some 2)]), (7, 0, 39, [(38, some 6), (34, some 2)]), (8, 0, 40, [(34, some 2), (39, some 7)]), (9, 0, 41, [(40, some 8)]), (10, 1, 42, [(7, none), (41, some 9)]), (11, 1, 43, [(42, some 10), (41, some 9)]), (12, 1, 44, [(43, some 11), (41, some 9)]), (13, 0, 45, [(0, none), (41, some 9)]), (14, 1, 46, [(45, some 13), (41, some 9)]), (15, 0, 47, [(44, some 12), (46, some 14), (41, some 9)]), (16, 0, 48, [(41, some 9), (47, some 15)])] [(0, 0, 32, [(8, none)]), (1, 0, 33, [(32, some 0)]), (2, 0, 34, [(33, some 1)]), (3, 1, 35, [(7, none), (34, some 2)]), (4, 0, 36, [(0, none), (34, some 2)]), (5, 1, 37, [(36, some 4), (34, some 2)]), (6, 1, 38, [(35, some 3), (37, some 5), (34, some 2)]), (7, 0, 39, [(38, some 6), (34, some 2)]), (8, 0, 40, [(34, some 2), (39, some 7)]), (9, 0, 41, [(40, some 8)]), (10, 1, 42, [(7, none), (41, some 9)]), (11, 1, 43, [(42, some 10), (41, some 9)]), (12, 1, 44, [(43, some 11), (41, some 9)]), (13, 0, 45, [(0, none), (41, some 9)]), (14, 1, 46, [(45, some 13), (41, some 9)]), (15, 0, 47, [(44, some 12), (46, some 14), (41, some 9)]), (16, 0, 48, [(41, some 9), (47, some 15)])] _
  apply Rg.ch_pure (by rfl)
  · rintro a w1 ⟨e8, -⟩
    conv at e8 => rhs; whnf
    have n8 := e8
    simp only [Act.eval, Array.getD_eq_getD_getElem?] at n8
    apply Rg.yields_run (Rg.wanted_none (by rfl))
    intro w2
    conv => lhs; simp [go_sem, n8]
  apply Rg.ch_pure (by rfl)
  · rintro a w1 ⟨e32, -⟩
    replace e32 : a.eval (.tmp 32) = _ := e32
    have n32 := e32
    simp only [Act.eval, Array.getD_eq_getD_getElem?] at n32
    apply Rg.yields_run (Rg.wanted_none (by rfl))
    intro w2
    conv => lhs; simp [go_sem, n32]
  apply Rg.ch_pure (by rfl)
  · rintro a w1 ⟨e33, -⟩
    replace e33 : a.eval (.tmp 33) = _ := e33
    have n33 := e33
    simp only [Act.eval, Array.getD_eq_getD_getElem?] at n33
    apply Rg.yields_run (Rg.wanted_none (by rfl))
    intro w2
    conv => lhs; simp [go_sem, n33]
  apply Rg.ch_def (by rfl) (fun a w1 h => by obtain ⟨-, e34, -⟩ := h; exact Rg.wanted_some (by rfl) (by rfl) e34)
  · rintro a w1 hb ⟨e7, e34, -⟩
    conv at e7 => rhs; whnf
    have n7 := e7
    simp only [Act.eval, Array.getD_eq_getD_getElem?] at n7
    replace e34 : a.eval (.tmp 34) = _ := e34
    have n34 := e34
    simp only [Act.eval, Array.getD_eq_getD_getElem?] at n34
    apply Rg.gives_value
    · conv => lhs; simp [go_sem, n7, n34, cells4 (heap_keep' hb hBq_), cells4 (heap_keep' hb hBm_), cells4 (heap_keep' hb hBx_)]
    · exact ⟨rfl, Below.refl _ _⟩
  apply Rg.ch_pure (by rfl)
  · rintro a w1 ⟨e0, e34, -⟩
    conv at e0 => rhs; whnf
    have n0 := e0
    simp only [Act.eval, Array.getD_eq_getD_getElem?] at n0
    replace e34 : a.eval (.tmp 34) = _ := e34
    have n34 := e34
    simp only [Act.eval, Array.getD_eq_getD_getElem?] at n34
    apply Rg.yields_run (Rg.wanted_some (by rfl) (by rfl) e34)
    intro w2
    conv => lhs; simp [go_sem, n0, n34]
  apply Rg.ch_rel (fun w v => RdI w.heap.size w v dz) (stable_rdi _) (by rfl) (fun a w1 h => by obtain ⟨-, e34, -⟩ := h; exact Rg.wanted_some (by rfl) (by rfl) e34)
  · rintro a w1 hb ⟨e36, e34, -⟩
    replace e36 : a.eval (.tmp 36) = _ := e36
    replace e34 : a.eval (.tmp 34) = _ := e34
    apply Rg.gives_enter
    · apply run_call Try.func17 (by kernel_rfl) rfl _ (by rfl)
      conv => lhs; simp only [List.map_toArray, List.map_cons, List.map_nil, eval_const_, eval_global_, e36]
    · refine (HROf.out _ _ ((HI.out.below (HB0.trans (hb.mono HB0.size))).up (Nat.le_trans HB0.size hb.size))).mono ?_
      rintro e w2 ⟨⟨v, rfl, hv⟩, hb2⟩
      exact ⟨_, rfl, hv, hb2⟩
  apply Rg.ch_def (by rfl) (fun a w1 h => by obtain ⟨-, -, e34, -⟩ := h; exact Rg.wanted_some (by rfl) (by rfl) e34)
  · rintro a w1 hb ⟨e35, e37, e34, -⟩
    replace e35 : a.eval (.tmp 35) = _ := e35
    replace e37 : (fun w v => RdI w.heap.size w v dz) w1 (a.eval (.tmp 37)) := e37
    replace e34 : a.eval (.tmp 34) = _ := e34
    apply Rg.gives_enter
    · apply run_call Try.func16 (by kernel_rfl) rfl _ (by rfl)
      conv => lhs; simp only [List.map_toArray, List.map_cons, List.map_nil, eval_const_, eval_global_, e35]
    · refine (His.out _ _ e37).mono ?_
      rintro e w2 ⟨rfl, hb2⟩
      exact ⟨_, rfl, rfl, hb2⟩
  apply Rg.ch_pure (by rfl)
  · rintro a w1 ⟨e38, e34, -⟩
    replace e38 : a.eval (.tmp 38) = _ := e38
    have n38 := e38
    simp only [Act.eval, Array.getD_eq_getD_getElem?] at n38
    replace e34 : a.eval (.tmp 34) = _ := e34
    have n34 := e34
    simp only [Act.eval, Array.getD_eq_getD_getElem?] at n34
    apply Rg.yields_run (Rg.wanted_some (by rfl) (by rfl) e34)
    intro w2
    conv => lhs; simp [go_sem, n38, n34]
  apply Rg.ch_pure (by rfl)
  · rintro a w1 ⟨e34, e39, -⟩
    replace e34 : a.eval (.tmp 34) = _ := e34
    have n34 := e34
    simp only [Act.eval, Array.getD_eq_getD_getElem?] at n34
    replace e39 : a.eval (.tmp 39) = _ := e39
    have n39 := e39
    simp only [Act.eval, Array.getD_eq_getD_getElem?] at n39
    apply Rg.yields_run (Rg.wanted_none (by rfl))
    intro w2
    conv => lhs; simp [go_sem, n34, n39]
  apply Rg.ch_pure (by rfl)
  · rintro a w1 ⟨e40, -⟩
    replace e40 : a.eval (.tmp 40) = _ := e40
    have n40 := e40
    simp only [Act.eval, Array.getD_eq_getD_getElem?] at n40
    apply Rg.yields_run (Rg.wanted_none (by rfl))
    intro w2
    conv => lhs; simp [go_sem, n40]
  apply Rg.ch_def (by rfl) (fun a w1 h => by obtain ⟨-, e41, -⟩ := h; exact Rg.wanted_some (by rfl) (by rfl) e41)
  · rintro a w1 hb ⟨e7, e41, -⟩
    conv at e7 => rhs; whnf
    have n7 := e7
    simp only [Act.eval, Array.getD_eq_getD_getElem?] at n7
    replace e41 : a.eval (.tmp 41) = _ := e41
    have n41 := e41
    simp only [Act.eval, Array.getD_eq_getD_getElem?] at n41
    apply Rg.gives_value
    · conv => lhs; simp [go_sem, n7, n41, cells4 (heap_keep' hb hBq_), cells4 (heap_keep' hb hBm_), cells4 (heap_keep' hb hBx_)]
    · exact ⟨rfl, Below.refl _ _⟩
  apply Rg.ch_rel (fun w v => Bts w.heap.size w v zs) (stable_bts _) (by rfl) (fun a w1 h => by obtain ⟨-, e41, -⟩ := h; exact Rg.wanted_some (by rfl) (by rfl) e41)
  · rintro a w1 hb ⟨e42, e41, -⟩
    replace e42 : a.eval (.tmp 42) = _ := e42
    replace e41 : a.eval (.tmp 41) = _ := e41
    apply Rg.gives_enter
    · apply run_call Try.func18 (by kernel_rfl) rfl _ (by rfl)
      conv => lhs; simp only [List.map_toArray, List.map_cons, List.map_nil, eval_const_, eval_global_, e42]
    · refine (HBx.out _).mono ?_
      rintro e w2 ⟨⟨v, rfl, hv⟩, hb2⟩
      exact ⟨_, rfl, hv, hb2⟩
  apply Rg.ch_def (by rfl) (fun a w1 h => by obtain ⟨-, e41, -⟩ := h; exact Rg.wanted_some (by rfl) (by rfl) e41)
  · rintro a w1 hb ⟨e43, e41, -⟩
    replace e43 : (fun w v => Bts w.heap.size w v zs) w1 (a.eval (.tmp 43)) := e43
    replace e41 : a.eval (.tmp 41) = _ := e41
    exact Rg.gives_value (w' := w1) (conv_exec (s := 43) rfl e43) ⟨rfl, Below.refl _ _⟩
  apply Rg.ch_pure (by rfl)
  · rintro a w1 ⟨e0, e41, -⟩
    conv at e0 => rhs; whnf
    have n0 := e0
    simp only [Act.eval, Array.getD_eq_getD_getElem?] at n0
    replace e41 : a.eval (.tmp 41) = _ := e41
    have n41 := e41
    simp only [Act.eval, Array.getD_eq_getD_getElem?] at n41
    apply Rg.yields_run (Rg.wanted_some (by rfl) (by rfl) e41)
    intro w2
    conv => lhs; simp [go_sem, n0, n41]
  apply Rg.ch_def (by rfl) (fun a w1 h => by obtain ⟨-, e41, -⟩ := h; exact Rg.wanted_some (by rfl) (by rfl) e41)
  · rintro a w1 hb ⟨e45, e41, -⟩
    replace e45 : a.eval (.tmp 45) = _ := e45
    replace e41 : a.eval (.tmp 41) = _ := e41
    exact Rg.gives_value (w' := w1) (conv_exec (n := w.heap.size) (s := 45) rfl (by rw [e45]; exact HI.out.below (HB0.trans (hb.mono HB0.size)))) ⟨rfl, Below.refl _ _⟩
  apply Rg.ch_pure (by rfl)
  · rintro a w1 ⟨e44, e46, e41, -⟩
    replace e44 : a.eval (.tmp 44) = _ := e44
    have n44 := e44
    simp only [Act.eval, Array.getD_eq_getD_getElem?] at n44
    replace e46 : a.eval (.tmp 46) = _ := e46
    have n46 := e46
    simp only [Act.eval, Array.getD_eq_getD_getElem?] at n46
    replace e41 : a.eval (.tmp 41) = _ := e41
    have n41 := e41
    simp only [Act.eval, Array.getD_eq_getD_getElem?] at n41
    apply Rg.yields_run (Rg.wanted_some (by rfl) (by rfl) e41)
    intro w2
    conv => lhs; simp [go_sem, n44, n46, n41]
  apply Rg.ch_pure (by rfl)
  · rintro a w1 ⟨e41, e47, -⟩
    replace e41 : a.eval (.tmp 41) = _ := e41
    have n41 := e41
    simp only [Act.eval, Array.getD_eq_getD_getElem?] at n41
    replace e47 : a.eval (.tmp 47) = _ := e47
    have n47 := e47
    simp only [Act.eval, Array.getD_eq_getD_getElem?] at n47
    apply Rg.yields_run (Rg.wanted_none (by rfl))
    intro w2
    conv => lhs; simp [go_sem, n41, n47]
  intro w1 hb1
  rintro _ rfl _ rfl _ rfl _ rfl _ rfl v37 hv37 _ rfl _ rfl _ rfl _ rfl _ rfl v43 hv43 _ rfl _ rfl _ rfl _ rfl _ rfl
  change Go.wpList _ _ _ _ _ _
  set_option maxRecDepth 100000 in simp only [List.drop_succ_cons, List.drop_zero, List.drop_nil, Act.put, List.setIfInBounds_toArray, List.set_cons_succ, List.set_cons_zero]
  change Go.NoPanic _ _ _ _
  refine NoPanic.normal ?_
  have HBn : Hid (Below w.heap.size w w1) := Lib.hid (below_call HB0 HB0.size hb1)
  have hBq__ := heap_keep' hb1 hBq_
  have hBm__ := heap_keep' hb1 hBm_
  have hBx__ := heap_keep' hb1 hBx_
  clear hb1 HB0 HB hBq_ HBq cBq fBq zBq hBm_ HBm cBm fBm zBm hBx_
  clear hW
  obtain ⟨wc, rfl⟩ : ∃ x : World, x = w1 := ⟨_, rfl⟩
  have HB := HBn; clear HBn
  have HBq := Lib.hid hBq__; have cBq := cells4 hBq__; have fBq := frozen_of hBq__; have zBq := lt_of_heap hBq__; clear hBq__
  have HBm := Lib.hid hBm__; have cBm := cells4 hBm__; have fBm := frozen_of hBm__; have zBm := lt_of_heap hBm__; clear hBm__
  have HBx := Lib.hid hBx__; have cBx := cells4 hBx__; have fBx := frozen_of hBx__; have zBx := lt_of_heap hBx__; clear hBx__
  go_wp2
  refine Rg.region_ (n := 77) [0, 1, 3, 0, 11, 27, 59, 127, 255, 511, 511, 2047, 511, 8191, 511, 32767, 65535, 131071, 262143, 524287, 1048575, 2097151, 1048575, 8388607, 16777215, 33554431, 67108863, 134217727, 268435455] [1, 1, 1, 1, 1, 1, 1, 0, 0, 1, 1, 1, 1, 1, 1, 1, 1, 0, 0, 0, 1, 1, 1, 1, 0, 0, 0, 0, 0] [49, 50, 51, 52, 53, 54, 55, 56, 57, 58, 59, 60, 61, 62, 63, 64, 65, 66, 67, 68, 69, 70, 71, 72, 73, 74, 75, 76, 6] [[(4, none)], [(49, some 0)], [(50, some 1)], [(4, none)], [(52, some 3)], [(53, some 4)], [(54, some 5)], [(51, some 2), (55, some 6)], [(56, some 7)], [(4, none), (57, some 8)], [(5, none), (57, some 8)], [(58, some 9), (59, some 10), (57, some 8)], [(4, none), (57, some 8)], [(61, some 12), (57, some 8)], [(5, none), (57, some 8)], [(63, some 14), (57, some 8)], [(62, some 13), (64, some 15), (57, some 8)], [(60, some 11), (65, some 16), (57, some 8)], [(57, some 8), (66, some 17)], [(67, some 18)], [(4, none), (68, some 19)], [(69, some 20), (68, some 19)], [(4, none), (68, some 19)], [(71, some 22), (68, some 19)], [(72, some 23), (68, some 19)], [(73, some 24), (68, some 19)], [(70, some 21), (74, some 25), (68, some 19)], [(68, some 19), (75, some 26)], [(76, some 27)]] 29 (by kernel_rfl) (by kernel_rfl) (by rfl) ?_
  intro W hW
  have hBq_ : W.heap[w.heap.size]? = some (.cells #[.int .u64 n0, .int .u64 n1, .int .u64 n2, .int .u64 n3] 25 (0, 0)) := by rw [hW]; exact (by repeat (first | (with_reducible exact HBq.out) | (with_reducible exact set4 HBq.out _ _ _ _) | (with_reducible apply set4) | (with_reducible refine heap_new' ?_ _; simp; done) | (with_reducible refine keep4 ?_ (by omega) _ _ _ _) | (with_reducible refine heap_old ?_ _) | (with_reducible refine heap_drew ?_) | (with_reducible refine heap_set_ne ?_ (by simp <;> omega) _)))
  have hBm_ : W.heap[w.heap.size + 1]? = some (.cells #[.int .u64 m0, .int .u64 m1, .int .u64 m2, .int .u64 m3] 25 (0, 0)) := by rw [hW]; exact (by repeat (first | (with_reducible exact HBm.out) | (with_reducible exact set4 HBm.out _ _ _ _) | (with_reducible apply set4) | (with_reducible refine heap_new' ?_ _; simp; done) | (with_reducible refine keep4 ?_ (by omega) _ _ _ _) | (with_reducible refine heap_old ?_ _) | (with_reducible refine heap_drew ?_) | (with_reducible refine heap_set_ne ?_ (by simp <;> omega) _)))
  have hBx_ : W.heap[wb.heap.size]? = some (.cells #[.int .u64 x0, .int .u64 x1, .int .u64 x2, .int .u64 x3] 25 (0, 0)) := by rw [hW]; exact (by repeat (first | (with_reducible exact HBx.out) | (with_reducible exact set4 HBx.out _ _ _ _) | (with_reducible apply set4) | (with_reducible refine heap_new' ?_ _; simp; done) | (with_reducible refine keep4 ?_ (by omega) _ _ _ _) | (with_reducible refine heap_old ?_ _) | (with_reducible refine heap_drew ?_) | (with_reducible refine heap_set_ne ?_ (by simp <;> omega) _)))
  have HB0 : Below w.heap.size w W := by rw [hW]; have hB0 := HB.out; have hS0 := hB0.size; first | exact hB0.drew | exact (set4_below hB0 (by omega) _ _ _ _).drew | go_grown
  change Rg.Chain' _ _ _ _ _ [(0, 1, 49, [(4, none)]), (1, 1, 50, [(49, some 0)]), (2, 1, 51, [(50, some 1)]), (3, 1, 52, [(4, none)]), (4, 1, 53, [(52, some 3)]), (5, 1, 54, [(53, some 4)]), (6, 1, 55, [(54, some 5)]), (7, 0, 56, [(51, some 2), (55, some 6)]), (8, 0, 57, [(56, some 7)]), (9, 1, 58, [(4, none), (57, some 8)]), (10, 1, 59, [(5, none), (57, some 8)]), (11, 1, 60, [(58, some 9), (59, some 10), (57, some 8)]), (12, 1, 61, [(4, none), (57, some 8)]), (13, 1, 62, [(61, some 12), (57, some 8)]), (14, 1, 63, [(5, none), (57, some 8)]), (15, 1, 64, [(63, some 14), (57, some 8)]), (16, 1, 65, [(62, some 13), (64, some 15), (57, some 8)]), (17, 0, 66, [(60, some 11), (65, some 16), (57, some 8)]), (18, 0, 67, [(57, some 8), (66, some 17)]), (19, 0, 68, [(67, some 18)]), (20, 1, 69, [(4, none), (68, some 19)]), (21, 1, 70, [(69, some 20), (68, some 19)]), (22, 1, 71, [(4, none), (68, some 19)]), (23, 1, 72, [(71, some 22), (68, some 19)]), (24, 0, 73, [(72, some 23), (68, some 19)]), (25, 0, 74, [(73, some 24), (68, some 19)]), (26, 0, 75, [(70, some 21), (74, some 25), (68, some 19)]), (27, 0, 76, [(68, some 19), (75, some 26)]), (28, 0, 6, [(76, some 27)])] [(0, 1, 49, [(4, none)]), (1, 1, 50, [(49, some 0)]), (2, 1, 51, [(50, some 1)]), (3, 1, 52, [(4, none)]), (4, 1, 53, [(52, some 3)]), (5, 1, 54, [(53, some 4)]), (6, 1, 55, [(54, some 5)]), (7, 0, 56, [(51, some 2), (55, some 6)]), (8, 0, 57, [(56, some 7)]), (9, 1, 58, [(4, none), (57, some 8)]), (10, 1, 59, [(5, none), (57, some 8)]), (11, 1, 60, [(58, some 9), (59, some 10), (57, some 8)]), (12, 1, 61, [(4, none), (57, some 8)]), (13, 1, 62, [(61, some 12), (57, some 8)]), (14, 1, 63, [(5, none), (57, some 8)]), (15, 1, 64, [(63, some 14), (57, some 8)]), (16, 1, 65, [(62, some 13), (64, some 15), (57, some 8)]), (17, 0, 66, [(60, some 11), (65, some 16), (57, some 8)]), (18, 0, 67, [(57, some 8), (66, some 17)]), (19, 0, 68, [(67, some 18)]), (20, 1, 69, [(4, none), (68, some 19)]), (21, 1, 70, [(69, some 20), (68, some 19)]), (22, 1, 71, [(4, none), (68, some 19)]), (23, 1, 72, [(71, some 22), (68, some 19)]), (24, 0, 73, [(72, some 23), (68, some 19)]), (25, 0, 74, [(73, some 24), (68, some 19)]), (26, 0, 75, [(70, some 21), (74, some 25), (68, some 19)]), (27, 0, 76, [(68, some 19), (75, some 26)]), (28, 0, 6, [(76, some 27)])] _
  apply Rg.ch_def (by rfl) (fun a w1 _ => Rg.wanted_none (by rfl))
  · rintro a w1 hb ⟨e4, -⟩
    conv at e4 => rhs; whnf
    have n4 := e4
    simp only [Act.eval, Array.getD_eq_getD_getElem?] at n4
    apply Rg.gives_value
    · conv => lhs; simp [go_sem, n4, cells4 (heap_keep' hb hBq_), cells4 (heap_keep' hb hBm_), cells4 (heap_keep' hb hBx_)]
    · exact ⟨rfl, Below.refl _ _⟩
  apply Rg.ch_rel (fun w v => Bts w.heap.size w v bn) (stable_bts _) (by rfl) (fun a w1 _ => Rg.wanted_none (by rfl))
  · rintro a w1 hb ⟨e49, -⟩
    replace e49 : a.eval (.tmp 49) = _ := e49
    apply Rg.gives_enter
    · apply run_call Try.func18 (by kernel_rfl) rfl _ (by rfl)
      conv => lhs; simp only [List.map_toArray, List.map_cons, List.map_nil, eval_const_, eval_global_, e49]
    · refine (HBn.out _).mono ?_
      rintro e w2 ⟨⟨v, rfl, hv⟩, hb2⟩
      exact ⟨_, rfl, hv, hb2⟩
  apply Rg.ch_def (by rfl) (fun a w1 _ => Rg.wanted_none (by rfl))
  · rintro a w1 hb ⟨e50, -⟩
    replace e50 : (fun w v => Bts w.heap.size w v bn) w1 (a.eval (.tmp 50)) := e50
    exact Rg.gives_value (w' := w1) (conv_exec (s := 50) rfl e50) ⟨rfl, Below.refl _ _⟩
  apply Rg.ch_def (by rfl) (fun a w1 _ => Rg.wanted_none (by rfl))
  · rintro a w1 hb ⟨e4, -⟩
    conv at e4 => rhs; whnf
    have n4 := e4
    simp only [Act.eval, Array.getD_eq_getD_getElem?] at n4
    apply Rg.gives_value
    · conv => lhs; simp [go_sem, n4, cells4 (heap_keep' hb hBq_), cells4 (heap_keep' hb hBm_), cells4 (heap_keep' hb hBx_)]
    · exact ⟨rfl, Below.refl _ _⟩
  apply Rg.ch_rel (fun w v => RdI w.heap.size w v dn) (stable_rdi _) (by rfl) (fun a w1 _ => Rg.wanted_none (by rfl))
  · rintro a w1 hb ⟨e52, -⟩
    replace e52 : a.eval (.tmp 52) = _ := e52
    apply Rg.gives_enter
    · apply run_call Try.func20 (by kernel_rfl) rfl _ (by rfl)
      conv => lhs; simp only [List.map_toArray, List.map_cons, List.map_nil, eval_const_, eval_global_, e52]
    · refine (HRn.out _).mono ?_
      rintro e w2 ⟨⟨v, rfl, hv⟩, hb2⟩
      exact ⟨_, rfl, hv, hb2⟩
  apply Rg.ch_rel (fun w v => Bts w.heap.size w v bn) (stable_bts _) (by rfl) (fun a w1 _ => Rg.wanted_none (by rfl))
  · rintro a w1 hb ⟨e53, -⟩
    replace e53 : (fun w v => RdI w.heap.size w v dn) w1 (a.eval (.tmp 53)) := e53
    apply Rg.gives_enter
    · apply run_call Try.func19 (by kernel_rfl) rfl _ (by rfl)
      conv => lhs; simp only [List.map_toArray, List.map_cons, List.map_nil, eval_const_, eval_global_]
    · refine (HRB.out _ _ e53).mono ?_
      rintro e w2 ⟨⟨v, rfl, hv⟩, hb2⟩
      exact ⟨_, rfl, hv, hb2⟩
  apply Rg.ch_def (by rfl) (fun a w1 _ => Rg.wanted_none (by rfl))
  · rintro a w1 hb ⟨e54, -⟩
    replace e54 : (fun w v => Bts w.heap.size w v bn) w1 (a.eval (.tmp 54)) := e54
    exact Rg.gives_value (w' := w1) (conv_exec (s := 54) rfl e54) ⟨rfl, Below.refl _ _⟩
  apply Rg.ch_pure (by rfl)
  · rintro a w1 ⟨e51, e55, -⟩
    replace e51 : a.eval (.tmp 51) = _ := e51
    have n51 := e51
    simp only [Act.eval, Array.getD_eq_getD_getElem?] at n51
    replace e55 : a.eval (.tmp 55) = _ := e55
    have n55 := e55
    simp only [Act.eval, Array.getD_eq_getD_getElem?] at n55
    apply Rg.yields_run (Rg.wanted_none (by rfl))
    intro w2
    conv => lhs; simp [go_sem, n51, n55, hL3]
  apply Rg.ch_pure (by rfl)
  · rintro a w1 ⟨e56, -⟩
    replace e56 : a.eval (.tmp 56) = _ := e56
    have n56 := e56
    simp only [Act.eval, Array.getD_eq_getD_getElem?] at n56
    apply Rg.yields_run (Rg.wanted_none (by rfl))
    intro w2
    conv => lhs; simp [go_sem, n56, hL3]
  apply Rg.ch_def (by rfl) (fun a w1 h => by obtain ⟨-, e57, -⟩ := h; exact Rg.wanted_some (by rfl) (by rfl) e57)
  · rintro a w1 hb ⟨e4, e57, -⟩
    conv at e4 => rhs; whnf
    have n4 := e4
    simp only [Act.eval, Array.getD_eq_getD_getElem?] at n4
    replace e57 : a.eval (.tmp 57) = _ := e57
    have n57 := e57
    simp only [Act.eval, Array.getD_eq_getD_getElem?] at n57
    apply Rg.gives_value
    · conv => lhs; simp [go_sem, n4, n57, cells4 (heap_keep' hb hBq_), cells4 (heap_keep' hb hBm_), cells4 (heap_keep' hb hBx_)]
    · exact ⟨rfl, Below.refl _ _⟩
  apply Rg.ch_def (by rfl) (fun a w1 h => by obtain ⟨-, e57, -⟩ := h; exact Rg.wanted_some (by rfl) (by rfl) e57)
  · rintro a w1 hb ⟨e5, e57, -⟩
    conv at e5 => rhs; whnf
    have n5 := e5
    simp only [Act.eval, Array.getD_eq_getD_getElem?] at n5
    replace e57 : a.eval (.tmp 57) = _ := e57
    have n57 := e57
    simp only [Act.eval, Array.getD_eq_getD_getElem?] at n57
    apply Rg.gives_value
    · conv => lhs; simp [go_sem, n5, n57, cells4 (heap_keep' hb hBq_), cells4 (heap_keep' hb hBm_), cells4 (heap_keep' hb hBx_)]
    · exact ⟨rfl, Below.refl _ _⟩
  apply Rg.ch_def (by rfl) (fun a w1 h => by obtain ⟨-, -, e57, -⟩ := h; exact Rg.wanted_some (by rfl) (by rfl) e57)
  · rintro a w1 hb ⟨e58, e59, e57, -⟩
    replace e58 : a.eval (.tmp 58) = _ := e58
    replace e59 : a.eval (.tmp 59) = _ := e59
    replace e57 : a.eval (.tmp 57) = _ := e57
    apply Rg.gives_enter
    · apply run_call Try.func21 (by kernel_rfl) rfl _ (by rfl)
      conv => lhs; simp only [List.map_toArray, List.map_cons, List.map_nil, eval_const_, eval_global_, e58, e59]
    · refine (HL.out _).mono ?_
      rintro e w2 ⟨rfl, hb2⟩
      exact ⟨_, rfl, rfl, hb2⟩
  apply Rg.ch_def (by rfl) (fun a w1 h => by obtain ⟨-, e57, -⟩ := h; exact Rg.wanted_some (by rfl) (by rfl) e57)
  · rintro a w1 hb ⟨e4, e57, -⟩
    conv at e4 => rhs; whnf
    have n4 := e4
    simp only [Act.eval, Array.getD_eq_getD_getElem?] at n4
    replace e57 : a.eval (.tmp 57) = _ := e57
    have n57 := e57
    simp only [Act.eval, Array.getD_eq_getD_getElem?] at n57
    apply Rg.gives_value
    · conv => lhs; simp [go_sem, n4, n57, cells4 (heap_keep' hb hBq_), cells4 (heap_keep' hb hBm_), cells4 (heap_keep' hb hBx_)]
    · exact ⟨rfl, Below.refl _ _⟩
  apply Rg.ch_rel (fun w v => RdI w.heap.size w v dn) (stable_rdi _) (by rfl) (fun a w1 h => by obtain ⟨-, e57, -⟩ := h; exact Rg.wanted_some (by rfl) (by rfl) e57)
  · rintro a w1 hb ⟨e61, e57, -⟩
    replace e61 : a.eval (.tmp 61) = _ := e61
    replace e57 : a.eval (.tmp 57) = _ := e57
    apply Rg.gives_enter
    · apply run_call Try.func20 (by kernel_rfl) rfl _ (by rfl)
      conv => lhs; simp only [List.map_toArray, List.map_cons, List.map_nil, eval_const_, eval_global_, e61]
    · refine (HRn.out _).mono ?_
      rintro e w2 ⟨⟨v, rfl, hv⟩, hb2⟩
      exact ⟨_, rfl, hv, hb2⟩
  apply Rg.ch_def (by rfl) (fun a w1 h => by obtain ⟨-, e57, -⟩ := h; exact Rg.wanted_some (by rfl) (by rfl) e57)
  · rintro a w1 hb ⟨e5, e57, -⟩
    conv at e5 => rhs; whnf
    have n5 := e5
    simp only [Act.eval, Array.getD_eq_getD_getElem?] at n5
    replace e57 : a.eval (.tmp 57) = _ := e57
    have n57 := e57
    simp only [Act.eval, Array.getD_eq_getD_getElem?] at n57
    apply Rg.gives_value
    · conv => lhs; simp [go_sem, n5, n57, cells4 (heap_keep' hb hBq_), cells4 (heap_keep' hb hBm_), cells4 (heap_keep' hb hBx_)]
    · exact ⟨rfl, Below.refl _ _⟩
  apply Rg.ch_rel (fun w v => RdI w.heap.size w v dm) (stable_rdi _) (by rfl) (fun a w1 h => by obtain ⟨-, e57, -⟩ := h; exact Rg.wanted_some (by rfl) (by rfl) e57)
  · rintro a w1 hb ⟨e63, e57, -⟩
    replace e63 : a.eval (.tmp 63) = _ := e63
    replace e57 : a.eval (.tmp 57) = _ := e57
    apply Rg.gives_enter
    · apply run_call Try.func20 (by kernel_rfl) rfl _ (by rfl)
      conv => lhs; simp only [List.map_toArray, List.map_cons, List.map_nil, eval_const_, eval_global_, e63]
    · refine (HRm.out _).mono ?_
      rintro e w2 ⟨⟨v, rfl, hv⟩, hb2⟩
      exact ⟨_, rfl, hv, hb2⟩
  apply Rg.ch_def (by rfl) (fun a w1 h => by obtain ⟨-, -, e57, -⟩ := h; exact Rg.wanted_some (by rfl) (by rfl) e57)
  · rintro a w1 hb ⟨e62, e64, e57, -⟩
    replace e62 : (fun w v => RdI w.heap.size w v dn) w1 (a.eval (.tmp 62)) := e62
    replace e64 : (fun w v => RdI w.heap.size w v dm) w1 (a.eval (.tmp 64)) := e64
    replace e57 : a.eval (.tmp 57) = _ := e57
    apply Rg.gives_enter
    · apply run_call Try.func22 (by kernel_rfl) rfl _ (by rfl)
      conv => lhs; simp only [List.map_toArray, List.map_cons, List.map_nil, eval_const_, eval_global_]
    · refine (HRL.out _ _ _ e62 e64).mono ?_
      rintro e w2 ⟨rfl, hb2⟩
      exact ⟨_, rfl, rfl, hb2⟩
  apply Rg.ch_pure (by rfl)
  · rintro a w1 ⟨e60, e65, e57, -⟩
    replace e60 : a.eval (.tmp 60) = _ := e60
    have n60 := e60
    simp only [Act.eval, Array.getD_eq_getD_getElem?] at n60
    replace e65 : a.eval (.tmp 65) = _ := e65
    have n65 := e65
    simp only [Act.eval, Array.getD_eq_getD_getElem?] at n65
    replace e57 : a.eval (.tmp 57) = _ := e57
    have n57 := e57
    simp only [Act.eval, Array.getD_eq_getD_getElem?] at n57
    apply Rg.yields_run (Rg.wanted_some (by rfl) (by rfl) e57)
    intro w2
    conv => lhs; simp [go_sem, n60, n65, n57, hL3]
  apply Rg.ch_pure (by rfl)
  · rintro a w1 ⟨e57, e66, -⟩
    replace e57 : a.eval (.tmp 57) = _ := e57
    have n57 := e57
    simp only [Act.eval, Array.getD_eq_getD_getElem?] at n57
    replace e66 : a.eval (.tmp 66) = _ := e66
    have n66 := e66
    simp only [Act.eval, Array.getD_eq_getD_getElem?] at n66
    apply Rg.yields_run (Rg.wanted_none (by rfl))
    intro w2
    conv => lhs; simp [go_sem, n57, n66, hL3]
  apply Rg.ch_pure (by rfl)
  · rintro a w1 ⟨e67, -⟩
    replace e67 : a.eval (.tmp 67) = _ := e67
    have n67 := e67
    simp only [Act.eval, Array.getD_eq_getD_getElem?] at n67
    apply Rg.yields_run (Rg.wanted_none (by rfl))
    intro w2
    conv => lhs; simp [go_sem, n67, hL3]
  apply Rg.ch_def (by rfl) (fun a w1 h => by obtain ⟨-, e68, -⟩ := h; exact Rg.wanted_some (by rfl) (by rfl) e68)
  · rintro a w1 hb ⟨e4, e68, -⟩
    conv at e4 => rhs; whnf
    have n4 := e4
    simp only [Act.eval, Array.getD_eq_getD_getElem?] at n4
    replace e68 : a.eval (.tmp 68) = _ := e68
    have n68 := e68
    simp only [Act.eval, Array.getD_eq_getD_getElem?] at n68
    apply Rg.gives_value
    · conv => lhs; simp [go_sem, n4, n68, cells4 (heap_keep' hb hBq_), cells4 (heap_keep' hb hBm_), cells4 (heap_keep' hb hBx_)]
    · exact ⟨rfl, Below.refl _ _⟩
  apply Rg.ch_def (by rfl) (fun a w1 h => by obtain ⟨-, e68, -⟩ := h; exact Rg.wanted_some (by rfl) (by rfl) e68)
  · rintro a w1 hb ⟨e69, e68, -⟩
    replace e69 : a.eval (.tmp 69) = _ := e69
    replace e68 : a.eval (.tmp 68) = _ := e68
    apply Rg.gives_enter
    · apply run_call Try.func15 (by kernel_rfl) rfl _ (by rfl)
      conv => lhs; simp only [List.map_toArray, List.map_cons, List.map_nil, eval_const_, eval_global_, e69]
    · refine (HZ.out _).mono ?_
      rintro e w2 ⟨rfl, hb2⟩
      exact ⟨_, rfl, rfl, hb2⟩
  apply Rg.ch_def (by rfl) (fun a w1 h => by obtain ⟨-, e68, -⟩ := h; exact Rg.wanted_some (by rfl) (by rfl) e68)
  · rintro a w1 hb ⟨e4, e68, -⟩
    conv at e4 => rhs; whnf
    have n4 := e4
    simp only [Act.eval, Array.getD_eq_getD_getElem?] at n4
    replace e68 : a.eval (.tmp 68) = _ := e68
    have n68 := e68
    simp only [Act.eval, Array.getD_eq_getD_getElem?] at n68
    apply Rg.gives_value
    · conv => lhs; simp [go_sem, n4, n68, cells4 (heap_keep' hb hBq_), cells4 (heap_keep' hb hBm_), cells4 (heap_keep' hb hBx_)]
    · exact ⟨rfl, Below.refl _ _⟩
  apply Rg.ch_rel (fun w v => RdI w.heap.size w v dn) (stable_rdi _) (by rfl) (fun a w1 h => by obtain ⟨-, e68, -⟩ := h; exact Rg.wanted_some (by rfl) (by rfl) e68)
  · rintro a w1 hb ⟨e71, e68, -⟩
    replace e71 : a.eval (.tmp 71) = _ := e71
    replace e68 : a.eval (.tmp 68) = _ := e68
    apply Rg.gives_enter
    · apply run_call Try.func20 (by kernel_rfl) rfl _ (by rfl)
      conv => lhs; simp only [List.map_toArray, List.map_cons, List.map_nil, eval_const_, eval_global_, e71]
    · refine (HRn.out _).mono ?_
      rintro e w2 ⟨⟨v, rfl, hv⟩, hb2⟩
      exact ⟨_, rfl, hv, hb2⟩
  -- operation 24
  apply Rg.ch_pure (by rfl)
  · rintro a w1 ⟨e72, e68, -⟩
    obtain ⟨xa, xc, ex⟩ := RdI.some e72
    apply Rg.yields_run (Rg.wanted_some (by rfl) (by rfl) e68)
    intro w2
    simp only [Act.eval, Array.getD_eq_getD_getElem?] at ex
    conv => lhs; simp [go_sem, ex]
  apply Rg.ch_pure (by rfl)
  · rintro a w1 ⟨e73, e68, -⟩
    replace e73 : a.eval (.tmp 73) = _ := e73
    have n73 := e73
    simp only [Act.eval, Array.getD_eq_getD_getElem?] at n73
    replace e68 : a.eval (.tmp 68) = _ := e68
    have n68 := e68
    simp only [Act.eval, Array.getD_eq_getD_getElem?] at n68
    apply Rg.yields_run (Rg.wanted_some (by rfl) (by rfl) e68)
    intro w2
    conv => lhs; simp [go_sem, n73, n68, hL3]
  apply Rg.ch_pure (by rfl)
  · rintro a w1 ⟨e70, e74, e68, -⟩
    replace e70 : a.eval (.tmp 70) = _ := e70
    have n70 := e70
    simp only [Act.eval, Array.getD_eq_getD_getElem?] at n70
    replace e74 : a.eval (.tmp 74) = _ := e74
    have n74 := e74
    simp only [Act.eval, Array.getD_eq_getD_getElem?] at n74
    replace e68 : a.eval (.tmp 68) = _ := e68
    have n68 := e68
    simp only [Act.eval, Array.getD_eq_getD_getElem?] at n68
    apply Rg.yields_run (Rg.wanted_some (by rfl) (by rfl) e68)
    intro w2
    conv => lhs; simp [go_sem, n70, n74, n68, hL3]
  apply Rg.ch_pure (by rfl)
  · rintro a w1 ⟨e68, e75, -⟩
    replace e68 : a.eval (.tmp 68) = _ := e68
    have n68 := e68
    simp only [Act.eval, Array.getD_eq_getD_getElem?] at n68
    replace e75 : a.eval (.tmp 75) = _ := e75
    have n75 := e75
    simp only [Act.eval, Array.getD_eq_getD_getElem?] at n75
    apply Rg.yields_run (Rg.wanted_none (by rfl))
    intro w2
    conv => lhs; simp [go_sem, n68, n75, hL3]
  apply Rg.ch_pure (by rfl)
  · rintro a w1 ⟨e76, -⟩
    replace e76 : a.eval (.tmp 76) = _ := e76
    have n76 := e76
    simp only [Act.eval, Array.getD_eq_getD_getElem?] at n76
    apply Rg.yields_run (Rg.wanted_none (by rfl))
    intro w2
    conv => lhs; simp [go_sem, n76, hL3]
  intro w1 hb1
  rintro _ rfl v50 hv50 _ rfl _ rfl v53 hv53 v54 hv54 _ rfl _ rfl _ rfl _ rfl _ rfl _ rfl _ rfl v62 hv62 _ rfl v64 hv64 _ rfl _ rfl _ rfl _ rfl _ rfl _ rfl _ rfl v72 hv72 _ rfl _ rfl _ rfl _ rfl _ rfl
  change Go.wpList _ _ _ _ _ _
  set_option maxRecDepth 100000 in simp only [List.drop_succ_cons, List.drop_zero, List.drop_nil, Act.put, List.setIfInBounds_toArray, List.set_cons_succ, List.set_cons_zero]
  change Go.NoPanic _ _ _ _
  refine NoPanic.normal ?_
  have HBn : Hid (Below w.heap.size w w1) := Lib.hid (below_call HB0 HB0.size hb1)
  have hBq__ := heap_keep' hb1 hBq_
  have hBm__ := heap_keep' hb1 hBm_
  have hBx__ := heap_keep' hb1 hBx_
  clear hb1 HB0 HB hBq_ HBq cBq fBq zBq hBm_ HBm cBm fBm zBm hBx_ HBx cBx fBx zBx
  clear hW
  obtain ⟨wd, rfl⟩ : ∃ x : World, x = w1 := ⟨_, rfl⟩
  have HB := HBn; clear HBn
  have HBq := Lib.hid hBq__; have cBq := cells4 hBq__; have fBq := frozen_of hBq__; have zBq := lt_of_heap hBq__; clear hBq__
  have HBm := Lib.hid hBm__; have cBm := cells4 hBm__; have fBm := frozen_of hBm__; have zBm := lt_of_heap hBm__; clear hBm__
  have HBx := Lib.hid hBx__; have cBx := cells4 hBx__; have fBx := frozen_of hBx__; have zBx := lt_of_heap hBx__; clear hBx__
  go_wp2
  go_ret
  refine ⟨rfl, ?_⟩
  have hB0 := HB.out; have hS0 := hB0.size; first | exact hB0 | go_grown

end Go.Proofs.Ytldnjbpcdojffaa
