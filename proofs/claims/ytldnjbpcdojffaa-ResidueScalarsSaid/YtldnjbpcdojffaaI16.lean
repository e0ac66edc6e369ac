/- @@NUM 25 The walk of law 08's ResidueScalars. Conditions: words are below 2^64. -/
import Derived.Test.YtldnjbpcdojffaaI15
import Derived.Test.YtldnjbpcdojffaaI6
import Derived.Test.YtldnjbpcdojffaaR28
namespace Go.Proofs.Ytldnjbpcdojffaa
set_option linter.unusedVariables false
set_option linter.unusedSimpArgs false
open Go Go.RowKit
open Pl (V V8 W4 T256 le bytesOf)
open Dg (nv dg Ok)

set_option maxHeartbeats 2000000 in
theorem Scalar_bad (a : Option Addr) (len cap : Nat) (hl : len ≤ 1048576) (hn : len < 1 ∨ 64 < len) (w : World) : Calls Try.prog 37 #[.slice a len cap] w fun e w' => e = .returned (.tuple #[.agg #[.int .u64 0, .int .u64 0, .int .u64 0, .int .u64 0], .int .i64 3]) ∧ Below w.heap.size w w' := by
  by_cases h1 : len < 1
  · obtain rfl : len = 0 := by omega
    go_enter Try.func37, Try.ntmps37
    go_wp2
    refine bodyPost_ret (v := .tuple #[.agg #[.int .u64 0, .int .u64 0, .int .u64 0, .int .u64 0], .int .i64 3]) (by simp [results, Try.results37, go_sem]) rfl ⟨rfl, ?_⟩
    go_grown
  · have h2 : ¬ (len : Int) < 1 := by omega
    have h3 : (64 : Int) < (len : Int) := by omega
    go_enter Try.func37, Try.ntmps37
    go_wp2
    refine bodyPost_ret (v := .tuple #[.agg #[.int .u64 0, .int .u64 0, .int .u64 0, .int .u64 0], .int .i64 3]) (by simp [results, Try.results37, go_sem]) rfl ⟨rfl, ?_⟩
    go_grown

set_option maxHeartbeats 8000000 in
theorem sc_C (n0 n1 n2 n3 m0 m1 m2 m3 x0 x1 x2 x3 s0 s1 s2 s3 t0 t1 t2 t3 : Nat) (zs : List Nat) (dn dm d1 e1 d2 e2 d3 e3 : List Int) (sa : Option Addr) (len cap : Nat) (w : World)
    (H0 : Hid (∀ w : World, Calls Try.prog 13 #[] w fun e w' => e = .returned (.bool true) ∧ Below w.heap.size w w'))
    (HRn : Hid (∀ w : World, Calls Try.prog 20 #[.agg #[.int .u64 n0, .int .u64 n1, .int .u64 n2, .int .u64 n3]] w fun e w' => (∃ v, e = .returned v ∧ RdI w'.heap.size w' v dn) ∧ Below w.heap.size w w'))
    (HRm : Hid (∀ w : World, Calls Try.prog 20 #[.agg #[.int .u64 m0, .int .u64 m1, .int .u64 m2, .int .u64 m3]] w fun e w' => (∃ v, e = .returned v ∧ RdI w'.heap.size w' v dm) ∧ Below w.heap.size w w'))
    (HP : Hid (∀ (sa sb : Value) (w : World), RdI w.heap.size w sa dn → RdI w.heap.size w sb dm → Calls Try.prog 40 #[sa, sb] w fun e w' => (∃ v, e = .returned v ∧ RdI w'.heap.size w' v d2) ∧ Below w.heap.size w w'))
    (HT : Hid (∀ (sa sb : Value) (w : World), RdI w.heap.size w sa dn → RdI w.heap.size w sb dm → Calls Try.prog 42 #[sa, sb] w fun e w' => (∃ v, e = .returned v ∧ RdI w'.heap.size w' v d3) ∧ Below w.heap.size w w'))
    (HM2 : Hid (∀ (sa sb : Value) (w : World), RdI w.heap.size w sa d2 → RdI w.heap.size w sb orderD → Calls Try.prog 38 #[sa, sb] w fun e w' => (∃ v, e = .returned v ∧ RdI w'.heap.size w' v e2) ∧ Below w.heap.size w w'))
    (HM3 : Hid (∀ (sa sb : Value) (w : World), RdI w.heap.size w sa d3 → RdI w.heap.size w sb orderD → Calls Try.prog 38 #[sa, sb] w fun e w' => (∃ v, e = .returned v ∧ RdI w'.heap.size w' v e3) ∧ Below w.heap.size w w'))
    (HI2 : Hid (∀ (sv : Value) (w : World), RdI w.heap.size w sv e2 → Calls Try.prog 16 #[.agg #[.int .u64 s0, .int .u64 s1, .int .u64 s2, .int .u64 s3], sv] w fun e w' => e = .returned (.bool true) ∧ Below w.heap.size w w'))
    (HI3 : Hid (∀ (sv : Value) (w : World), RdI w.heap.size w sv e3 → Calls Try.prog 16 #[.agg #[.int .u64 t0, .int .u64 t1, .int .u64 t2, .int .u64 t3], sv] w fun e w' => e = .returned (.bool true) ∧ Below w.heap.size w w'))
    (HSA : Hid (∀ w : World, Calls Try.prog 39 #[.agg #[.int .u64 n0, .int .u64 n1, .int .u64 n2, .int .u64 n3], .agg #[.int .u64 m0, .int .u64 m1, .int .u64 m2, .int .u64 m3]] w fun e w' => e = .returned (.agg #[.int .u64 s0, .int .u64 s1, .int .u64 s2, .int .u64 s3]) ∧ Below w.heap.size w w'))
    (HSM : Hid (∀ w : World, Calls Try.prog 41 #[.agg #[.int .u64 n0, .int .u64 n1, .int .u64 n2, .int .u64 n3], .agg #[.int .u64 m0, .int .u64 m1, .int .u64 m2, .int .u64 m3]] w fun e w' => e = .returned (.agg #[.int .u64 t0, .int .u64 t1, .int .u64 t2, .int .u64 t3]) ∧ Below w.heap.size w w'))
    (HI : Hid (Bts w.heap.size w (.slice sa len cap) zs)) (hl1 : ¬ (100 : Int) < (len : Int)) (hl2 : ¬ (len : Int) < 1) (hl3 : ¬ (64 : Int) < (len : Int))
    (HOf : Hid (∀ (sv : Value) (w : World), Bts w.heap.size w sv zs → Calls Try.prog 37 #[sv] w fun e w' => e = .returned (.tuple #[.agg #[.int .u64 x0, .int .u64 x1, .int .u64 x2, .int .u64 x3], .int .i64 0]) ∧ Below w.heap.size w w'))
    (HROf : Hid (∀ (sv : Value) (w : World), Bts w.heap.size w sv zs → Calls Try.prog 17 #[sv] w fun e w' => (∃ v, e = .returned v ∧ RdI w'.heap.size w' v d1) ∧ Below w.heap.size w w'))
    (HM1 : Hid (∀ (sa sb : Value) (w : World), RdI w.heap.size w sa d1 → RdI w.heap.size w sb orderD → Calls Try.prog 38 #[sa, sb] w fun e w' => (∃ v, e = .returned v ∧ RdI w'.heap.size w' v e1) ∧ Below w.heap.size w w'))
    (HI1 : Hid (∀ (sv : Value) (w : World), RdI w.heap.size w sv e1 → Calls Try.prog 16 #[.agg #[.int .u64 x0, .int .u64 x1, .int .u64 x2, .int .u64 x3], sv] w fun e w' => e = .returned (.bool true) ∧ Below w.heap.size w w')) : Calls Try.prog 11 #[.slice sa len cap, .agg #[.int .u64 n0, .int .u64 n1, .int .u64 n2, .int .u64 n3], .agg #[.int .u64 m0, .int .u64 m1, .int .u64 m2, .int .u64 m3]] w fun e w' => e = .returned (.bool true) ∧ Below w.heap.size w w' := by
  have HOr := Lib.hid ROrder_fact
  go_enter Try.func11, Try.ntmps11
  go_wp2_with (fail)
  go_at_call 13
  refine (H0.out _).mono ?_
  rintro e wa ⟨rfl, hb⟩
  have HBn : Hid (Below w.heap.size w wa) := Lib.hid ((fun (h : Below _ _ _) => below_call h h.size hb) (by first | go_grown))
  have hBq_ : wa.heap[w.heap.size]? = some (.cells #[.int .u64 n0, .int .u64 n1, .int .u64 n2, .int .u64 n3] 25 (0, 0)) := heap_keep' hb (by repeat (first | (with_reducible refine heap_new' ?_ _; simp; done) | (with_reducible refine keep4 ?_ (by omega) _ _ _ _) | (with_reducible refine heap_old ?_ _) | (with_reducible refine heap_drew ?_) | (with_reducible refine heap_set_ne ?_ (by simp <;> omega) _)))
  have hBm_ : wa.heap[w.heap.size + 1]? = some (.cells #[.int .u64 m0, .int .u64 m1, .int .u64 m2, .int .u64 m3] 25 (0, 0)) := heap_keep' hb (by repeat (first | (with_reducible refine heap_new' ?_ _; simp; done) | (with_reducible refine keep4 ?_ (by omega) _ _ _ _) | (with_reducible refine heap_old ?_ _) | (with_reducible refine heap_drew ?_) | (with_reducible refine heap_set_ne ?_ (by simp <;> omega) _)))
  clear hb
  have HB := HBn; clear HBn
  have HBq := Lib.hid hBq_; have cBq := cells4 hBq_; have fBq := frozen_of hBq_; have zBq := lt_of_heap hBq_; clear hBq_
  have HBm := Lib.hid hBm_; have cBm := cells4 hBm_; have fBm := frozen_of hBm_; have zBm := lt_of_heap hBm_; clear hBm_
  go_wp2_with (fail)
  go_at_call 33
  refine (HOr.out _).mono ?_
  rintro e wb ⟨⟨vo, rfl, hvo⟩, hb⟩
  have HBn : Hid (Below w.heap.size w wb) := Lib.hid ((fun (h : Below _ _ _) => below_call h h.size hb) (by have hB0 := HB.out; have hS0 := hB0.size; first | (with_reducible exact hB0) | (with_reducible exact set4_below hB0 (by omega) _ _ _ _) | (with_reducible exact set4_below (set4_below hB0 (by omega) _ _ _ _) (by omega) _ _ _ _) | (with_reducible exact set4_below (set4_below (set4_below (set4_below hB0 (by omega) _ _ _ _) (by omega) _ _ _ _) (by omega) _ _ _ _) (by omega) _ _ _ _) | go_grown))
  have hBq_ : wb.heap[w.heap.size]? = some (.cells #[.int .u64 n0, .int .u64 n1, .int .u64 n2, .int .u64 n3] 25 (0, 0)) := heap_keep' hb (by repeat (first | (with_reducible exact HBq.out) | (with_reducible exact set4 HBq.out _ _ _ _) | (with_reducible apply set4) | (with_reducible refine heap_new' ?_ _; simp; done) | (with_reducible refine keep4 ?_ (by omega) _ _ _ _) | (with_reducible refine heap_old ?_ _) | (with_reducible refine heap_drew ?_) | (with_reducible refine heap_set_ne ?_ (by simp <;> omega) _)))
  have hBm_ : wb.heap[w.heap.size + 1]? = some (.cells #[.int .u64 m0, .int .u64 m1, .int .u64 m2, .int .u64 m3] 25 (0, 0)) := heap_keep' hb (by repeat (first | (with_reducible exact HBm.out) | (with_reducible exact set4 HBm.out _ _ _ _) | (with_reducible apply set4) | (with_reducible refine heap_new' ?_ _; simp; done) | (with_reducible refine keep4 ?_ (by omega) _ _ _ _) | (with_reducible refine heap_old ?_ _) | (with_reducible refine heap_drew ?_) | (with_reducible refine heap_set_ne ?_ (by simp <;> omega) _)))
  clear hb HB HBq cBq fBq zBq HBm cBm fBm zBm
  have HB := HBn; clear HBn
  have HBq := Lib.hid hBq_; have cBq := cells4 hBq_; have fBq := frozen_of hBq_; have zBq := lt_of_heap hBq_; clear hBq_
  have HBm := Lib.hid hBm_; have cBm := cells4 hBm_; have fBm := frozen_of hBm_; have zBm := lt_of_heap hBm_; clear hBm_
  obtain ⟨ao, co, eo⟩ := hvo.some
  subst eo
  have HOrd := Lib.hid hvo
  clear hvo
  go_wp2_with (fail)
  go_at_call 37
  refine (HOf.out _ _ ((HI.out.below HB.out).up HB.out.size)).mono ?_
  rintro e wc ⟨rfl, hb⟩; have HOrd2 := Lib.hid ((HOrd.out.next (by go_grown)).next hb); clear HOrd; have HOrd := HOrd2; clear HOrd2
  have HBn : Hid (Below w.heap.size w wc) := Lib.hid ((fun (h : Below _ _ _) => below_call h h.size hb) (by have hB0 := HB.out; have hS0 := hB0.size; first | (with_reducible exact hB0) | (with_reducible exact set4_below hB0 (by omega) _ _ _ _) | (with_reducible exact set4_below (set4_below hB0 (by omega) _ _ _ _) (by omega) _ _ _ _) | (with_reducible exact set4_below (set4_below (set4_below (set4_below hB0 (by omega) _ _ _ _) (by omega) _ _ _ _) (by omega) _ _ _ _) (by omega) _ _ _ _) | go_grown))
  have hBq_ : wc.heap[w.heap.size]? = some (.cells #[.int .u64 n0, .int .u64 n1, .int .u64 n2, .int .u64 n3] 25 (0, 0)) := heap_keep' hb (by repeat (first | (with_reducible exact HBq.out) | (with_reducible exact set4 HBq.out _ _ _ _) | (with_reducible apply set4) | (with_reducible refine heap_new' ?_ _; simp; done) | (with_reducible refine keep4 ?_ (by omega) _ _ _ _) | (with_reducible refine heap_old ?_ _) | (with_reducible refine heap_drew ?_) | (with_reducible refine heap_set_ne ?_ (by simp <;> omega) _)))
  have hBm_ : wc.heap[w.heap.size + 1]? = some (.cells #[.int .u64 m0, .int .u64 m1, .int .u64 m2, .int .u64 m3] 25 (0, 0)) := heap_keep' hb (by repeat (first | (with_reducible exact HBm.out) | (with_reducible exact set4 HBm.out _ _ _ _) | (with_reducible apply set4) | (with_reducible refine heap_new' ?_ _; simp; done) | (with_reducible refine keep4 ?_ (by omega) _ _ _ _) | (with_reducible refine heap_old ?_ _) | (with_reducible refine heap_drew ?_) | (with_reducible refine heap_set_ne ?_ (by simp <;> omega) _)))
  clear hb HB HBq cBq fBq zBq HBm cBm fBm zBm
  have HB := HBn; clear HBn
  have HBq := Lib.hid hBq_; have cBq := cells4 hBq_; have fBq := frozen_of hBq_; have zBq := lt_of_heap hBq_; clear hBq_
  have HBm := Lib.hid hBm_; have cBm := cells4 hBm_; have fBm := frozen_of hBm_; have zBm := lt_of_heap hBm_; clear hBm_
  go_wp2
  refine Rg.region_ (n := 74) [0, 1, 3, 7, 7, 23, 7, 119, 255, 511, 1023] [0, 0, 0, 1, 0, 1, 0, 1, 1, 0, 0] [39, 40, 41, 42, 43, 44, 45, 46, 47, 48, 49] [[(9, none)], [(39, some 0)], [(40, some 1)], [(8, none), (41, some 2)], [(0, none), (41, some 2)], [(43, some 4), (41, some 2)], [(7, none), (41, some 2)], [(44, some 5), (45, some 6), (41, some 2)], [(42, some 3), (46, some 7), (41, some 2)], [(47, some 8), (41, some 2)], [(41, some 2), (48, some 9)]] 11 (by kernel_rfl) (by kernel_rfl) (by rfl) ?_
  intro W hW
  have hBq_ : W.heap[w.heap.size]? = some (.cells #[.int .u64 n0, .int .u64 n1, .int .u64 n2, .int .u64 n3] 25 (0, 0)) := by rw [hW]; exact (by repeat (first | (with_reducible exact HBq.out) | (with_reducible exact set4 HBq.out _ _ _ _) | (with_reducible apply set4) | (with_reducible refine heap_new' ?_ _; simp; done) | (with_reducible refine keep4 ?_ (by omega) _ _ _ _) | (with_reducible refine heap_old ?_ _) | (with_reducible refine heap_drew ?_) | (with_reducible refine heap_set_ne ?_ (by simp <;> omega) _)))
  have hBm_ : W.heap[w.heap.size + 1]? = some (.cells #[.int .u64 m0, .int .u64 m1, .int .u64 m2, .int .u64 m3] 25 (0, 0)) := by rw [hW]; exact (by repeat (first | (with_reducible exact HBm.out) | (with_reducible exact set4 HBm.out _ _ _ _) | (with_reducible apply set4) | (with_reducible refine heap_new' ?_ _; simp; done) | (with_reducible refine keep4 ?_ (by omega) _ _ _ _) | (with_reducible refine heap_old ?_ _) | (with_reducible refine heap_drew ?_) | (with_reducible refine heap_set_ne ?_ (by simp <;> omega) _)))
  have hBx_ : W.heap[wc.heap.size]? = some (.cells #[.int .u64 x0, .int .u64 x1, .int .u64 x2, .int .u64 x3] 25 (0, 0)) := by rw [hW]; exact (by repeat (first | (with_reducible refine heap_new' ?_ _; simp; done) | (with_reducible refine keep4 ?_ (by omega) _ _ _ _) | (with_reducible refine heap_old ?_ _) | (with_reducible refine heap_drew ?_) | (with_reducible refine heap_set_ne ?_ (by simp <;> omega) _)))
  have HB0 : Below w.heap.size w W := by rw [hW]; have hB0 := HB.out; have hS0 := hB0.size; first | exact hB0.drew | exact (set4_below hB0 (by omega) _ _ _ _).drew | go_grown
  have HOW : RdI W.heap.size W (.slice ao orderD.length co) orderD := by rw [hW]; exact HOrd.out.next (by go_grown)
  change Rg.Chain' _ _ _ _ _ [(0, 0, 39, [(9, none)]), (1, 0, 40, [(39, some 0)]), (2, 0, 41, [(40, some 1)]), (3, 1, 42, [(8, none), (41, some 2)]), (4, 0, 43, [(0, none), (41, some 2)]), (5, 1, 44, [(43, some 4), (41, some 2)]), (6, 0, 45, [(7, none), (41, some 2)]), (7, 1, 46, [(44, some 5), (45, some 6), (41, some 2)]), (8, 1, 47, [(42, some 3), (46, some 7), (41, some 2)]), (9, 0, 48, [(47, some 8), (41, some 2)]), (10, 0, 49, [(41, some 2), (48, some 9)])] [(0, 0, 39, [(9, none)]), (1, 0, 40, [(39, some 0)]), (2, 0, 41, [(40, some 1)]), (3, 1, 42, [(8, none), (41, some 2)]), (4, 0, 43, [(0, none), (41, some 2)]), (5, 1, 44, [(43, some 4), (41, some 2)]), (6, 0, 45, [(7, none), (41, some 2)]), (7, 1, 46, [(44, some 5), (45, some 6), (41, some 2)]), (8, 1, 47, [(42, some 3), (46, some 7), (41, some 2)]), (9, 0, 48, [(47, some 8), (41, some 2)]), (10, 0, 49, [(41, some 2), (48, some 9)])] _
  apply Rg.ch_pure (by rfl)
  · rintro a w1 ⟨e9, -⟩
    conv at e9 => rhs; whnf
    have n9 := e9
    simp only [Act.eval, Array.getD_eq_getD_getElem?] at n9
    apply Rg.yields_run (Rg.wanted_none (by rfl))
    intro w2
    conv => lhs; simp [go_sem, n9]
  apply Rg.ch_pure (by rfl)
  · rintro a w1 ⟨e39, -⟩
    replace e39 : a.eval (.tmp 39) = _ := e39
    have n39 := e39
    simp only [Act.eval, Array.getD_eq_getD_getElem?] at n39
    apply Rg.yields_run (Rg.wanted_none (by rfl))
    intro w2
    conv => lhs; simp [go_sem, n39]
  apply Rg.ch_pure (by rfl)
  · rintro a w1 ⟨e40, -⟩
    replace e40 : a.eval (.tmp 40) = _ := e40
    have n40 := e40
    simp only [Act.eval, Array.getD_eq_getD_getElem?] at n40
    apply Rg.yields_run (Rg.wanted_none (by rfl))
    intro w2
    conv => lhs; simp [go_sem, n40]
  apply Rg.ch_def (by rfl) (fun a w1 h => by obtain ⟨-, e41, -⟩ := h; exact Rg.wanted_some (by rfl) (by rfl) e41)
  · rintro a w1 hb ⟨e8, e41, -⟩
    conv at e8 => rhs; whnf
    have n8 := e8
    simp only [Act.eval, Array.getD_eq_getD_getElem?] at n8
    replace e41 : a.eval (.tmp 41) = _ := e41
    have n41 := e41
    simp only [Act.eval, Array.getD_eq_getD_getElem?] at n41
    apply Rg.gives_value
    · conv => lhs; simp [go_sem, n8, n41, cells4 (heap_keep' hb hBq_), cells4 (heap_keep' hb hBm_), cells4 (heap_keep' hb hBx_)]
    · exact ⟨rfl, Below.refl _ _⟩
  apply Rg.ch_pure (by rfl)
  · rintro a w1 ⟨e0, e41, -⟩
    conv at e0 => rhs; whnf
    have n0 := e0
    simp only [Act.eval, Array.getD_eq_getD_getElem?] at n0
    replace e41 : a.eval (.tmp 41) = _ := e41
    have n41 := e41
    simp only [Act.eval, Array.getD_eq_getD_getElem?] at n41
    apply Rg.yields_run (Rg.wanted_some (by rfl) (by rfl) e41)
    intro w2
    conv => lhs; simp [go_sem, n0, n41]
  apply Rg.ch_rel (fun w v => RdI w.heap.size w v d1) (stable_rdi _) (by rfl) (fun a w1 h => by obtain ⟨-, e41, -⟩ := h; exact Rg.wanted_some (by rfl) (by rfl) e41)
  · rintro a w1 hb ⟨e43, e41, -⟩
    replace e43 : a.eval (.tmp 43) = _ := e43
    replace e41 : a.eval (.tmp 41) = _ := e41
    apply Rg.gives_enter
    · apply run_call Try.func17 (by kernel_rfl) rfl _ (by rfl)
      conv => lhs; simp only [List.map_toArray, List.map_cons, List.map_nil, eval_const_, eval_global_, e43]
    · refine (HROf.out _ _ ((HI.out.below (HB0.trans (hb.mono HB0.size))).up (Nat.le_trans HB0.size hb.size))).mono ?_
      rintro e w2 ⟨⟨v, rfl, hv⟩, hb2⟩
      exact ⟨_, rfl, hv, hb2⟩
  apply Rg.ch_pure (by rfl)
  · rintro a w1 ⟨e7, e41, -⟩
    conv at e7 => rhs; whnf
    have n7 := e7
    simp only [Act.eval, Array.getD_eq_getD_getElem?] at n7
    replace e41 : a.eval (.tmp 41) = _ := e41
    have n41 := e41
    simp only [Act.eval, Array.getD_eq_getD_getElem?] at n41
    apply Rg.yields_run (Rg.wanted_some (by rfl) (by rfl) e41)
    intro w2
    conv => lhs; simp [go_sem, n7, n41]
  apply Rg.ch_rel (fun w v => RdI w.heap.size w v e1) (stable_rdi _) (by rfl) (fun a w1 h => by obtain ⟨-, -, e41, -⟩ := h; exact Rg.wanted_some (by rfl) (by rfl) e41)
  · rintro a w1 hb ⟨e44, e45, e41, -⟩
    replace e44 : (fun w v => RdI w.heap.size w v d1) w1 (a.eval (.tmp 44)) := e44
    replace e45 : a.eval (.tmp 45) = _ := e45
    replace e41 : a.eval (.tmp 41) = _ := e41
    apply Rg.gives_enter
    · apply run_call Try.func38 (by kernel_rfl) rfl _ (by rfl)
      conv => lhs; simp only [List.map_toArray, List.map_cons, List.map_nil, eval_const_, eval_global_, e45]
    · refine (HM1.out _ _ _ e44 (HOW.next hb)).mono ?_
      rintro e w2 ⟨⟨v, rfl, hv⟩, hb2⟩
      exact ⟨_, rfl, hv, hb2⟩
  apply Rg.ch_def (by rfl) (fun a w1 h => by obtain ⟨-, -, e41, -⟩ := h; exact Rg.wanted_some (by rfl) (by rfl) e41)
  · rintro a w1 hb ⟨e42, e46, e41, -⟩
    replace e42 : a.eval (.tmp 42) = _ := e42
    replace e46 : (fun w v => RdI w.heap.size w v e1) w1 (a.eval (.tmp 46)) := e46
    replace e41 : a.eval (.tmp 41) = _ := e41
    apply Rg.gives_enter
    · apply run_call Try.func16 (by kernel_rfl) rfl _ (by rfl)
      conv => lhs; simp only [List.map_toArray, List.map_cons, List.map_nil, eval_const_, eval_global_, e42]
    · refine (HI1.out _ _ e46).mono ?_
      rintro e w2 ⟨rfl, hb2⟩
      exact ⟨_, rfl, rfl, hb2⟩
  apply Rg.ch_pure (by rfl)
  · rintro a w1 ⟨e47, e41, -⟩
    replace e47 : a.eval (.tmp 47) = _ := e47
    have n47 := e47
    simp only [Act.eval, Array.getD_eq_getD_getElem?] at n47
    replace e41 : a.eval (.tmp 41) = _ := e41
    have n41 := e41
    simp only [Act.eval, Array.getD_eq_getD_getElem?] at n41
    apply Rg.yields_run (Rg.wanted_some (by rfl) (by rfl) e41)
    intro w2
    conv => lhs; simp [go_sem, n47, n41]
  apply Rg.ch_pure (by rfl)
  · rintro a w1 ⟨e41, e48, -⟩
    replace e41 : a.eval (.tmp 41) = _ := e41
    have n41 := e41
    simp only [Act.eval, Array.getD_eq_getD_getElem?] at n41
    replace e48 : a.eval (.tmp 48) = _ := e48
    have n48 := e48
    simp only [Act.eval, Array.getD_eq_getD_getElem?] at n48
    apply Rg.yields_run (Rg.wanted_none (by rfl))
    intro w2
    conv => lhs; simp [go_sem, n41, n48]
  intro w1 hb1
  rintro _ rfl _ rfl _ rfl _ rfl _ rfl v44 hv44 _ rfl v46 hv46 _ rfl _ rfl _ rfl
  change Go.wpList _ _ _ _ _ _
  set_option maxRecDepth 100000 in simp only [List.drop_succ_cons, List.drop_zero, List.drop_nil, Act.put, List.setIfInBounds_toArray, List.set_cons_succ, List.set_cons_zero]
  change Go.NoPanic _ _ _ _
  refine NoPanic.normal ?_
  have HBn : Hid (Below w.heap.size w w1) := Lib.hid (below_call HB0 HB0.size hb1)
  have hBq__ := heap_keep' hb1 hBq_
  have hBm__ := heap_keep' hb1 hBm_
  have hBx__ := heap_keep' hb1 hBx_
  have HOrd2 := Lib.hid (HOW.next hb1)
  clear hb1 HB0 HB hBq_ HBq cBq fBq zBq hBm_ HBm cBm fBm zBm hBx_
  clear hW
  obtain ⟨wd, rfl⟩ : ∃ x : World, x = w1 := ⟨_, rfl⟩
  have HB := HBn; clear HBn
  have HBq := Lib.hid hBq__; have cBq := cells4 hBq__; have fBq := frozen_of hBq__; have zBq := lt_of_heap hBq__; clear hBq__
  have HBm := Lib.hid hBm__; have cBm := cells4 hBm__; have fBm := frozen_of hBm__; have zBm := lt_of_heap hBm__; clear hBm__
  have HBx := Lib.hid hBx__; have cBx := cells4 hBx__; have fBx := frozen_of hBx__; have zBx := lt_of_heap hBx__; clear hBx__
  clear HOrd HOW
  have HOrd := HOrd2; clear HOrd2
  go_wp2
  refine Rg.region_ (n := 74) [0, 0, 3, 0, 15, 0, 63, 127, 0, 511, 1023, 2047, 4095, 4095, 16383, 4095, 65535, 4095, 262143, 524287, 4095, 2097151, 4194303, 8388607, 16777215] [1, 1, 1, 1, 1, 1, 1, 1, 0, 1, 1, 0, 1, 1, 1, 1, 1, 1, 1, 1, 0, 1, 1, 0, 0] [50, 51, 52, 53, 54, 55, 56, 57, 58, 59, 60, 61, 62, 63, 64, 65, 66, 67, 68, 69, 70, 71, 72, 73, 6] [[(4, none)], [(5, none)], [(50, some 0), (51, some 1)], [(4, none)], [(53, some 3)], [(5, none)], [(55, some 5)], [(54, some 4), (56, some 6)], [(7, none)], [(57, some 7), (58, some 8)], [(52, some 2), (59, some 9)], [(60, some 10)], [(4, none), (61, some 11)], [(5, none), (61, some 11)], [(62, some 12), (63, some 13), (61, some 11)], [(4, none), (61, some 11)], [(65, some 15), (61, some 11)], [(5, none), (61, some 11)], [(67, some 17), (61, some 11)], [(66, some 16), (68, some 18), (61, some 11)], [(7, none), (61, some 11)], [(69, some 19), (70, some 20), (61, some 11)], [(64, some 14), (71, some 21), (61, some 11)], [(61, some 11), (72, some 22)], [(73, some 23)]] 25 (by kernel_rfl) (by kernel_rfl) (by rfl) ?_
  intro W hW
  have hBq_ : W.heap[w.heap.size]? = some (.cells #[.int .u64 n0, .int .u64 n1, .int .u64 n2, .int .u64 n3] 25 (0, 0)) := by rw [hW]; exact (by repeat (first | (with_reducible exact HBq.out) | (with_reducible exact set4 HBq.out _ _ _ _) | (with_reducible apply set4) | (with_reducible refine heap_new' ?_ _; simp; done) | (with_reducible refine keep4 ?_ (by omega) _ _ _ _) | (with_reducible refine heap_old ?_ _) | (with_reducible refine heap_drew ?_) | (with_reducible refine heap_set_ne ?_ (by simp <;> omega) _)))
  have hBm_ : W.heap[w.heap.size + 1]? = some (.cells #[.int .u64 m0, .int .u64 m1, .int .u64 m2, .int .u64 m3] 25 (0, 0)) := by rw [hW]; exact (by repeat (first | (with_reducible exact HBm.out) | (with_reducible exact set4 HBm.out _ _ _ _) | (with_reducible apply set4) | (with_reducible refine heap_new' ?_ _; simp; done) | (with_reducible refine keep4 ?_ (by omega) _ _ _ _) | (with_reducible refine heap_old ?_ _) | (with_reducible refine heap_drew ?_) | (with_reducible refine heap_set_ne ?_ (by simp <;> omega) _)))
  have hBx_ : W.heap[wc.heap.size]? = some (.cells #[.int .u64 x0, .int .u64 x1, .int .u64 x2, .int .u64 x3] 25 (0, 0)) := by rw [hW]; exact (by repeat (first | (with_reducible exact HBx.out) | (with_reducible exact set4 HBx.out _ _ _ _) | (with_reducible apply set4) | (with_reducible refine heap_new' ?_ _; simp; done) | (with_reducible refine keep4 ?_ (by omega) _ _ _ _) | (with_reducible refine heap_old ?_ _) | (with_reducible refine heap_drew ?_) | (with_reducible refine heap_set_ne ?_ (by simp <;> omega) _)))
  have HB0 : Below w.heap.size w W := by rw [hW]; have hB0 := HB.out; have hS0 := hB0.size; first | exact hB0.drew | exact (set4_below hB0 (by omega) _ _ _ _).drew | go_grown
  have HOW : RdI W.heap.size W (.slice ao orderD.length co) orderD := by rw [hW]; exact HOrd.out.next (by first | exact (Below.refl _ _).drew | go_grown)
  change Rg.Chain' _ _ _ _ _ [(0, 1, 50, [(4, none)]), (1, 1, 51, [(5, none)]), (2, 1, 52, [(50, some 0), (51, some 1)]), (3, 1, 53, [(4, none)]), (4, 1, 54, [(53, some 3)]), (5, 1, 55, [(5, none)]), (6, 1, 56, [(55, some 5)]), (7, 1, 57, [(54, some 4), (56, some 6)]), (8, 0, 58, [(7, none)]), (9, 1, 59, [(57, some 7), (58, some 8)]), (10, 1, 60, [(52, some 2), (59, some 9)]), (11, 0, 61, [(60, some 10)]), (12, 1, 62, [(4, none), (61, some 11)]), (13, 1, 63, [(5, none), (61, some 11)]), (14, 1, 64, [(62, some 12), (63, some 13), (61, some 11)]), (15, 1, 65, [(4, none), (61, some 11)]), (16, 1, 66, [(65, some 15), (61, some 11)]), (17, 1, 67, [(5, none), (61, some 11)]), (18, 1, 68, [(67, some 17), (61, some 11)]), (19, 1, 69, [(66, some 16), (68, some 18), (61, some 11)]), (20, 0, 70, [(7, none), (61, some 11)]), (21, 1, 71, [(69, some 19), (70, some 20), (61, some 11)]), (22, 1, 72, [(64, some 14), (71, some 21), (61, some 11)]), (23, 0, 73, [(61, some 11), (72, some 22)]), (24, 0, 6, [(73, some 23)])] [(0, 1, 50, [(4, none)]), (1, 1, 51, [(5, none)]), (2, 1, 52, [(50, some 0), (51, some 1)]), (3, 1, 53, [(4, none)]), (4, 1, 54, [(53, some 3)]), (5, 1, 55, [(5, none)]), (6, 1, 56, [(55, some 5)]), (7, 1, 57, [(54, some 4), (56, some 6)]), (8, 0, 58, [(7, none)]), (9, 1, 59, [(57, some 7), (58, some 8)]), (10, 1, 60, [(52, some 2), (59, some 9)]), (11, 0, 61, [(60, some 10)]), (12, 1, 62, [(4, none), (61, some 11)]), (13, 1, 63, [(5, none), (61, some 11)]), (14, 1, 64, [(62, some 12), (63, some 13), (61, some 11)]), (15, 1, 65, [(4, none), (61, some 11)]), (16, 1, 66, [(65, some 15), (61, some 11)]), (17, 1, 67, [(5, none), (61, some 11)]), (18, 1, 68, [(67, some 17), (61, some 11)]), (19, 1, 69, [(66, some 16), (68, some 18), (61, some 11)]), (20, 0, 70, [(7, none), (61, some 11)]), (21, 1, 71, [(69, some 19), (70, some 20), (61, some 11)]), (22, 1, 72, [(64, some 14), (71, some 21), (61, some 11)]), (23, 0, 73, [(61, some 11), (72, some 22)]), (24, 0, 6, [(73, some 23)])] _
  apply Rg.ch_def (by rfl) (fun a w1 _ => Rg.wanted_none (by rfl))
  · rintro a w1 hb ⟨e4, -⟩
    conv at e4 => rhs; whnf
    have n4 := e4
    simp only [Act.eval, Array.getD_eq_getD_getElem?] at n4
    apply Rg.gives_value
    · conv => lhs; simp [go_sem, n4, cells4 (heap_keep' hb hBq_), cells4 (heap_keep' hb hBm_), cells4 (heap_keep' hb hBx_)]
    · exact ⟨rfl, Below.refl _ _⟩
  apply Rg.ch_def (by rfl) (fun a w1 _ => Rg.wanted_none (by rfl))
  · rintro a w1 hb ⟨e5, -⟩
    conv at e5 => rhs; whnf
    have n5 := e5
    simp only [Act.eval, Array.getD_eq_getD_getElem?] at n5
    apply Rg.gives_value
    · conv => lhs; simp [go_sem, n5, cells4 (heap_keep' hb hBq_), cells4 (heap_keep' hb hBm_), cells4 (heap_keep' hb hBx_)]
    · exact ⟨rfl, Below.refl _ _⟩
  apply Rg.ch_def (by rfl) (fun a w1 _ => Rg.wanted_none (by rfl))
  · rintro a w1 hb ⟨e50, e51, -⟩
    replace e50 : a.eval (.tmp 50) = _ := e50
    replace e51 : a.eval (.tmp 51) = _ := e51
    apply Rg.gives_enter
    · apply run_call Try.func39 (by kernel_rfl) rfl _ (by rfl)
      conv => lhs; simp only [List.map_toArray, List.map_cons, List.map_nil, eval_const_, eval_global_, e50, e51]
    · refine (HSA.out _).mono ?_
      rintro e w2 ⟨rfl, hb2⟩
      exact ⟨_, rfl, rfl, hb2⟩
  apply Rg.ch_def (by rfl) (fun a w1 _ => Rg.wanted_none (by rfl))
  · rintro a w1 hb ⟨e4, -⟩
    conv at e4 => rhs; whnf
    have n4 := e4
    simp only [Act.eval, Array.getD_eq_getD_getElem?] at n4
    apply Rg.gives_value
    · conv => lhs; simp [go_sem, n4, cells4 (heap_keep' hb hBq_), cells4 (heap_keep' hb hBm_), cells4 (heap_keep' hb hBx_)]
    · exact ⟨rfl, Below.refl _ _⟩
  apply Rg.ch_rel (fun w v => RdI w.heap.size w v dn) (stable_rdi _) (by rfl) (fun a w1 _ => Rg.wanted_none (by rfl))
  · rintro a w1 hb ⟨e53, -⟩
    replace e53 : a.eval (.tmp 53) = _ := e53
    apply Rg.gives_enter
    · apply run_call Try.func20 (by kernel_rfl) rfl _ (by rfl)
      conv => lhs; simp only [List.map_toArray, List.map_cons, List.map_nil, eval_const_, eval_global_, e53]
    · refine (HRn.out _).mono ?_
      rintro e w2 ⟨⟨v, rfl, hv⟩, hb2⟩
      exact ⟨_, rfl, hv, hb2⟩
  apply Rg.ch_def (by rfl) (fun a w1 _ => Rg.wanted_none (by rfl))
  · rintro a w1 hb ⟨e5, -⟩
    conv at e5 => rhs; whnf
    have n5 := e5
    simp only [Act.eval, Array.getD_eq_getD_getElem?] at n5
    apply Rg.gives_value
    · conv => lhs; simp [go_sem, n5, cells4 (heap_keep' hb hBq_), cells4 (heap_keep' hb hBm_), cells4 (heap_keep' hb hBx_)]
    · exact ⟨rfl, Below.refl _ _⟩
  apply Rg.ch_rel (fun w v => RdI w.heap.size w v dm) (stable_rdi _) (by rfl) (fun a w1 _ => Rg.wanted_none (by rfl))
  · rintro a w1 hb ⟨e55, -⟩
    replace e55 : a.eval (.tmp 55) = _ := e55
    apply Rg.gives_enter
    · apply run_call Try.func20 (by kernel_rfl) rfl _ (by rfl)
      conv => lhs; simp only [List.map_toArray, List.map_cons, List.map_nil, eval_const_, eval_global_, e55]
    · refine (HRm.out _).mono ?_
      rintro e w2 ⟨⟨v, rfl, hv⟩, hb2⟩
      exact ⟨_, rfl, hv, hb2⟩
  apply Rg.ch_rel (fun w v => RdI w.heap.size w v d2) (stable_rdi _) (by rfl) (fun a w1 _ => Rg.wanted_none (by rfl))
  · rintro a w1 hb ⟨e54, e56, -⟩
    replace e54 : (fun w v => RdI w.heap.size w v dn) w1 (a.eval (.tmp 54)) := e54
    replace e56 : (fun w v => RdI w.heap.size w v dm) w1 (a.eval (.tmp 56)) := e56
    apply Rg.gives_enter
    · apply run_call Try.func40 (by kernel_rfl) rfl _ (by rfl)
      conv => lhs; simp only [List.map_toArray, List.map_cons, List.map_nil, eval_const_, eval_global_]
    · refine (HP.out _ _ _ e54 e56).mono ?_
      rintro e w2 ⟨⟨v, rfl, hv⟩, hb2⟩
      exact ⟨_, rfl, hv, hb2⟩
  apply Rg.ch_pure (by rfl)
  · rintro a w1 ⟨e7, -⟩
    conv at e7 => rhs; whnf
    have n7 := e7
    simp only [Act.eval, Array.getD_eq_getD_getElem?] at n7
    apply Rg.yields_run (Rg.wanted_none (by rfl))
    intro w2
    conv => lhs; simp [go_sem, n7]
  apply Rg.ch_rel (fun w v => RdI w.heap.size w v e2) (stable_rdi _) (by rfl) (fun a w1 _ => Rg.wanted_none (by rfl))
  · rintro a w1 hb ⟨e57, e58, -⟩
    replace e57 : (fun w v => RdI w.heap.size w v d2) w1 (a.eval (.tmp 57)) := e57
    replace e58 : a.eval (.tmp 58) = _ := e58
    apply Rg.gives_enter
    · apply run_call Try.func38 (by kernel_rfl) rfl _ (by rfl)
      conv => lhs; simp only [List.map_toArray, List.map_cons, List.map_nil, eval_const_, eval_global_, e58]
    · refine (HM2.out _ _ _ e57 (HOW.next hb)).mono ?_
      rintro e w2 ⟨⟨v, rfl, hv⟩, hb2⟩
      exact ⟨_, rfl, hv, hb2⟩
  apply Rg.ch_def (by rfl) (fun a w1 _ => Rg.wanted_none (by rfl))
  · rintro a w1 hb ⟨e52, e59, -⟩
    replace e52 : a.eval (.tmp 52) = _ := e52
    replace e59 : (fun w v => RdI w.heap.size w v e2) w1 (a.eval (.tmp 59)) := e59
    apply Rg.gives_enter
    · apply run_call Try.func16 (by kernel_rfl) rfl _ (by rfl)
      conv => lhs; simp only [List.map_toArray, List.map_cons, List.map_nil, eval_const_, eval_global_, e52]
    · refine (HI2.out _ _ e59).mono ?_
      rintro e w2 ⟨rfl, hb2⟩
      exact ⟨_, rfl, rfl, hb2⟩
  apply Rg.ch_pure (by rfl)
  · rintro a w1 ⟨e60, -⟩
    replace e60 : a.eval (.tmp 60) = _ := e60
    have n60 := e60
    simp only [Act.eval, Array.getD_eq_getD_getElem?] at n60
    apply Rg.yields_run (Rg.wanted_none (by rfl))
    intro w2
    conv => lhs; simp [go_sem, n60]
  apply Rg.ch_def (by rfl) (fun a w1 h => by obtain ⟨-, e61, -⟩ := h; exact Rg.wanted_some (by rfl) (by rfl) e61)
  · rintro a w1 hb ⟨e4, e61, -⟩
    conv at e4 => rhs; whnf
    have n4 := e4
    simp only [Act.eval, Array.getD_eq_getD_getElem?] at n4
    replace e61 : a.eval (.tmp 61) = _ := e61
    have n61 := e61
    simp only [Act.eval, Array.getD_eq_getD_getElem?] at n61
    apply Rg.gives_value
    · conv => lhs; simp [go_sem, n4, n61, cells4 (heap_keep' hb hBq_), cells4 (heap_keep' hb hBm_), cells4 (heap_keep' hb hBx_)]
    · exact ⟨rfl, Below.refl _ _⟩
  apply Rg.ch_def (by rfl) (fun a w1 h => by obtain ⟨-, e61, -⟩ := h; exact Rg.wanted_some (by rfl) (by rfl) e61)
  · rintro a w1 hb ⟨e5, e61, -⟩
    conv at e5 => rhs; whnf
    have n5 := e5
    simp only [Act.eval, Array.getD_eq_getD_getElem?] at n5
    replace e61 : a.eval (.tmp 61) = _ := e61
    have n61 := e61
    simp only [Act.eval, Array.getD_eq_getD_getElem?] at n61
    apply Rg.gives_value
    · conv => lhs; simp [go_sem, n5, n61, cells4 (heap_keep' hb hBq_), cells4 (heap_keep' hb hBm_), cells4 (heap_keep' hb hBx_)]
    · exact ⟨rfl, Below.refl _ _⟩
  apply Rg.ch_def (by rfl) (fun a w1 h => by obtain ⟨-, -, e61, -⟩ := h; exact Rg.wanted_some (by rfl) (by rfl) e61)
  · rintro a w1 hb ⟨e62, e63, e61, -⟩
    replace e62 : a.eval (.tmp 62) = _ := e62
    replace e63 : a.eval (.tmp 63) = _ := e63
    replace e61 : a.eval (.tmp 61) = _ := e61
    apply Rg.gives_enter
    · apply run_call Try.func41 (by kernel_rfl) rfl _ (by rfl)
      conv => lhs; simp only [List.map_toArray, List.map_cons, List.map_nil, eval_const_, eval_global_, e62, e63]
    · refine (HSM.out _).mono ?_
      rintro e w2 ⟨rfl, hb2⟩
      exact ⟨_, rfl, rfl, hb2⟩
  apply Rg.ch_def (by rfl) (fun a w1 h => by obtain ⟨-, e61, -⟩ := h; exact Rg.wanted_some (by rfl) (by rfl) e61)
  · rintro a w1 hb ⟨e4, e61, -⟩
    conv at e4 => rhs; whnf
    have n4 := e4
    simp only [Act.eval, Array.getD_eq_getD_getElem?] at n4
    replace e61 : a.eval (.tmp 61) = _ := e61
    have n61 := e61
    simp only [Act.eval, Array.getD_eq_getD_getElem?] at n61
    apply Rg.gives_value
    · conv => lhs; simp [go_sem, n4, n61, cells4 (heap_keep' hb hBq_), cells4 (heap_keep' hb hBm_), cells4 (heap_keep' hb hBx_)]
    · exact ⟨rfl, Below.refl _ _⟩
  apply Rg.ch_rel (fun w v => RdI w.heap.size w v dn) (stable_rdi _) (by rfl) (fun a w1 h => by obtain ⟨-, e61, -⟩ := h; exact Rg.wanted_some (by rfl) (by rfl) e61)
  · rintro a w1 hb ⟨e65, e61, -⟩
    replace e65 : a.eval (.tmp 65) = _ := e65
    replace e61 : a.eval (.tmp 61) = _ := e61
    apply Rg.gives_enter
    · apply run_call Try.func20 (by kernel_rfl) rfl _ (by rfl)
      conv => lhs; simp only [List.map_toArray, List.map_cons, List.map_nil, eval_const_, eval_global_, e65]
    · refine (HRn.out _).mono ?_
      rintro e w2 ⟨⟨v, rfl, hv⟩, hb2⟩
      exact ⟨_, rfl, hv, hb2⟩
  apply Rg.ch_def (by rfl) (fun a w1 h => by obtain ⟨-, e61, -⟩ := h; exact Rg.wanted_some (by rfl) (by rfl) e61)
  · rintro a w1 hb ⟨e5, e61, -⟩
    conv at e5 => rhs; whnf
    have n5 := e5
    simp only [Act.eval, Array.getD_eq_getD_getElem?] at n5
    replace e61 : a.eval (.tmp 61) = _ := e61
    have n61 := e61
    simp only [Act.eval, Array.getD_eq_getD_getElem?] at n61
    apply Rg.gives_value
    · conv => lhs; simp [go_sem, n5, n61, cells4 (heap_keep' hb hBq_), cells4 (heap_keep' hb hBm_), cells4 (heap_keep' hb hBx_)]
    · exact ⟨rfl, Below.refl _ _⟩
  apply Rg.ch_rel (fun w v => RdI w.heap.size w v dm) (stable_rdi _) (by rfl) (fun a w1 h => by obtain ⟨-, e61, -⟩ := h; exact Rg.wanted_some (by rfl) (by rfl) e61)
  · rintro a w1 hb ⟨e67, e61, -⟩
    replace e67 : a.eval (.tmp 67) = _ := e67
    replace e61 : a.eval (.tmp 61) = _ := e61
    apply Rg.gives_enter
    · apply run_call Try.func20 (by kernel_rfl) rfl _ (by rfl)
      conv => lhs; simp only [List.map_toArray, List.map_cons, List.map_nil, eval_const_, eval_global_, e67]
    · refine (HRm.out _).mono ?_
      rintro e w2 ⟨⟨v, rfl, hv⟩, hb2⟩
      exact ⟨_, rfl, hv, hb2⟩
  apply Rg.ch_rel (fun w v => RdI w.heap.size w v d3) (stable_rdi _) (by rfl) (fun a w1 h => by obtain ⟨-, -, e61, -⟩ := h; exact Rg.wanted_some (by rfl) (by rfl) e61)
  · rintro a w1 hb ⟨e66, e68, e61, -⟩
    replace e66 : (fun w v => RdI w.heap.size w v dn) w1 (a.eval (.tmp 66)) := e66
    replace e68 : (fun w v => RdI w.heap.size w v dm) w1 (a.eval (.tmp 68)) := e68
    replace e61 : a.eval (.tmp 61) = _ := e61
    apply Rg.gives_enter
    · apply run_call Try.func42 (by kernel_rfl) rfl _ (by rfl)
      conv => lhs; simp only [List.map_toArray, List.map_cons, List.map_nil, eval_const_, eval_global_]
    · refine (HT.out _ _ _ e66 e68).mono ?_
      rintro e w2 ⟨⟨v, rfl, hv⟩, hb2⟩
      exact ⟨_, rfl, hv, hb2⟩
  apply Rg.ch_pure (by rfl)
  · rintro a w1 ⟨e7, e61, -⟩
    conv at e7 => rhs; whnf
    have n7 := e7
    simp only [Act.eval, Array.getD_eq_getD_getElem?] at n7
    replace e61 : a.eval (.tmp 61) = _ := e61
    have n61 := e61
    simp only [Act.eval, Array.getD_eq_getD_getElem?] at n61
    apply Rg.yields_run (Rg.wanted_some (by rfl) (by rfl) e61)
    intro w2
    conv => lhs; simp [go_sem, n7, n61]
  apply Rg.ch_rel (fun w v => RdI w.heap.size w v e3) (stable_rdi _) (by rfl) (fun a w1 h => by obtain ⟨-, -, e61, -⟩ := h; exact Rg.wanted_some (by rfl) (by rfl) e61)
  · rintro a w1 hb ⟨e69, e70, e61, -⟩
    replace e69 : (fun w v => RdI w.heap.size w v d3) w1 (a.eval (.tmp 69)) := e69
    replace e70 : a.eval (.tmp 70) = _ := e70
    replace e61 : a.eval (.tmp 61) = _ := e61
    apply Rg.gives_enter
    · apply run_call Try.func38 (by kernel_rfl) rfl _ (by rfl)
      conv => lhs; simp only [List.map_toArray, List.map_cons, List.map_nil, eval_const_, eval_global_, e70]
    · refine (HM3.out _ _ _ e69 (HOW.next hb)).mono ?_
      rintro e w2 ⟨⟨v, rfl, hv⟩, hb2⟩
      exact ⟨_, rfl, hv, hb2⟩
  apply Rg.ch_def (by rfl) (fun a w1 h => by obtain ⟨-, -, e61, -⟩ := h; exact Rg.wanted_some (by rfl) (by rfl) e61)
  · rintro a w1 hb ⟨e64, e71, e61, -⟩
    replace e64 : a.eval (.tmp 64) = _ := e64
    replace e71 : (fun w v => RdI w.heap.size w v e3) w1 (a.eval (.tmp 71)) := e71
    replace e61 : a.eval (.tmp 61) = _ := e61
    apply Rg.gives_enter
    · apply run_call Try.func16 (by kernel_rfl) rfl _ (by rfl)
      conv => lhs; simp only [List.map_toArray, List.map_cons, List.map_nil, eval_const_, eval_global_, e64]
    · refine (HI3.out _ _ e71).mono ?_
      rintro e w2 ⟨rfl, hb2⟩
      exact ⟨_, rfl, rfl, hb2⟩
  apply Rg.ch_pure (by rfl)
  · rintro a w1 ⟨e61, e72, -⟩
    replace e61 : a.eval (.tmp 61) = _ := e61
    have n61 := e61
    simp only [Act.eval, Array.getD_eq_getD_getElem?] at n61
    replace e72 : a.eval (.tmp 72) = _ := e72
    have n72 := e72
    simp only [Act.eval, Array.getD_eq_getD_getElem?] at n72
    apply Rg.yields_run (Rg.wanted_none (by rfl))
    intro w2
    conv => lhs; simp [go_sem, n61, n72]
  apply Rg.ch_pure (by rfl)
  · rintro a w1 ⟨e73, -⟩
    replace e73 : a.eval (.tmp 73) = _ := e73
    have n73 := e73
    simp only [Act.eval, Array.getD_eq_getD_getElem?] at n73
    apply Rg.yields_run (Rg.wanted_none (by rfl))
    intro w2
    conv => lhs; simp [go_sem, n73]
  intro w1 hb1
  rintro _ rfl _ rfl _ rfl _ rfl v54 hv54 _ rfl v56 hv56 v57 hv57 _ rfl v59 hv59 _ rfl _ rfl _ rfl _ rfl _ rfl _ rfl v66 hv66 _ rfl v68 hv68 v69 hv69 _ rfl v71 hv71 _ rfl _ rfl _ rfl
  change Go.wpList _ _ _ _ _ _
  set_option maxRecDepth 100000 in simp only [List.drop_succ_cons, List.drop_zero, List.drop_nil, Act.put, List.setIfInBounds_toArray, List.set_cons_succ, List.set_cons_zero]
  change Go.NoPanic _ _ _ _
  refine NoPanic.normal ?_
  have HBn : Hid (Below w.heap.size w w1) := Lib.hid (below_call HB0 HB0.size hb1)
  have hBq__ := heap_keep' hb1 hBq_
  have hBm__ := heap_keep' hb1 hBm_
  have hBx__ := heap_keep' hb1 hBx_
  clear hb1 HB0 HB hBq_ HBq cBq fBq zBq hBm_ HBm cBm fBm zBm hBx_ HBx cBx fBx zBx
  clear hW
  obtain ⟨we, rfl⟩ : ∃ x : World, x = w1 := ⟨_, rfl⟩
  have HB := HBn; clear HBn
  have HBq := Lib.hid hBq__; have cBq := cells4 hBq__; have fBq := frozen_of hBq__; have zBq := lt_of_heap hBq__; clear hBq__
  have HBm := Lib.hid hBm__; have cBm := cells4 hBm__; have fBm := frozen_of hBm__; have zBm := lt_of_heap hBm__; clear hBm__
  have HBx := Lib.hid hBx__; have cBx := cells4 hBx__; have fBx := frozen_of hBx__; have zBx := lt_of_heap hBx__; clear hBx__
  go_wp2
  go_ret
  refine ⟨rfl, ?_⟩
  have hB0 := HB.out; have hS0 := hB0.size; first | exact hB0 | go_grown

end Go.Proofs.Ytldnjbpcdojffaa
