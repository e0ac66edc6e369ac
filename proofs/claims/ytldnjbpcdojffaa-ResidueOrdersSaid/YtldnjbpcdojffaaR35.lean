/- @@NUM 25 The walk of law 08's ResidueOrders. Conditions: words are below 2^64. -/
import Derived.Test.YtldnjbpcdojffaaR34
import Derived.Test.YtldnjbpcdojffaaR9
namespace Go.Proofs.Ytldnjbpcdojffaa
set_option linter.unusedVariables false
set_option linter.unusedSimpArgs false
open Go Go.RowKit
open Pl (V V8 W4 T256 pL)
attribute [local go_sem ↓] eql_num neq_num

set_option maxHeartbeats 8000000 in
theorem orders_fact (a0 a1 a2 a3 b0 b1 b2 b3 c0 c1 c2 c3 : Nat) (ha : W4 a0 a1 a2 a3) (hb : W4 b0 b1 b2 b3) (hc : W4 c0 c1 c2 c3) (w : World) : Calls Try.prog 12 #[.agg #[.int .u64 a0, .int .u64 a1, .int .u64 a2, .int .u64 a3], .agg #[.int .u64 b0, .int .u64 b1, .int .u64 b2, .int .u64 b3], .agg #[.int .u64 c0, .int .u64 c1, .int .u64 c2, .int .u64 c3]] w fun e w' => e = .returned (.bool true) ∧ Below w.heap.size w w' := by
  obtain ⟨k0, k1, k2, k3, ⟨hk, hkv⟩, F1⟩ := ScalarAdd_fact b0 b1 b2 b3 c0 c1 c2 c3 hb hc
  obtain ⟨e0, e1, e2, e3, ⟨he, hev⟩, F2⟩ := ScalarAdd_fact a0 a1 a2 a3 b0 b1 b2 b3 ha hb
  obtain ⟨f0, f1, f2, f3, ⟨hf, hfv⟩, F3⟩ := ScalarAdd_fact b0 b1 b2 b3 a0 a1 a2 a3 hb ha
  obtain ⟨g0, g1, g2, g3, ⟨hg, hgv⟩, F4⟩ := ScalarMul_fact a0 a1 a2 a3 b0 b1 b2 b3 ha hb
  obtain ⟨h0, h1, h2, h3, ⟨hh, hhv⟩, F5⟩ := ScalarMul_fact b0 b1 b2 b3 a0 a1 a2 a3 hb ha
  obtain ⟨m0, m1, m2, m3, ⟨hm, hmv⟩, F6⟩ := ScalarMul_fact a0 a1 a2 a3 k0 k1 k2 k3 ha hk
  obtain ⟨n0, n1, n2, n3, ⟨hn, hnv⟩, F7⟩ := ScalarMul_fact a0 a1 a2 a3 c0 c1 c2 c3 ha hc
  obtain ⟨q0, q1, q2, q3, ⟨hq, hqv⟩, F8⟩ := ScalarAdd_fact g0 g1 g2 g3 n0 n1 n2 n3 hg hn
  obtain ⟨z, hz, F9⟩ := less_fact k0 k1 k2 k3 _ _ _ _ hk Pl.pL_W
  obtain rfl : z = true := hz.2 (by rw [Pl.pL_words, hkv]; exact Nat.mod_lt _ Pl.pL_pos)
  have E1 : eqL [(e0 : Int), e1, e2, e3] [(f0 : Int), f1, f2, f3] = true := (eqL_V he hf).2 (by rw [hev, hfv, Nat.add_comm])
  have E2 : eqL [(g0 : Int), g1, g2, g3] [(h0 : Int), h1, h2, h3] = true := (eqL_V hg hh).2 (by rw [hgv, hhv, Nat.mul_comm])
  have E3 : eqL [(m0 : Int), m1, m2, m3] [(q0 : Int), q1, q2, q3] = true := (eqL_V hm hq).2 (by rw [hmv, hqv, hkv, hgv, hnv, Nat.mul_mod_mod, Nat.mod_add_mod, Nat.add_mod_mod, Nat.mul_add])
  have H0 := Lib.hid awake_fact; have HO := Lib.hid Order_fact
  have G1 := Lib.hid F1; have G2 := Lib.hid F2; have G3 := Lib.hid F3; have G4 := Lib.hid F4; have G5 := Lib.hid F5; have G6 := Lib.hid F6; have G7 := Lib.hid F7; have G8 := Lib.hid F8; have G9 := Lib.hid F9
  clear F1 F2 F3 F4 F5 F6 F7 F8 F9 hz hqv hnv hmv hhv hgv hfv hev hkv hk he hf hg hh hm hn hq ha hb hc
  go_enter Try.func12, Try.ntmps12
  go_wp2_with (fail)
  go_at_call 13
  refine (H0.out _).mono ?_
  rintro e wa ⟨rfl, hb⟩
  have HBn : Hid (Below w.heap.size w wa) := Lib.hid ((fun (h : Below _ _ _) => below_call h h.size hb) (by first | go_grown))
  have hBa_ : wa.heap[w.heap.size]? = some (.cells #[.int .u64 a0, .int .u64 a1, .int .u64 a2, .int .u64 a3] 25 (0, 0)) := heap_keep' hb (by repeat (first | (with_reducible refine heap_new' ?_ _; simp; done) | (with_reducible refine keep4 ?_ (by omega) _ _ _ _) | (with_reducible refine heap_old ?_ _) | (with_reducible refine heap_drew ?_) | (with_reducible refine heap_set_ne ?_ (by simp <;> omega) _)))
  have hBb_ : wa.heap[w.heap.size + 1]? = some (.cells #[.int .u64 b0, .int .u64 b1, .int .u64 b2, .int .u64 b3] 25 (0, 0)) := heap_keep' hb (by repeat (first | (with_reducible refine heap_new' ?_ _; simp; done) | (with_reducible refine keep4 ?_ (by omega) _ _ _ _) | (with_reducible refine heap_old ?_ _) | (with_reducible refine heap_drew ?_) | (with_reducible refine heap_set_ne ?_ (by simp <;> omega) _)))
  have hBc_ : wa.heap[w.heap.size + 1 + 1]? = some (.cells #[.int .u64 c0, .int .u64 c1, .int .u64 c2, .int .u64 c3] 25 (0, 0)) := heap_keep' hb (by repeat (first | (with_reducible refine heap_new' ?_ _; simp; done) | (with_reducible refine keep4 ?_ (by omega) _ _ _ _) | (with_reducible refine heap_old ?_ _) | (with_reducible refine heap_drew ?_) | (with_reducible refine heap_set_ne ?_ (by simp <;> omega) _)))
  clear hb
  have HB := HBn; clear HBn
  have HBa := Lib.hid hBa_; have cBa := cells4 hBa_; have fBa := frozen_of hBa_; have zBa := lt_of_heap hBa_; clear hBa_
  have HBb := Lib.hid hBb_; have cBb := cells4 hBb_; have fBb := frozen_of hBb_; have zBb := lt_of_heap hBb_; clear hBb_
  have HBc := Lib.hid hBc_; have cBc := cells4 hBc_; have fBc := frozen_of hBc_; have zBc := lt_of_heap hBc_; clear hBc_
  go_wp2_with (fail)
  go_at_call 39
  refine (G1.out _).mono ?_
  rintro e wb ⟨rfl, hb⟩
  have HBn : Hid (Below w.heap.size w wb) := Lib.hid ((fun (h : Below _ _ _) => below_call h h.size hb) (by have hB0 := HB.out; have hS0 := hB0.size; first | (with_reducible exact hB0) | (with_reducible exact set4_below hB0 (by omega) _ _ _ _) | (with_reducible exact set4_below (set4_below hB0 (by omega) _ _ _ _) (by omega) _ _ _ _) | (with_reducible exact set4_below (set4_below (set4_below (set4_below hB0 (by omega) _ _ _ _) (by omega) _ _ _ _) (by omega) _ _ _ _) (by omega) _ _ _ _) | go_grown))
  have hBa_ : wb.heap[w.heap.size]? = some (.cells #[.int .u64 a0, .int .u64 a1, .int .u64 a2, .int .u64 a3] 25 (0, 0)) := heap_keep' hb (by repeat (first | (with_reducible exact HBa.out) | (with_reducible exact set4 HBa.out _ _ _ _) | (with_reducible apply set4) | (with_reducible refine heap_new' ?_ _; simp; done) | (with_reducible refine keep4 ?_ (by omega) _ _ _ _) | (with_reducible refine heap_old ?_ _) | (with_reducible refine heap_drew ?_) | (with_reducible refine heap_set_ne ?_ (by simp <;> omega) _)))
  have hBb_ : wb.heap[w.heap.size + 1]? = some (.cells #[.int .u64 b0, .int .u64 b1, .int .u64 b2, .int .u64 b3] 25 (0, 0)) := heap_keep' hb (by repeat (first | (with_reducible exact HBb.out) | (with_reducible exact set4 HBb.out _ _ _ _) | (with_reducible apply set4) | (with_reducible refine heap_new' ?_ _; simp; done) | (with_reducible refine keep4 ?_ (by omega) _ _ _ _) | (with_reducible refine heap_old ?_ _) | (with_reducible refine heap_drew ?_) | (with_reducible refine heap_set_ne ?_ (by simp <;> omega) _)))
  have hBc_ : wb.heap[w.heap.size + 1 + 1]? = some (.cells #[.int .u64 c0, .int .u64 c1, .int .u64 c2, .int .u64 c3] 25 (0, 0)) := heap_keep' hb (by repeat (first | (with_reducible exact HBc.out) | (with_reducible exact set4 HBc.out _ _ _ _) | (with_reducible apply set4) | (with_reducible refine heap_new' ?_ _; simp; done) | (with_reducible refine keep4 ?_ (by omega) _ _ _ _) | (with_reducible refine heap_old ?_ _) | (with_reducible refine heap_drew ?_) | (with_reducible refine heap_set_ne ?_ (by simp <;> omega) _)))
  clear hb HB HBa cBa fBa zBa HBb cBb fBb zBb HBc cBc fBc zBc
  have HB := HBn; clear HBn
  have HBa := Lib.hid hBa_; have cBa := cells4 hBa_; have fBa := frozen_of hBa_; have zBa := lt_of_heap hBa_; clear hBa_
  have HBb := Lib.hid hBb_; have cBb := cells4 hBb_; have fBb := frozen_of hBb_; have zBb := lt_of_heap hBb_; clear hBb_
  have HBc := Lib.hid hBc_; have cBc := cells4 hBc_; have fBc := frozen_of hBc_; have zBc := lt_of_heap hBc_; clear hBc_
  go_wp2
  refine Rg.region_ (n := 47) [0, 0, 3, 0, 0, 31, 63, 127, 255, 255, 1023, 255, 255, 8191, 16383, 32767, 65535, 131071, 131071, 524287, 131071, 131071, 4194303, 131071, 131071, 33554431, 67108863, 134217727, 268435455, 536870911, 1073741823, 1073741823, 4294967295, 8589934591, 17179869183] [1, 1, 1, 1, 1, 1, 0, 0, 1, 1, 1, 1, 1, 1, 0, 0, 0, 1, 1, 1, 1, 1, 1, 1, 1, 1, 1, 0, 0, 0, 1, 1, 1, 0, 0] [13, 14, 15, 16, 17, 18, 19, 20, 21, 22, 23, 24, 25, 26, 27, 28, 29, 30, 31, 32, 33, 34, 35, 36, 37, 38, 39, 40, 41, 42, 43, 44, 45, 46, 6] [[(3, none)], [(4, none)], [(13, some 0), (14, some 1)], [(4, none)], [(3, none)], [(16, some 3), (17, some 4)], [(15, some 2), (18, some 5)], [(19, some 6)], [(3, none), (20, some 7)], [(4, none), (20, some 7)], [(21, some 8), (22, some 9), (20, some 7)], [(4, none), (20, some 7)], [(3, none), (20, some 7)], [(24, some 11), (25, some 12), (20, some 7)], [(23, some 10), (26, some 13), (20, some 7)], [(20, some 7), (27, some 14)], [(28, some 15)], [(3, none), (29, some 16)], [(7, none), (29, some 16)], [(30, some 17), (31, some 18), (29, some 16)], [(3, none), (29, some 16)], [(4, none), (29, some 16)], [(33, some 20), (34, some 21), (29, some 16)], [(3, none), (29, some 16)], [(5, none), (29, some 16)], [(36, some 23), (37, some 24), (29, some 16)], [(35, some 22), (38, some 25), (29, some 16)], [(32, some 19), (39, some 26), (29, some 16)], [(29, some 16), (40, some 27)], [(41, some 28)], [(7, none), (42, some 29)], [(42, some 29)], [(43, some 30), (44, some 31), (42, some 29)], [(42, some 29), (45, some 32)], [(46, some 33)]] 35 (by kernel_rfl) (by kernel_rfl) (by rfl) ?_
  intro W hW
  have hBa_ : W.heap[w.heap.size]? = some (.cells #[.int .u64 a0, .int .u64 a1, .int .u64 a2, .int .u64 a3] 25 (0, 0)) := by rw [hW]; exact (by repeat (first | (with_reducible exact HBa.out) | (with_reducible exact set4 HBa.out _ _ _ _) | (with_reducible apply set4) | (with_reducible refine heap_new' ?_ _; simp; done) | (with_reducible refine keep4 ?_ (by omega) _ _ _ _) | (with_reducible refine heap_old ?_ _) | (with_reducible refine heap_drew ?_) | (with_reducible refine heap_set_ne ?_ (by simp <;> omega) _)))
  have hBb_ : W.heap[w.heap.size + 1]? = some (.cells #[.int .u64 b0, .int .u64 b1, .int .u64 b2, .int .u64 b3] 25 (0, 0)) := by rw [hW]; exact (by repeat (first | (with_reducible exact HBb.out) | (with_reducible exact set4 HBb.out _ _ _ _) | (with_reducible apply set4) | (with_reducible refine heap_new' ?_ _; simp; done) | (with_reducible refine keep4 ?_ (by omega) _ _ _ _) | (with_reducible refine heap_old ?_ _) | (with_reducible refine heap_drew ?_) | (with_reducible refine heap_set_ne ?_ (by simp <;> omega) _)))
  have hBc_ : W.heap[w.heap.size + 1 + 1]? = some (.cells #[.int .u64 c0, .int .u64 c1, .int .u64 c2, .int .u64 c3] 25 (0, 0)) := by rw [hW]; exact (by repeat (first | (with_reducible exact HBc.out) | (with_reducible exact set4 HBc.out _ _ _ _) | (with_reducible apply set4) | (with_reducible refine heap_new' ?_ _; simp; done) | (with_reducible refine keep4 ?_ (by omega) _ _ _ _) | (with_reducible refine heap_old ?_ _) | (with_reducible refine heap_drew ?_) | (with_reducible refine heap_set_ne ?_ (by simp <;> omega) _)))
  have hBk_ : W.heap[wb.heap.size]? = some (.cells #[.int .u64 k0, .int .u64 k1, .int .u64 k2, .int .u64 k3] 25 (0, 0)) := by rw [hW]; exact (by repeat (first | (with_reducible refine heap_new' ?_ _; simp; done) | (with_reducible refine keep4 ?_ (by omega) _ _ _ _) | (with_reducible refine heap_old ?_ _) | (with_reducible refine heap_drew ?_) | (with_reducible refine heap_set_ne ?_ (by simp <;> omega) _)))
  have HB0 : Below w.heap.size w W := by rw [hW]; have hB0 := HB.out; have hS0 := hB0.size; first | exact hB0.drew | exact (set4_below hB0 (by omega) _ _ _ _).drew | go_grown
  change Rg.Chain' _ _ _ _ _ [(0, 1, 13, [(3, none)]), (1, 1, 14, [(4, none)]), (2, 1, 15, [(13, some 0), (14, some 1)]), (3, 1, 16, [(4, none)]), (4, 1, 17, [(3, none)]), (5, 1, 18, [(16, some 3), (17, some 4)]), (6, 0, 19, [(15, some 2), (18, some 5)]), (7, 0, 20, [(19, some 6)]), (8, 1, 21, [(3, none), (20, some 7)]), (9, 1, 22, [(4, none), (20, some 7)]), (10, 1, 23, [(21, some 8), (22, some 9), (20, some 7)]), (11, 1, 24, [(4, none), (20, some 7)]), (12, 1, 25, [(3, none), (20, some 7)]), (13, 1, 26, [(24, some 11), (25, some 12), (20, some 7)]), (14, 0, 27, [(23, some 10), (26, some 13), (20, some 7)]), (15, 0, 28, [(20, some 7), (27, some 14)]), (16, 0, 29, [(28, some 15)]), (17, 1, 30, [(3, none), (29, some 16)]), (18, 1, 31, [(7, none), (29, some 16)]), (19, 1, 32, [(30, some 17), (31, some 18), (29, some 16)]), (20, 1, 33, [(3, none), (29, some 16)]), (21, 1, 34, [(4, none), (29, some 16)]), (22, 1, 35, [(33, some 20), (34, some 21), (29, some 16)]), (23, 1, 36, [(3, none), (29, some 16)]), (24, 1, 37, [(5, none), (29, some 16)]), (25, 1, 38, [(36, some 23), (37, some 24), (29, some 16)]), (26, 1, 39, [(35, some 22), (38, some 25), (29, some 16)]), (27, 0, 40, [(32, some 19), (39, some 26), (29, some 16)]), (28, 0, 41, [(29, some 16), (40, some 27)]), (29, 0, 42, [(41, some 28)]), (30, 1, 43, [(7, none), (42, some 29)]), (31, 1, 44, [(42, some 29)]), (32, 1, 45, [(43, some 30), (44, some 31), (42, some 29)]), (33, 0, 46, [(42, some 29), (45, some 32)]), (34, 0, 6, [(46, some 33)])] [(0, 1, 13, [(3, none)]), (1, 1, 14, [(4, none)]), (2, 1, 15, [(13, some 0), (14, some 1)]), (3, 1, 16, [(4, none)]), (4, 1, 17, [(3, none)]), (5, 1, 18, [(16, some 3), (17, some 4)]), (6, 0, 19, [(15, some 2), (18, some 5)]), (7, 0, 20, [(19, some 6)]), (8, 1, 21, [(3, none), (20, some 7)]), (9, 1, 22, [(4, none), (20, some 7)]), (10, 1, 23, [(21, some 8), (22, some 9), (20, some 7)]), (11, 1, 24, [(4, none), (20, some 7)]), (12, 1, 25, [(3, none), (20, some 7)]), (13, 1, 26, [(24, some 11), (25, some 12), (20, some 7)]), (14, 0, 27, [(23, some 10), (26, some 13), (20, some 7)]), (15, 0, 28, [(20, some 7), (27, some 14)]), (16, 0, 29, [(28, some 15)]), (17, 1, 30, [(3, none), (29, some 16)]), (18, 1, 31, [(7, none), (29, some 16)]), (19, 1, 32, [(30, some 17), (31, some 18), (29, some 16)]), (20, 1, 33, [(3, none), (29, some 16)]), (21, 1, 34, [(4, none), (29, some 16)]), (22, 1, 35, [(33, some 20), (34, some 21), (29, some 16)]), (23, 1, 36, [(3, none), (29, some 16)]), (24, 1, 37, [(5, none), (29, some 16)]), (25, 1, 38, [(36, some 23), (37, some 24), (29, some 16)]), (26, 1, 39, [(35, some 22), (38, some 25), (29, some 16)]), (27, 0, 40, [(32, some 19), (39, some 26), (29, some 16)]), (28, 0, 41, [(29, some 16), (40, some 27)]), (29, 0, 42, [(41, some 28)]), (30, 1, 43, [(7, none), (42, some 29)]), (31, 1, 44, [(42, some 29)]), (32, 1, 45, [(43, some 30), (44, some 31), (42, some 29)]), (33, 0, 46, [(42, some 29), (45, some 32)]), (34, 0, 6, [(46, some 33)])] _
  apply Rg.ch_def (by rfl) (fun a w1 _ => Rg.wanted_none (by rfl))
  · rintro a w1 hb ⟨e3, -⟩
    conv at e3 => rhs; whnf
    have n3 := e3
    simp only [Act.eval, Array.getD_eq_getD_getElem?] at n3
    apply Rg.gives_value
    · conv => lhs; simp [go_sem, n3, cells4 (heap_keep' hb hBa_), cells4 (heap_keep' hb hBb_), cells4 (heap_keep' hb hBc_), cells4 (heap_keep' hb hBk_)]
    · exact ⟨rfl, Below.refl _ _⟩
  apply Rg.ch_def (by rfl) (fun a w1 _ => Rg.wanted_none (by rfl))
  · rintro a w1 hb ⟨e4, -⟩
    conv at e4 => rhs; whnf
    have n4 := e4
    simp only [Act.eval, Array.getD_eq_getD_getElem?] at n4
    apply Rg.gives_value
    · conv => lhs; simp [go_sem, n4, cells4 (heap_keep' hb hBa_), cells4 (heap_keep' hb hBb_), cells4 (heap_keep' hb hBc_), cells4 (heap_keep' hb hBk_)]
    · exact ⟨rfl, Below.refl _ _⟩
  apply Rg.ch_def (by rfl) (fun a w1 _ => Rg.wanted_none (by rfl))
  · rintro a w1 hb ⟨e13, e14, -⟩
    replace e13 : a.eval (.tmp 13) = _ := e13
    replace e14 : a.eval (.tmp 14) = _ := e14
    apply Rg.gives_enter
    · apply run_call Try.func39 (by kernel_rfl) rfl _ (by rfl)
      conv => lhs; simp only [List.map_toArray, List.map_cons, List.map_nil, eval_const_, eval_global_, e13, e14]
    · refine (G2.out _).mono ?_
      rintro e w2 ⟨rfl, hb2⟩
      exact ⟨_, rfl, rfl, hb2⟩
  apply Rg.ch_def (by rfl) (fun a w1 _ => Rg.wanted_none (by rfl))
  · rintro a w1 hb ⟨e4, -⟩
    conv at e4 => rhs; whnf
    have n4 := e4
    simp only [Act.eval, Array.getD_eq_getD_getElem?] at n4
    apply Rg.gives_value
    · conv => lhs; simp [go_sem, n4, cells4 (heap_keep' hb hBa_), cells4 (heap_keep' hb hBb_), cells4 (heap_keep' hb hBc_), cells4 (heap_keep' hb hBk_)]
    · exact ⟨rfl, Below.refl _ _⟩
  apply Rg.ch_def (by rfl) (fun a w1 _ => Rg.wanted_none (by rfl))
  · rintro a w1 hb ⟨e3, -⟩
    conv at e3 => rhs; whnf
    have n3 := e3
    simp only [Act.eval, Array.getD_eq_getD_getElem?] at n3
    apply Rg.gives_value
    · conv => lhs; simp [go_sem, n3, cells4 (heap_keep' hb hBa_), cells4 (heap_keep' hb hBb_), cells4 (heap_keep' hb hBc_), cells4 (heap_keep' hb hBk_)]
    · exact ⟨rfl, Below.refl _ _⟩
  apply Rg.ch_def (by rfl) (fun a w1 _ => Rg.wanted_none (by rfl))
  · rintro a w1 hb ⟨e16, e17, -⟩
    replace e16 : a.eval (.tmp 16) = _ := e16
    replace e17 : a.eval (.tmp 17) = _ := e17
    apply Rg.gives_enter
    · apply run_call Try.func39 (by kernel_rfl) rfl _ (by rfl)
      conv => lhs; simp only [List.map_toArray, List.map_cons, List.map_nil, eval_const_, eval_global_, e16, e17]
    · refine (G3.out _).mono ?_
      rintro e w2 ⟨rfl, hb2⟩
      exact ⟨_, rfl, rfl, hb2⟩
  apply Rg.ch_pure (by rfl)
  · rintro a w1 ⟨e15, e18, -⟩
    replace e15 : a.eval (.tmp 15) = _ := e15
    have n15 := e15
    simp only [Act.eval, Array.getD_eq_getD_getElem?] at n15
    replace e18 : a.eval (.tmp 18) = _ := e18
    have n18 := e18
    simp only [Act.eval, Array.getD_eq_getD_getElem?] at n18
    apply Rg.yields_run (Rg.wanted_none (by rfl))
    intro w2
    conv => lhs; simp [go_sem, n15, n18, E1, E2, E3]
  apply Rg.ch_pure (by rfl)
  · rintro a w1 ⟨e19, -⟩
    replace e19 : a.eval (.tmp 19) = _ := e19
    have n19 := e19
    simp only [Act.eval, Array.getD_eq_getD_getElem?] at n19
    apply Rg.yields_run (Rg.wanted_none (by rfl))
    intro w2
    conv => lhs; simp [go_sem, n19, E1, E2, E3]
  apply Rg.ch_def (by rfl) (fun a w1 h => by obtain ⟨-, e20, -⟩ := h; exact Rg.wanted_some (by rfl) (by rfl) e20)
  · rintro a w1 hb ⟨e3, e20, -⟩
    conv at e3 => rhs; whnf
    have n3 := e3
    simp only [Act.eval, Array.getD_eq_getD_getElem?] at n3
    replace e20 : a.eval (.tmp 20) = _ := e20
    have n20 := e20
    simp only [Act.eval, Array.getD_eq_getD_getElem?] at n20
    apply Rg.gives_value
    · conv => lhs; simp [go_sem, n3, n20, cells4 (heap_keep' hb hBa_), cells4 (heap_keep' hb hBb_), cells4 (heap_keep' hb hBc_), cells4 (heap_keep' hb hBk_)]
    · exact ⟨rfl, Below.refl _ _⟩
  apply Rg.ch_def (by rfl) (fun a w1 h => by obtain ⟨-, e20, -⟩ := h; exact Rg.wanted_some (by rfl) (by rfl) e20)
  · rintro a w1 hb ⟨e4, e20, -⟩
    conv at e4 => rhs; whnf
    have n4 := e4
    simp only [Act.eval, Array.getD_eq_getD_getElem?] at n4
    replace e20 : a.eval (.tmp 20) = _ := e20
    have n20 := e20
    simp only [Act.eval, Array.getD_eq_getD_getElem?] at n20
    apply Rg.gives_value
    · conv => lhs; simp [go_sem, n4, n20, cells4 (heap_keep' hb hBa_), cells4 (heap_keep' hb hBb_), cells4 (heap_keep' hb hBc_), cells4 (heap_keep' hb hBk_)]
    · exact ⟨rfl, Below.refl _ _⟩
  apply Rg.ch_def (by rfl) (fun a w1 h => by obtain ⟨-, -, e20, -⟩ := h; exact Rg.wanted_some (by rfl) (by rfl) e20)
  · rintro a w1 hb ⟨e21, e22, e20, -⟩
    replace e21 : a.eval (.tmp 21) = _ := e21
    replace e22 : a.eval (.tmp 22) = _ := e22
    replace e20 : a.eval (.tmp 20) = _ := e20
    apply Rg.gives_enter
    · apply run_call Try.func41 (by kernel_rfl) rfl _ (by rfl)
      conv => lhs; simp only [List.map_toArray, List.map_cons, List.map_nil, eval_const_, eval_global_, e21, e22]
    · refine (G4.out _).mono ?_
      rintro e w2 ⟨rfl, hb2⟩
      exact ⟨_, rfl, rfl, hb2⟩
  apply Rg.ch_def (by rfl) (fun a w1 h => by obtain ⟨-, e20, -⟩ := h; exact Rg.wanted_some (by rfl) (by rfl) e20)
  · rintro a w1 hb ⟨e4, e20, -⟩
    conv at e4 => rhs; whnf
    have n4 := e4
    simp only [Act.eval, Array.getD_eq_getD_getElem?] at n4
    replace e20 : a.eval (.tmp 20) = _ := e20
    have n20 := e20
    simp only [Act.eval, Array.getD_eq_getD_getElem?] at n20
    apply Rg.gives_value
    · conv => lhs; simp [go_sem, n4, n20, cells4 (heap_keep' hb hBa_), cells4 (heap_keep' hb hBb_), cells4 (heap_keep' hb hBc_), cells4 (heap_keep' hb hBk_)]
    · exact ⟨rfl, Below.refl _ _⟩
  apply Rg.ch_def (by rfl) (fun a w1 h => by obtain ⟨-, e20, -⟩ := h; exact Rg.wanted_some (by rfl) (by rfl) e20)
  · rintro a w1 hb ⟨e3, e20, -⟩
    conv at e3 => rhs; whnf
    have n3 := e3
    simp only [Act.eval, Array.getD_eq_getD_getElem?] at n3
    replace e20 : a.eval (.tmp 20) = _ := e20
    have n20 := e20
    simp only [Act.eval, Array.getD_eq_getD_getElem?] at n20
    apply Rg.gives_value
    · conv => lhs; simp [go_sem, n3, n20, cells4 (heap_keep' hb hBa_), cells4 (heap_keep' hb hBb_), cells4 (heap_keep' hb hBc_), cells4 (heap_keep' hb hBk_)]
    · exact ⟨rfl, Below.refl _ _⟩
  apply Rg.ch_def (by rfl) (fun a w1 h => by obtain ⟨-, -, e20, -⟩ := h; exact Rg.wanted_some (by rfl) (by rfl) e20)
  · rintro a w1 hb ⟨e24, e25, e20, -⟩
    replace e24 : a.eval (.tmp 24) = _ := e24
    replace e25 : a.eval (.tmp 25) = _ := e25
    replace e20 : a.eval (.tmp 20) = _ := e20
    apply Rg.gives_enter
    · apply run_call Try.func41 (by kernel_rfl) rfl _ (by rfl)
      conv => lhs; simp only [List.map_toArray, List.map_cons, List.map_nil, eval_const_, eval_global_, e24, e25]
    · refine (G5.out _).mono ?_
      rintro e w2 ⟨rfl, hb2⟩
      exact ⟨_, rfl, rfl, hb2⟩
  apply Rg.ch_pure (by rfl)
  · rintro a w1 ⟨e23, e26, e20, -⟩
    replace e23 : a.eval (.tmp 23) = _ := e23
    have n23 := e23
    simp only [Act.eval, Array.getD_eq_getD_getElem?] at n23
    replace e26 : a.eval (.tmp 26) = _ := e26
    have n26 := e26
    simp only [Act.eval, Array.getD_eq_getD_getElem?] at n26
    replace e20 : a.eval (.tmp 20) = _ := e20
    have n20 := e20
    simp only [Act.eval, Array.getD_eq_getD_getElem?] at n20
    apply Rg.yields_run (Rg.wanted_some (by rfl) (by rfl) e20)
    intro w2
    conv => lhs; simp [go_sem, n23, n26, n20, E1, E2, E3]
  apply Rg.ch_pure (by rfl)
  · rintro a w1 ⟨e20, e27, -⟩
    replace e20 : a.eval (.tmp 20) = _ := e20
    have n20 := e20
    simp only [Act.eval, Array.getD_eq_getD_getElem?] at n20
    replace e27 : a.eval (.tmp 27) = _ := e27
    have n27 := e27
    simp only [Act.eval, Array.getD_eq_getD_getElem?] at n27
    apply Rg.yields_run (Rg.wanted_none (by rfl))
    intro w2
    conv => lhs; simp [go_sem, n20, n27, E1, E2, E3]
  apply Rg.ch_pure (by rfl)
  · rintro a w1 ⟨e28, -⟩
    replace e28 : a.eval (.tmp 28) = _ := e28
    have n28 := e28
    simp only [Act.eval, Array.getD_eq_getD_getElem?] at n28
    apply Rg.yields_run (Rg.wanted_none (by rfl))
    intro w2
    conv => lhs; simp [go_sem, n28, E1, E2, E3]
  apply Rg.ch_def (by rfl) (fun a w1 h => by obtain ⟨-, e29, -⟩ := h; exact Rg.wanted_some (by rfl) (by rfl) e29)
  · rintro a w1 hb ⟨e3, e29, -⟩
    conv at e3 => rhs; whnf
    have n3 := e3
    simp only [Act.eval, Array.getD_eq_getD_getElem?] at n3
    replace e29 : a.eval (.tmp 29) = _ := e29
    have n29 := e29
    simp only [Act.eval, Array.getD_eq_getD_getElem?] at n29
    apply Rg.gives_value
    · conv => lhs; simp [go_sem, n3, n29, cells4 (heap_keep' hb hBa_), cells4 (heap_keep' hb hBb_), cells4 (heap_keep' hb hBc_), cells4 (heap_keep' hb hBk_)]
    · exact ⟨rfl, Below.refl _ _⟩
  apply Rg.ch_def (by rfl) (fun a w1 h => by obtain ⟨-, e29, -⟩ := h; exact Rg.wanted_some (by rfl) (by rfl) e29)
  · rintro a w1 hb ⟨e7, e29, -⟩
    conv at e7 => rhs; whnf
    have n7 := e7
    simp only [Act.eval, Array.getD_eq_getD_getElem?] at n7
    replace e29 : a.eval (.tmp 29) = _ := e29
    have n29 := e29
    simp only [Act.eval, Array.getD_eq_getD_getElem?] at n29
    apply Rg.gives_value
    · conv => lhs; simp [go_sem, n7, n29, cells4 (heap_keep' hb hBa_), cells4 (heap_keep' hb hBb_), cells4 (heap_keep' hb hBc_), cells4 (heap_keep' hb hBk_)]
    · exact ⟨rfl, Below.refl _ _⟩
  apply Rg.ch_def (by rfl) (fun a w1 h => by obtain ⟨-, -, e29, -⟩ := h; exact Rg.wanted_some (by rfl) (by rfl) e29)
  · rintro a w1 hb ⟨e30, e31, e29, -⟩
    replace e30 : a.eval (.tmp 30) = _ := e30
    replace e31 : a.eval (.tmp 31) = _ := e31
    replace e29 : a.eval (.tmp 29) = _ := e29
    apply Rg.gives_enter
    · apply run_call Try.func41 (by kernel_rfl) rfl _ (by rfl)
      conv => lhs; simp only [List.map_toArray, List.map_cons, List.map_nil, eval_const_, eval_global_, e30, e31]
    · refine (G6.out _).mono ?_
      rintro e w2 ⟨rfl, hb2⟩
      exact ⟨_, rfl, rfl, hb2⟩
  apply Rg.ch_def (by rfl) (fun a w1 h => by obtain ⟨-, e29, -⟩ := h; exact Rg.wanted_some (by rfl) (by rfl) e29)
  · rintro a w1 hb ⟨e3, e29, -⟩
    conv at e3 => rhs; whnf
    have n3 := e3
    simp only [Act.eval, Array.getD_eq_getD_getElem?] at n3
    replace e29 : a.eval (.tmp 29) = _ := e29
    have n29 := e29
    simp only [Act.eval, Array.getD_eq_getD_getElem?] at n29
    apply Rg.gives_value
    · conv => lhs; simp [go_sem, n3, n29, cells4 (heap_keep' hb hBa_), cells4 (heap_keep' hb hBb_), cells4 (heap_keep' hb hBc_), cells4 (heap_keep' hb hBk_)]
    · exact ⟨rfl, Below.refl _ _⟩
  apply Rg.ch_def (by rfl) (fun a w1 h => by obtain ⟨-, e29, -⟩ := h; exact Rg.wanted_some (by rfl) (by rfl) e29)
  · rintro a w1 hb ⟨e4, e29, -⟩
    conv at e4 => rhs; whnf
    have n4 := e4
    simp only [Act.eval, Array.getD_eq_getD_getElem?] at n4
    replace e29 : a.eval (.tmp 29) = _ := e29
    have n29 := e29
    simp only [Act.eval, Array.getD_eq_getD_getElem?] at n29
    apply Rg.gives_value
    · conv => lhs; simp [go_sem, n4, n29, cells4 (heap_keep' hb hBa_), cells4 (heap_keep' hb hBb_), cells4 (heap_keep' hb hBc_), cells4 (heap_keep' hb hBk_)]
    · exact ⟨rfl, Below.refl _ _⟩
  apply Rg.ch_def (by rfl) (fun a w1 h => by obtain ⟨-, -, e29, -⟩ := h; exact Rg.wanted_some (by rfl) (by rfl) e29)
  · rintro a w1 hb ⟨e33, e34, e29, -⟩
    replace e33 : a.eval (.tmp 33) = _ := e33
    replace e34 : a.eval (.tmp 34) = _ := e34
    replace e29 : a.eval (.tmp 29) = _ := e29
    apply Rg.gives_enter
    · apply run_call Try.func41 (by kernel_rfl) rfl _ (by rfl)
      conv => lhs; simp only [List.map_toArray, List.map_cons, List.map_nil, eval_const_, eval_global_, e33, e34]
    · refine (G4.out _).mono ?_
      rintro e w2 ⟨rfl, hb2⟩
      exact ⟨_, rfl, rfl, hb2⟩
  apply Rg.ch_def (by rfl) (fun a w1 h => by obtain ⟨-, e29, -⟩ := h; exact Rg.wanted_some (by rfl) (by rfl) e29)
  · rintro a w1 hb ⟨e3, e29, -⟩
    conv at e3 => rhs; whnf
    have n3 := e3
    simp only [Act.eval, Array.getD_eq_getD_getElem?] at n3
    replace e29 : a.eval (.tmp 29) = _ := e29
    have n29 := e29
    simp only [Act.eval, Array.getD_eq_getD_getElem?] at n29
    apply Rg.gives_value
    · conv => lhs; simp [go_sem, n3, n29, cells4 (heap_keep' hb hBa_), cells4 (heap_keep' hb hBb_), cells4 (heap_keep' hb hBc_), cells4 (heap_keep' hb hBk_)]
    · exact ⟨rfl, Below.refl _ _⟩
  apply Rg.ch_def (by rfl) (fun a w1 h => by obtain ⟨-, e29, -⟩ := h; exact Rg.wanted_some (by rfl) (by rfl) e29)
  · rintro a w1 hb ⟨e5, e29, -⟩
    conv at e5 => rhs; whnf
    have n5 := e5
    simp only [Act.eval, Array.getD_eq_getD_getElem?] at n5
    replace e29 : a.eval (.tmp 29) = _ := e29
    have n29 := e29
    simp only [Act.eval, Array.getD_eq_getD_getElem?] at n29
    apply Rg.gives_value
    · conv => lhs; simp [go_sem, n5, n29, cells4 (heap_keep' hb hBa_), cells4 (heap_keep' hb hBb_), cells4 (heap_keep' hb hBc_), cells4 (heap_keep' hb hBk_)]
    · exact ⟨rfl, Below.refl _ _⟩
  apply Rg.ch_def (by rfl) (fun a w1 h => by obtain ⟨-, -, e29, -⟩ := h; exact Rg.wanted_some (by rfl) (by rfl) e29)
  · rintro a w1 hb ⟨e36, e37, e29, -⟩
    replace e36 : a.eval (.tmp 36) = _ := e36
    replace e37 : a.eval (.tmp 37) = _ := e37
    replace e29 : a.eval (.tmp 29) = _ := e29
    apply Rg.gives_enter
    · apply run_call Try.func41 (by kernel_rfl) rfl _ (by rfl)
      conv => lhs; simp only [List.map_toArray, List.map_cons, List.map_nil, eval_const_, eval_global_, e36, e37]
    · refine (G7.out _).mono ?_
      rintro e w2 ⟨rfl, hb2⟩
      exact ⟨_, rfl, rfl, hb2⟩
  apply Rg.ch_def (by rfl) (fun a w1 h => by obtain ⟨-, -, e29, -⟩ := h; exact Rg.wanted_some (by rfl) (by rfl) e29)
  · rintro a w1 hb ⟨e35, e38, e29, -⟩
    replace e35 : a.eval (.tmp 35) = _ := e35
    replace e38 : a.eval (.tmp 38) = _ := e38
    replace e29 : a.eval (.tmp 29) = _ := e29
    apply Rg.gives_enter
    · apply run_call Try.func39 (by kernel_rfl) rfl _ (by rfl)
      conv => lhs; simp only [List.map_toArray, List.map_cons, List.map_nil, eval_const_, eval_global_, e35, e38]
    · refine (G8.out _).mono ?_
      rintro e w2 ⟨rfl, hb2⟩
      exact ⟨_, rfl, rfl, hb2⟩
  apply Rg.ch_pure (by rfl)
  · rintro a w1 ⟨e32, e39, e29, -⟩
    replace e32 : a.eval (.tmp 32) = _ := e32
    have n32 := e32
    simp only [Act.eval, Array.getD_eq_getD_getElem?] at n32
    replace e39 : a.eval (.tmp 39) = _ := e39
    have n39 := e39
    simp only [Act.eval, Array.getD_eq_getD_getElem?] at n39
    replace e29 : a.eval (.tmp 29) = _ := e29
    have n29 := e29
    simp only [Act.eval, Array.getD_eq_getD_getElem?] at n29
    apply Rg.yields_run (Rg.wanted_some (by rfl) (by rfl) e29)
    intro w2
    conv => lhs; simp [go_sem, n32, n39, n29, E1, E2, E3]
  apply Rg.ch_pure (by rfl)
  · rintro a w1 ⟨e29, e40, -⟩
    replace e29 : a.eval (.tmp 29) = _ := e29
    have n29 := e29
    simp only [Act.eval, Array.getD_eq_getD_getElem?] at n29
    replace e40 : a.eval (.tmp 40) = _ := e40
    have n40 := e40
    simp only [Act.eval, Array.getD_eq_getD_getElem?] at n40
    apply Rg.yields_run (Rg.wanted_none (by rfl))
    intro w2
    conv => lhs; simp [go_sem, n29, n40, E1, E2, E3]
  apply Rg.ch_pure (by rfl)
  · rintro a w1 ⟨e41, -⟩
    replace e41 : a.eval (.tmp 41) = _ := e41
    have n41 := e41
    simp only [Act.eval, Array.getD_eq_getD_getElem?] at n41
    apply Rg.yields_run (Rg.wanted_none (by rfl))
    intro w2
    conv => lhs; simp [go_sem, n41, E1, E2, E3]
  apply Rg.ch_def (by rfl) (fun a w1 h => by obtain ⟨-, e42, -⟩ := h; exact Rg.wanted_some (by rfl) (by rfl) e42)
  · rintro a w1 hb ⟨e7, e42, -⟩
    conv at e7 => rhs; whnf
    have n7 := e7
    simp only [Act.eval, Array.getD_eq_getD_getElem?] at n7
    replace e42 : a.eval (.tmp 42) = _ := e42
    have n42 := e42
    simp only [Act.eval, Array.getD_eq_getD_getElem?] at n42
    apply Rg.gives_value
    · conv => lhs; simp [go_sem, n7, n42, cells4 (heap_keep' hb hBa_), cells4 (heap_keep' hb hBb_), cells4 (heap_keep' hb hBc_), cells4 (heap_keep' hb hBk_)]
    · exact ⟨rfl, Below.refl _ _⟩
  apply Rg.ch_def (by rfl) (fun a w1 h => by obtain ⟨e42, -⟩ := h; exact Rg.wanted_some (by rfl) (by rfl) e42)
  · rintro a w1 hb ⟨e42, -⟩
    replace e42 : a.eval (.tmp 42) = _ := e42
    apply Rg.gives_enter
    · exact run_call Try.func32 (by kernel_rfl) rfl #[] (by rfl) (by simp)
    · refine (HO.out _).mono ?_
      rintro e w2 ⟨rfl, hb2⟩
      exact ⟨_, rfl, rfl, hb2⟩
  apply Rg.ch_def (by rfl) (fun a w1 h => by obtain ⟨-, -, e42, -⟩ := h; exact Rg.wanted_some (by rfl) (by rfl) e42)
  · rintro a w1 hb ⟨e43, e44, e42, -⟩
    replace e43 : a.eval (.tmp 43) = _ := e43
    replace e44 : a.eval (.tmp 44) = _ := e44
    replace e42 : a.eval (.tmp 42) = _ := e42
    apply Rg.gives_enter
    · apply run_call Try.func21 (by kernel_rfl) rfl _ (by rfl)
      conv => lhs; simp only [List.map_toArray, List.map_cons, List.map_nil, eval_const_, eval_global_, e43, e44]
    · refine (G9.out _).mono ?_
      rintro e w2 ⟨rfl, hb2⟩
      exact ⟨_, rfl, rfl, hb2⟩
  apply Rg.ch_pure (by rfl)
  · rintro a w1 ⟨e42, e45, -⟩
    replace e42 : a.eval (.tmp 42) = _ := e42
    have n42 := e42
    simp only [Act.eval, Array.getD_eq_getD_getElem?] at n42
    replace e45 : a.eval (.tmp 45) = _ := e45
    have n45 := e45
    simp only [Act.eval, Array.getD_eq_getD_getElem?] at n45
    apply Rg.yields_run (Rg.wanted_none (by rfl))
    intro w2
    conv => lhs; simp [go_sem, n42, n45, E1, E2, E3]
  apply Rg.ch_pure (by rfl)
  · rintro a w1 ⟨e46, -⟩
    replace e46 : a.eval (.tmp 46) = _ := e46
    have n46 := e46
    simp only [Act.eval, Array.getD_eq_getD_getElem?] at n46
    apply Rg.yields_run (Rg.wanted_none (by rfl))
    intro w2
    conv => lhs; simp [go_sem, n46, E1, E2, E3]
  intro w1 hb1
  rintro _ rfl _ rfl _ rfl _ rfl _ rfl _ rfl _ rfl _ rfl _ rfl _ rfl _ rfl _ rfl _ rfl _ rfl _ rfl _ rfl _ rfl _ rfl _ rfl _ rfl _ rfl _ rfl _ rfl _ rfl _ rfl _ rfl _ rfl _ rfl _ rfl _ rfl _ rfl _ rfl _ rfl _ rfl _ rfl
  change Go.wpList _ _ _ _ _ _
  set_option maxRecDepth 100000 in simp only [List.drop_succ_cons, List.drop_zero, List.drop_nil, Act.put, List.setIfInBounds_toArray, List.set_cons_succ, List.set_cons_zero]
  change Go.NoPanic _ _ _ _
  refine NoPanic.normal ?_
  have HBn : Hid (Below w.heap.size w w1) := Lib.hid (below_call HB0 HB0.size hb1)
  have hBa__ := heap_keep' hb1 hBa_
  have hBb__ := heap_keep' hb1 hBb_
  have hBc__ := heap_keep' hb1 hBc_
  have hBk__ := heap_keep' hb1 hBk_
  clear hb1 HB0 HB hBa_ HBa cBa fBa zBa hBb_ HBb cBb fBb zBb hBc_ HBc cBc fBc zBc hBk_
  clear hW
  obtain ⟨wc, rfl⟩ : ∃ x : World, x = w1 := ⟨_, rfl⟩
  have HB := HBn; clear HBn
  have HBa := Lib.hid hBa__; have cBa := cells4 hBa__; have fBa := frozen_of hBa__; have zBa := lt_of_heap hBa__; clear hBa__
  have HBb := Lib.hid hBb__; have cBb := cells4 hBb__; have fBb := frozen_of hBb__; have zBb := lt_of_heap hBb__; clear hBb__
  have HBc := Lib.hid hBc__; have cBc := cells4 hBc__; have fBc := frozen_of hBc__; have zBc := lt_of_heap hBc__; clear hBc__
  have HBk := Lib.hid hBk__; have cBk := cells4 hBk__; have fBk := frozen_of hBk__; have zBk := lt_of_heap hBk__; clear hBk__
  go_wp2
  go_ret
  refine ⟨rfl, ?_⟩
  have hB0 := HB.out; have hS0 := hB0.size; first | exact hB0 | go_grown

end Go.Proofs.Ytldnjbpcdojffaa
