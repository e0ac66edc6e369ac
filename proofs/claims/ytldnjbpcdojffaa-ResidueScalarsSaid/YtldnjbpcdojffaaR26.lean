/- @@NUM 25 The walks of residue's Order and double. Conditions: words are below 2^64. -/
import Derived.Test.YtldnjbpcdojffaaR6
import Derived.Test.YtldnjbpcdojffaaOrd
import Derived.WalkSmall
namespace Go.Proofs.Ytldnjbpcdojffaa
set_option linter.unusedVariables false
set_option linter.unusedSimpArgs false
open Go Go.RowKit
open Pl (V V8 W4 T256 pL)

theorem Order_fact : ∀ w : World, Calls Try.prog 32 #[] w fun e w' => e = .returned (.agg #[.int .u64 6346243789798364141, .int .u64 1503914060200516822, .int .u64 0, .int .u64 1152921504606846976]) ∧ Below w.heap.size w w' := by
  intro w
  go_enter Try.func32, Try.ntmps32
  go_wp2
  refine bodyPost_ret (v := .agg #[.int .u64 6346243789798364141, .int .u64 1503914060200516822, .int .u64 0, .int .u64 1152921504606846976]) (by simp [results, Try.results32, go_sem]) rfl ⟨rfl, ?_⟩
  go_grown

theorem or_bit {s one : Nat} (hs : s < 18446744073709551616) (he : s % 2 = 0) (h1 : one ≤ 1) : bits .or .u64 (s : Int) (one : Int) = ((s + one : Nat) : Int) := by
  rw [bits_or_u64_nat s one hs (by omega)]
  congr 1
  rcases (show one = 0 ∨ one = 1 by omega) with rfl | rfl
  · simp
  · obtain ⟨k, rfl⟩ : ∃ k, s = 2 * k := ⟨s / 2, by omega⟩
    exact (Nat.two_pow_add_eq_or_of_lt (i := 1) (b := 1) (by omega) k).symm

theorem double_spec {n0 n1 n2 n3 s0 s1 s2 s3 c one : Nat} (hn : W4 n0 n1 n2 n3) (hl : V n0 n1 n2 n3 < pL) (h1 : one ≤ 1) (h : W4 s0 s1 s2 s3 ∧ c ≤ 1 ∧ V s0 s1 s2 s3 + T256 * c = V n0 n1 n2 n3 + V n0 n1 n2 n3) : s0 % 2 = 0 ∧ W4 (s0 + one) s1 s2 s3 ∧ V (s0 + one) s1 s2 s3 = 2 * V n0 n1 n2 n3 + one := by
  obtain ⟨hs, hc, h⟩ := h
  have hp := Pl.pL_small
  have hv : V (s0 + one) s1 s2 s3 = V s0 s1 s2 s3 + one := by unfold V; omega
  have hc0 : c = 0 := by
    rcases (show c = 0 ∨ c = 1 by omega) with rfl | rfl
    · rfl
    · omega
  subst hc0
  have he : s0 % 2 = 0 := by
    have h2 : V s0 s1 s2 s3 % 2 = 0 := by omega
    unfold V at h2; omega
  refine ⟨he, ?_, by omega⟩
  unfold W4 at hs ⊢
  omega

set_option maxHeartbeats 2000000 in
theorem double_fact (n0 n1 n2 n3 one : Nat) (hn : W4 n0 n1 n2 n3) (hl : V n0 n1 n2 n3 < pL) (h1 : one ≤ 1) : ∃ r0 r1 r2 r3 : Nat, (W4 r0 r1 r2 r3 ∧ V r0 r1 r2 r3 = (2 * V n0 n1 n2 n3 + one) % pL) ∧ ∀ w : World,
    Calls Try.prog 52 #[.agg #[.int .u64 n0, .int .u64 n1, .int .u64 n2, .int .u64 n3], .int .u64 one] w fun e w' => e = .returned (.agg #[.int .u64 r0, .int .u64 r1, .int .u64 r2, .int .u64 r3]) ∧ Below w.heap.size w w' := by
  obtain ⟨s0, s1, s2, s3, c, hs, FP⟩ := plus_fact n0 n1 n2 n3 n0 n1 n2 n3 hn hn
  obtain ⟨he, ht, hv⟩ := double_spec hn hl h1 hs
  have hor := or_bit hs.1.1 he h1
  obtain ⟨t0, ht0⟩ : ∃ t0, s0 + one = t0 := ⟨_, rfl⟩
  rw [ht0] at ht hv hor
  obtain ⟨z, hz, FL⟩ := less_fact t0 s1 s2 s3 _ _ _ _ ht Pl.pL_W
  rw [Pl.pL_words, hv] at hz
  have HP := Lib.hid FP; have HL := Lib.hid FL; have HO := Lib.hid Order_fact
  clear FP FL ht0 hs he
  rcases Pl.twice_bit hl h1 with ⟨hlt, hm⟩ | ⟨hge, hm⟩
  · obtain rfl : z = true := hz.2 hlt
    refine ⟨t0, s1, s2, s3, ⟨ht, by rw [hv, hm]⟩, fun w => ?_⟩
    clear hz hm hlt hv ht hl hn h1
    go_enter Try.func52, Try.ntmps52
    go_wp2_with (fail)
    go_at_call 53
    refine (HP.out _).mono ?_
    rintro e wa ⟨rfl, hb⟩
    have HBn : Hid (Below w.heap.size w wa) := Lib.hid ((fun (h : Below _ _ _) => below_call h h.size hb) (by first | go_grown))
    have hBa_ : wa.heap[w.heap.size]? = some (.cells #[.int .u64 n0, .int .u64 n1, .int .u64 n2, .int .u64 n3] 25 (0, 0)) := heap_keep' hb (by repeat (first | (with_reducible refine heap_new' ?_ _; simp; done) | (with_reducible refine keep4 ?_ (by omega) _ _ _ _) | (with_reducible refine heap_old ?_ _) | (with_reducible refine heap_drew ?_) | (with_reducible refine heap_set_ne ?_ (by simp <;> omega) _)))
    have hBr_ : wa.heap[w.heap.size + 1]? = some (.cells #[.int .u64 0, .int .u64 0, .int .u64 0, .int .u64 0] 25 (0, 0)) := heap_keep' hb (by repeat (first | (with_reducible refine heap_new' ?_ _; simp; done) | (with_reducible refine keep4 ?_ (by omega) _ _ _ _) | (with_reducible refine heap_old ?_ _) | (with_reducible refine heap_drew ?_) | (with_reducible refine heap_set_ne ?_ (by simp <;> omega) _)))
    clear hb
    have HB := HBn; clear HBn
    have HBa := Lib.hid hBa_; have cBa := cells4 hBa_; have fBa := frozen_of hBa_; have zBa := lt_of_heap hBa_; clear hBa_
    have HBr := Lib.hid hBr_; have cBr := cells4 hBr_; have fBr := frozen_of hBr_; have zBr := lt_of_heap hBr_; clear hBr_
    go_wp2
    refine Rg.region_ (n := 29) [0, 0, 3, 7] [1, 1, 1, 0] [18, 19, 20, 21] [[(5, none)], [], [(18, some 0), (19, some 1)], [(20, some 2)]] 4 (by kernel_rfl) (by kernel_rfl) (by rfl) ?_
    intro W hW
    have hBa_ : W.heap[w.heap.size]? = some (.cells #[.int .u64 n0, .int .u64 n1, .int .u64 n2, .int .u64 n3] 25 (0, 0)) := by rw [hW]; exact (by repeat (first | (with_reducible exact HBa.out) | (with_reducible exact set4 HBa.out _ _ _ _) | (with_reducible apply set4) | (with_reducible refine heap_new' ?_ _; simp; done) | (with_reducible refine keep4 ?_ (by omega) _ _ _ _) | (with_reducible refine heap_old ?_ _) | (with_reducible refine heap_drew ?_) | (with_reducible refine heap_set_ne ?_ (by simp <;> omega) _)))
    have hBr_ : W.heap[w.heap.size + 1]? = some (.cells #[.int .u64 0, .int .u64 0, .int .u64 0, .int .u64 0] 25 (0, 0)) := by rw [hW]; exact (by repeat (first | (with_reducible exact HBr.out) | (with_reducible exact set4 HBr.out _ _ _ _) | (with_reducible apply set4) | (with_reducible refine heap_new' ?_ _; simp; done) | (with_reducible refine keep4 ?_ (by omega) _ _ _ _) | (with_reducible refine heap_old ?_ _) | (with_reducible refine heap_drew ?_) | (with_reducible refine heap_set_ne ?_ (by simp <;> omega) _)))
    have hBo_ : W.heap[wa.heap.size]? = some (.cells #[.int .u64 t0, .int .u64 s1, .int .u64 s2, .int .u64 s3] 25 (0, 0)) := by rw [hW]; exact (by repeat (first | (with_reducible refine heap_new' ?_ _; simp; done) | (with_reducible refine keep4 ?_ (by omega) _ _ _ _) | (with_reducible refine heap_old ?_ _) | (with_reducible refine heap_drew ?_) | (with_reducible refine heap_set_ne ?_ (by simp <;> omega) _)))
    have HB0 : Below w.heap.size w W := by rw [hW]; have hB0 := HB.out; have hS0 := hB0.size; first | exact hB0.drew | exact (set4_below hB0 (by omega) _ _ _ _).drew | go_grown
    change Rg.Chain' _ _ _ _ _ [(0, 1, 18, [(5, none)]), (1, 1, 19, []), (2, 1, 20, [(18, some 0), (19, some 1)]), (3, 0, 21, [(20, some 2)])] [(0, 1, 18, [(5, none)]), (1, 1, 19, []), (2, 1, 20, [(18, some 0), (19, some 1)]), (3, 0, 21, [(20, some 2)])] _
    apply Rg.ch_def (by rfl) (fun a w1 _ => Rg.wanted_none (by rfl))
    · rintro a w1 hb ⟨e5, -⟩
      conv at e5 => rhs; whnf
      have n5 := e5
      simp only [Act.eval, Array.getD_eq_getD_getElem?] at n5
      apply Rg.gives_value
      · conv => lhs; simp [go_sem, n5, cells4 (heap_keep' hb hBa_), cells4 (heap_keep' hb hBr_), cells4 (heap_keep' hb hBo_)]
      · exact ⟨rfl, Below.refl _ _⟩
    apply Rg.ch_def (by rfl) (fun a w1 _ => Rg.wanted_none (by rfl))
    · rintro a w1 hb -
      apply Rg.gives_enter
      · exact run_call Try.func32 (by kernel_rfl) rfl #[] (by rfl) (by simp)
      · refine (HO.out _).mono ?_
        rintro e w2 ⟨rfl, hb2⟩
        exact ⟨_, rfl, rfl, hb2⟩
    apply Rg.ch_def (by rfl) (fun a w1 _ => Rg.wanted_none (by rfl))
    · rintro a w1 hb ⟨e18, e19, -⟩
      replace e18 : a.eval (.tmp 18) = _ := e18
      replace e19 : a.eval (.tmp 19) = _ := e19
      apply Rg.gives_enter
      · apply run_call Try.func21 (by kernel_rfl) rfl _ (by rfl)
        conv => lhs; simp only [List.map_toArray, List.map_cons, List.map_nil, eval_const_, eval_global_, e18, e19]
      · refine (HL.out _).mono ?_
        rintro e w2 ⟨rfl, hb2⟩
        exact ⟨_, rfl, rfl, hb2⟩
    apply Rg.ch_pure (by rfl)
    · rintro a w1 ⟨e20, -⟩
      replace e20 : a.eval (.tmp 20) = _ := e20
      have n20 := e20
      simp only [Act.eval, Array.getD_eq_getD_getElem?] at n20
      apply Rg.yields_run (Rg.wanted_none (by rfl))
      intro w2
      conv => lhs; simp [go_sem, n20]
    intro w1 hb1
    rintro _ rfl _ rfl _ rfl _ rfl
    change Go.wpList _ _ _ _ _ _
    simp only [List.drop_succ_cons, List.drop_zero, List.drop_nil, Act.put, List.setIfInBounds_toArray, List.set_cons_succ, List.set_cons_zero]
    change Go.NoPanic _ _ _ _
    refine NoPanic.normal ?_
    have HBn : Hid (Below w.heap.size w w1) := Lib.hid (below_call HB0 HB0.size hb1)
    have hBa__ := heap_keep' hb1 hBa_
    have hBr__ := heap_keep' hb1 hBr_
    have hBo__ := heap_keep' hb1 hBo_
    clear hb1 HB0 HB hBa_ HBa cBa fBa zBa hBr_ HBr cBr fBr zBr hBo_
    clear hW
    obtain ⟨wb, rfl⟩ : ∃ x : World, x = w1 := ⟨_, rfl⟩
    have HB := HBn; clear HBn
    have HBa := Lib.hid hBa__; have cBa := cells4 hBa__; have fBa := frozen_of hBa__; have zBa := lt_of_heap hBa__; clear hBa__
    have HBr := Lib.hid hBr__; have cBr := cells4 hBr__; have fBr := frozen_of hBr__; have zBr := lt_of_heap hBr__; clear hBr__
    have HBo := Lib.hid hBo__; have cBo := cells4 hBo__; have fBo := frozen_of hBo__; have zBo := lt_of_heap hBo__; clear hBo__
    go_wp2
    have hK := set4 HBr.out (.int .u64 t0) (.int .u64 s1) (.int .u64 s2) (.int .u64 s3)
    have hQ := cells4 hK
    exact bodyPost_ret (v := .agg #[.int .u64 t0, .int .u64 s1, .int .u64 s2, .int .u64 s3]) (by simp [results, Try.results52, go_sem, hQ]) rfl ⟨rfl, set4_below HB.out (by omega) _ _ _ _⟩
  · obtain rfl : z = false := by
      cases z
      · rfl
      · exact absurd (hz.1 rfl) (by omega)
    obtain ⟨d0, d1, d2, d3, c2, ⟨hd, hc2, hdv⟩, FM⟩ := minus_fact t0 s1 s2 s3 _ _ _ _ ht Pl.pL_W
    rw [Pl.pL_words, hv] at hdv
    have hd2 := Pl.V_lt hd
    have hp := Pl.pL_small
    have hc0 : c2 = 0 := by
      rcases (show c2 = 0 ∨ c2 = 1 by omega) with rfl | rfl
      · rfl
      · omega
    subst hc0
    have HM := Lib.hid FM
    refine ⟨d0, d1, d2, d3, ⟨hd, by omega⟩, fun w => ?_⟩
    clear FM hz hm hge hv ht hl hn h1 hd hc2 hdv hd2 hp
    go_enter Try.func52, Try.ntmps52
    go_wp2_with (fail)
    go_at_call 53
    refine (HP.out _).mono ?_
    rintro e wa ⟨rfl, hb⟩
    have HBn : Hid (Below w.heap.size w wa) := Lib.hid ((fun (h : Below _ _ _) => below_call h h.size hb) (by first | go_grown))
    have hBa_ : wa.heap[w.heap.size]? = some (.cells #[.int .u64 n0, .int .u64 n1, .int .u64 n2, .int .u64 n3] 25 (0, 0)) := heap_keep' hb (by repeat (first | (with_reducible refine heap_new' ?_ _; simp; done) | (with_reducible refine keep4 ?_ (by omega) _ _ _ _) | (with_reducible refine heap_old ?_ _) | (with_reducible refine heap_drew ?_) | (with_reducible refine heap_set_ne ?_ (by simp <;> omega) _)))
    have hBr_ : wa.heap[w.heap.size + 1]? = some (.cells #[.int .u64 0, .int .u64 0, .int .u64 0, .int .u64 0] 25 (0, 0)) := heap_keep' hb (by repeat (first | (with_reducible refine heap_new' ?_ _; simp; done) | (with_reducible refine keep4 ?_ (by omega) _ _ _ _) | (with_reducible refine heap_old ?_ _) | (with_reducible refine heap_drew ?_) | (with_reducible refine heap_set_ne ?_ (by simp <;> omega) _)))
    clear hb
    have HB := HBn; clear HBn
    have HBa := Lib.hid hBa_; have cBa := cells4 hBa_; have fBa := frozen_of hBa_; have zBa := lt_of_heap hBa_; clear hBa_
    have HBr := Lib.hid hBr_; have cBr := cells4 hBr_; have fBr := frozen_of hBr_; have zBr := lt_of_heap hBr_; clear hBr_
    have kz1 := zBr
    go_wp2
    refine Rg.region_ (n := 29) [0, 0, 3, 7] [1, 1, 1, 0] [18, 19, 20, 21] [[(5, none)], [], [(18, some 0), (19, some 1)], [(20, some 2)]] 4 (by kernel_rfl) (by kernel_rfl) (by rfl) ?_
    intro W hW
    have hBa_ : W.heap[w.heap.size]? = some (.cells #[.int .u64 n0, .int .u64 n1, .int .u64 n2, .int .u64 n3] 25 (0, 0)) := by rw [hW]; exact (by repeat (first | (with_reducible exact HBa.out) | (with_reducible exact set4 HBa.out _ _ _ _) | (with_reducible apply set4) | (with_reducible refine heap_new' ?_ _; simp; done) | (with_reducible refine keep4 ?_ (by omega) _ _ _ _) | (with_reducible refine heap_old ?_ _) | (with_reducible refine heap_drew ?_) | (with_reducible refine heap_set_ne ?_ (by simp <;> omega) _)))
    have hBr_ : W.heap[w.heap.size + 1]? = some (.cells #[.int .u64 0, .int .u64 0, .int .u64 0, .int .u64 0] 25 (0, 0)) := by rw [hW]; exact (by repeat (first | (with_reducible exact HBr.out) | (with_reducible exact set4 HBr.out _ _ _ _) | (with_reducible apply set4) | (with_reducible refine heap_new' ?_ _; simp; done) | (with_reducible refine keep4 ?_ (by omega) _ _ _ _) | (with_reducible refine heap_old ?_ _) | (with_reducible refine heap_drew ?_) | (with_reducible refine heap_set_ne ?_ (by simp <;> omega) _)))
    have hBo_ : W.heap[wa.heap.size]? = some (.cells #[.int .u64 t0, .int .u64 s1, .int .u64 s2, .int .u64 s3] 25 (0, 0)) := by rw [hW]; exact (by repeat (first | (with_reducible refine heap_new' ?_ _; simp; done) | (with_reducible refine keep4 ?_ (by omega) _ _ _ _) | (with_reducible refine heap_old ?_ _) | (with_reducible refine heap_drew ?_) | (with_reducible refine heap_set_ne ?_ (by simp <;> omega) _)))
    have HB0 : Below w.heap.size w W := by rw [hW]; have hB0 := HB.out; have hS0 := hB0.size; first | exact hB0.drew | exact (set4_below hB0 (by omega) _ _ _ _).drew | go_grown
    change Rg.Chain' _ _ _ _ _ [(0, 1, 18, [(5, none)]), (1, 1, 19, []), (2, 1, 20, [(18, some 0), (19, some 1)]), (3, 0, 21, [(20, some 2)])] [(0, 1, 18, [(5, none)]), (1, 1, 19, []), (2, 1, 20, [(18, some 0), (19, some 1)]), (3, 0, 21, [(20, some 2)])] _
    apply Rg.ch_def (by rfl) (fun a w1 _ => Rg.wanted_none (by rfl))
    · rintro a w1 hb ⟨e5, -⟩
      conv at e5 => rhs; whnf
      have n5 := e5
      simp only [Act.eval, Array.getD_eq_getD_getElem?] at n5
      apply Rg.gives_value
      · conv => lhs; simp [go_sem, n5, cells4 (heap_keep' hb hBa_), cells4 (heap_keep' hb hBr_), cells4 (heap_keep' hb hBo_)]
      · exact ⟨rfl, Below.refl _ _⟩
    apply Rg.ch_def (by rfl) (fun a w1 _ => Rg.wanted_none (by rfl))
    · rintro a w1 hb -
      apply Rg.gives_enter
      · exact run_call Try.func32 (by kernel_rfl) rfl #[] (by rfl) (by simp)
      · refine (HO.out _).mono ?_
        rintro e w2 ⟨rfl, hb2⟩
        exact ⟨_, rfl, rfl, hb2⟩
    apply Rg.ch_def (by rfl) (fun a w1 _ => Rg.wanted_none (by rfl))
    · rintro a w1 hb ⟨e18, e19, -⟩
      replace e18 : a.eval (.tmp 18) = _ := e18
      replace e19 : a.eval (.tmp 19) = _ := e19
      apply Rg.gives_enter
      · apply run_call Try.func21 (by kernel_rfl) rfl _ (by rfl)
        conv => lhs; simp only [List.map_toArray, List.map_cons, List.map_nil, eval_const_, eval_global_, e18, e19]
      · refine (HL.out _).mono ?_
        rintro e w2 ⟨rfl, hb2⟩
        exact ⟨_, rfl, rfl, hb2⟩
    apply Rg.ch_pure (by rfl)
    · rintro a w1 ⟨e20, -⟩
      replace e20 : a.eval (.tmp 20) = _ := e20
      have n20 := e20
      simp only [Act.eval, Array.getD_eq_getD_getElem?] at n20
      apply Rg.yields_run (Rg.wanted_none (by rfl))
      intro w2
      conv => lhs; simp [go_sem, n20]
    intro w1 hb1
    rintro _ rfl _ rfl _ rfl _ rfl
    change Go.wpList _ _ _ _ _ _
    simp only [List.drop_succ_cons, List.drop_zero, List.drop_nil, Act.put, List.setIfInBounds_toArray, List.set_cons_succ, List.set_cons_zero]
    change Go.NoPanic _ _ _ _
    refine NoPanic.normal ?_
    have HBn : Hid (Below w.heap.size w w1) := Lib.hid (below_call HB0 HB0.size hb1)
    have hBa__ := heap_keep' hb1 hBa_
    have hBr__ := heap_keep' hb1 hBr_
    have hBo__ := heap_keep' hb1 hBo_
    clear hb1 HB0 HB hBa_ HBa cBa fBa zBa hBr_ HBr cBr fBr zBr hBo_
    clear hW
    obtain ⟨wb, rfl⟩ : ∃ x : World, x = w1 := ⟨_, rfl⟩
    have HB := HBn; clear HBn
    have HBa := Lib.hid hBa__; have cBa := cells4 hBa__; have fBa := frozen_of hBa__; have zBa := lt_of_heap hBa__; clear hBa__
    have HBr := Lib.hid hBr__; have cBr := cells4 hBr__; have fBr := frozen_of hBr__; have zBr := lt_of_heap hBr__; clear hBr__
    have HBo := Lib.hid hBo__; have cBo := cells4 hBo__; have fBo := frozen_of hBo__; have zBo := lt_of_heap hBo__; clear hBo__
    go_wp2
    refine Rg.region_ (n := 29) [0, 0, 3, 7, 15, 15, 31] [1, 1, 1, 0, 0, 0, 2] [23, 24, 25, 22, 26, 27, 0] [[(5, none)], [], [(23, some 0), (24, some 1)], [(25, some 2)], [(22, some 3)], [(22, some 3)], [(5, none), (26, some 4)]] 6 (by kernel_rfl) (by kernel_rfl) (by rfl) ?_
    intro W hW
    have hBa_ : W.heap[w.heap.size]? = some (.cells #[.int .u64 n0, .int .u64 n1, .int .u64 n2, .int .u64 n3] 25 (0, 0)) := by rw [hW]; exact (by repeat (first | (with_reducible exact HBa.out) | (with_reducible exact set4 HBa.out _ _ _ _) | (with_reducible apply set4) | (with_reducible refine heap_new' ?_ _; simp; done) | (with_reducible refine keep4 ?_ (by omega) _ _ _ _) | (with_reducible refine heap_old ?_ _) | (with_reducible refine heap_drew ?_) | (with_reducible refine heap_set_ne ?_ (by simp <;> omega) _)))
    have hBr_ : W.heap[w.heap.size + 1]? = some (.cells #[.int .u64 0, .int .u64 0, .int .u64 0, .int .u64 0] 25 (0, 0)) := by rw [hW]; exact (by repeat (first | (with_reducible exact HBr.out) | (with_reducible exact set4 HBr.out _ _ _ _) | (with_reducible apply set4) | (with_reducible refine heap_new' ?_ _; simp; done) | (with_reducible refine keep4 ?_ (by omega) _ _ _ _) | (with_reducible refine heap_old ?_ _) | (with_reducible refine heap_drew ?_) | (with_reducible refine heap_set_ne ?_ (by simp <;> omega) _)))
    have hBo_ : W.heap[wa.heap.size]? = some (.cells #[.int .u64 t0, .int .u64 s1, .int .u64 s2, .int .u64 s3] 25 (0, 0)) := by rw [hW]; exact (by repeat (first | (with_reducible exact HBo.out) | (with_reducible exact set4 HBo.out _ _ _ _) | (with_reducible apply set4) | (with_reducible refine heap_new' ?_ _; simp; done) | (with_reducible refine keep4 ?_ (by omega) _ _ _ _) | (with_reducible refine heap_old ?_ _) | (with_reducible refine heap_drew ?_) | (with_reducible refine heap_set_ne ?_ (by simp <;> omega) _)))
    have HB0 : Below w.heap.size w W := by rw [hW]; have hB0 := HB.out; have hS0 := hB0.size; first | exact hB0.drew | exact (set4_below hB0 (by omega) _ _ _ _).drew | go_grown
    change Rg.Chain' _ _ _ _ _ [(0, 1, 23, [(5, none)]), (1, 1, 24, []), (2, 1, 25, [(23, some 0), (24, some 1)]), (3, 0, 22, [(25, some 2)]), (4, 0, 26, [(22, some 3)]), (5, 0, 27, [(22, some 3)])] [(0, 1, 23, [(5, none)]), (1, 1, 24, []), (2, 1, 25, [(23, some 0), (24, some 1)]), (3, 0, 22, [(25, some 2)]), (4, 0, 26, [(22, some 3)]), (5, 0, 27, [(22, some 3)])] _
    apply Rg.ch_def (by rfl) (fun a w1 _ => Rg.wanted_none (by rfl))
    · rintro a w1 hb ⟨e5, -⟩
      conv at e5 => rhs; whnf
      have n5 := e5
      simp only [Act.eval, Array.getD_eq_getD_getElem?] at n5
      apply Rg.gives_value
      · conv => lhs; simp [go_sem, n5, cells4 (heap_keep' hb hBa_), cells4 (heap_keep' hb hBr_), cells4 (heap_keep' hb hBo_)]
      · exact ⟨rfl, Below.refl _ _⟩
    apply Rg.ch_def (by rfl) (fun a w1 _ => Rg.wanted_none (by rfl))
    · rintro a w1 hb -
      apply Rg.gives_enter
      · exact run_call Try.func32 (by kernel_rfl) rfl #[] (by rfl) (by simp)
      · refine (HO.out _).mono ?_
        rintro e w2 ⟨rfl, hb2⟩
        exact ⟨_, rfl, rfl, hb2⟩
    apply Rg.ch_def (by rfl) (fun a w1 _ => Rg.wanted_none (by rfl))
    · rintro a w1 hb ⟨e23, e24, -⟩
      replace e23 : a.eval (.tmp 23) = _ := e23
      replace e24 : a.eval (.tmp 24) = _ := e24
      apply Rg.gives_enter
      · apply run_call Try.func45 (by kernel_rfl) rfl _ (by rfl)
        conv => lhs; simp only [List.map_toArray, List.map_cons, List.map_nil, eval_const_, eval_global_, e23, e24]
      · refine (HM.out _).mono ?_
        rintro e w2 ⟨rfl, hb2⟩
        exact ⟨_, rfl, rfl, hb2⟩
    apply Rg.ch_pure (by rfl)
    · rintro a w1 ⟨e25, -⟩
      replace e25 : a.eval (.tmp 25) = _ := e25
      have n25 := e25
      simp only [Act.eval, Array.getD_eq_getD_getElem?] at n25
      apply Rg.yields_run (Rg.wanted_none (by rfl))
      intro w2
      conv => lhs; simp [go_sem, n25]
    apply Rg.ch_pure (by rfl)
    · rintro a w1 ⟨e22, -⟩
      replace e22 : a.eval (.tmp 22) = _ := e22
      have n22 := e22
      simp only [Act.eval, Array.getD_eq_getD_getElem?] at n22
      apply Rg.yields_run (Rg.wanted_none (by rfl))
      intro w2
      conv => lhs; simp [go_sem, n22]
    apply Rg.ch_pure (by rfl)
    · rintro a w1 ⟨e22, -⟩
      replace e22 : a.eval (.tmp 22) = _ := e22
      have n22 := e22
      simp only [Act.eval, Array.getD_eq_getD_getElem?] at n22
      apply Rg.yields_run (Rg.wanted_none (by rfl))
      intro w2
      conv => lhs; simp [go_sem, n22]
    intro w1 hb1
    rintro _ rfl _ rfl _ rfl _ rfl _ rfl _ rfl
    change Go.wpList _ _ _ _ _ _
    simp only [List.drop_succ_cons, List.drop_zero, List.drop_nil, Act.put, List.setIfInBounds_toArray, List.set_cons_succ, List.set_cons_zero]
    have HBn : Hid (Below w.heap.size w w1) := Lib.hid (below_call HB0 HB0.size hb1)
    have hBa__ := heap_keep' hb1 hBa_
    have hBr__ := heap_keep' hb1 hBr_
    have hBo__ := heap_keep' hb1 hBo_
    clear hb1 HB0 HB hBa_ HBa cBa fBa zBa hBr_ HBr cBr fBr zBr hBo_ HBo cBo fBo zBo
    clear hW
    obtain ⟨wc, rfl⟩ : ∃ x : World, x = w1 := ⟨_, rfl⟩
    have HB := HBn; clear HBn
    have HBa := Lib.hid hBa__; have cBa := cells4 hBa__; have fBa := frozen_of hBa__; have zBa := lt_of_heap hBa__; clear hBa__
    have HBr := Lib.hid hBr__; have cBr := cells4 hBr__; have fBr := frozen_of hBr__; have zBr := lt_of_heap hBr__; clear hBr__
    have HBo := Lib.hid hBo__; have cBo := cells4 hBo__; have fBo := frozen_of hBo__; have zBo := lt_of_heap hBo__; clear hBo__
    go_wp2
    refine NoPanic.normal ?_
    go_wp2
    have hK := set4 (keep4 (b' := wa.heap.size) HBr.out (by omega) (.int .u64 d0) (.int .u64 d1) (.int .u64 d2) (.int .u64 d3)) (.int .u64 d0) (.int .u64 d1) (.int .u64 d2) (.int .u64 d3)
    have hL := set4_below (set4_below HB.out (b := wa.heap.size) (by omega) (.int .u64 d0) (.int .u64 d1) (.int .u64 d2) (.int .u64 d3)) (b := w.heap.size + 1) (by omega) (.int .u64 d0) (.int .u64 d1) (.int .u64 d2) (.int .u64 d3)
    have hQ := cells4 hK
    exact bodyPost_ret (v := .agg #[.int .u64 d0, .int .u64 d1, .int .u64 d2, .int .u64 d3]) (by simp [results, Try.results52, go_sem, hQ]) rfl ⟨rfl, hL⟩

end Go.Proofs.Ytldnjbpcdojffaa
