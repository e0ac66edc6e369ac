/- @@NUM 25 The walk of residue's ScalarMul. Conditions: words are below 2^64. -/
import Derived.Test.YtldnjbpcdojffaaR33
namespace Go.Proofs.Ytldnjbpcdojffaa
set_option linter.unusedVariables false
set_option linter.unusedSimpArgs false
open Go Go.RowKit
open Pl (V V8 W4 T256 pL le bytesOf)

theorem array_ptr (b o c : Nat) (w : World) : (Instr.arrayAt 25 (.slice (some ⟨b, o, none⟩) 4 c)).run Try.prog w = .ok (.pointer (some ⟨b, o, none⟩)) w := by kernel_rfl
theorem own_bts {N : Nat} {zs : List Nat} {w : World} {v : Value} (h : OwnB N 64 zs w v) (hz : zs.length = 64) : Bts w.heap.size w v zs := by
  refine bts_owned (n := N) ?_
  rw [hz]; exact h

theorem own_mono {N M n : Nat} {zs : List Nat} {w : World} {v : Value} (h : w.ownsRow M 5 1 v n (u8s zs)) (hN : N ≤ M) : OwnB N n zs w v := by
  obtain ⟨h1, h2⟩ := h
  refine ⟨h1, ?_⟩
  rcases h2 with h2 | ⟨g, cap, cur, e, hb, h3⟩
  · exact .inl h2
  · exact .inr ⟨g, cap, cur, e, Nat.le_trans hN hb, h3⟩

set_option maxHeartbeats 4000000 in
theorem ScalarMul_fact (a0 a1 a2 a3 b0 b1 b2 b3 : Nat) (ha : W4 a0 a1 a2 a3) (hb : W4 b0 b1 b2 b3) : ∃ r0 r1 r2 r3 : Nat, (W4 r0 r1 r2 r3 ∧ V r0 r1 r2 r3 = V a0 a1 a2 a3 * V b0 b1 b2 b3 % pL) ∧ ∀ w : World,
    Calls Try.prog 41 #[.agg #[.int .u64 a0, .int .u64 a1, .int .u64 a2, .int .u64 a3], .agg #[.int .u64 b0, .int .u64 b1, .int .u64 b2, .int .u64 b3]] w fun e w' => e = .returned (.agg #[.int .u64 r0, .int .u64 r1, .int .u64 r2, .int .u64 r3]) ∧ Below w.heap.size w w' := by
  obtain ⟨x0, x1, x2, x3, x4, x5, x6, x7, ⟨hl, hh, hv⟩, FP⟩ := product_fact a0 a1 a2 a3 b0 b1 b2 b3 ha hb
  obtain ⟨xs, hxs⟩ : ∃ xs, bytesOf 32 (V x0 x1 x2 x3) = xs := ⟨_, rfl⟩
  obtain ⟨ys, hys⟩ : ∃ ys, bytesOf 32 (V x4 x5 x6 x7) = ys := ⟨_, rfl⟩
  have lx : xs.length = 32 := by rw [← hxs, Pl.bytesOf_length]
  have ly : ys.length = 32 := by rw [← hys, Pl.bytesOf_length]
  have lz : (xs ++ ys).length = 64 := by rw [List.length_append, lx, ly]
  obtain ⟨r0, r1, r2, r3, ⟨hr, hrv⟩, FS⟩ := Scalar_fact (xs ++ ys) (fun j hj => by
    rw [List.getElem?_eq_getElem hj, Option.getD_some]
    have hm := List.getElem_mem hj
    generalize (xs ++ ys)[j] = y at hm ⊢
    rcases List.mem_append.1 hm with h | h
    · rw [← hxs] at h; exact Pl.bytesOf_lt _ _ _ h
    · rw [← hys] at h; exact Pl.bytesOf_lt _ _ _ h) (by omega) (by omega)
  have hle : le (xs ++ ys) = V a0 a1 a2 a3 * V b0 b1 b2 b3 := by
    rw [Pl.le_append, lx, ← hxs, ← hys, Pl.le_bytes32 (Pl.V_lt hl), Pl.le_bytes32 (Pl.V_lt hh), ← hv]
    unfold V8
    rw [show (256 : Nat) ^ 32 = T256 from by decide +kernel]
  rw [hle] at hrv
  have HL := Lib.hid (Bytes_fact x0 x1 x2 x3 hl); have HH := Lib.hid (Bytes_fact x4 x5 x6 x7 hh)
  rw [hxs] at HL; rw [hys] at HH
  have HP := Lib.hid FP; have HS := Lib.hid FS
  refine ⟨r0, r1, r2, r3, ⟨hr, hrv⟩, fun w => ?_⟩
  clear FP FS hxs hys hle hrv hr hv hl hh ha hb
  go_enter Try.func41, Try.ntmps41
  go_wp2_with (fail)
  go_at_call 54
  refine (HP.out _).mono ?_
  rintro e wa ⟨rfl, hb⟩
  have HBn : Hid (Below w.heap.size w wa) := Lib.hid ((fun (h : Below _ _ _) => below_call h h.size hb) (by first | go_grown))
  have hBa_ : wa.heap[w.heap.size]? = some (.cells #[.int .u64 a0, .int .u64 a1, .int .u64 a2, .int .u64 a3] 25 (0, 0)) := heap_keep' hb (by repeat (first | (with_reducible refine heap_new' ?_ _; simp; done) | (with_reducible refine keep4 ?_ (by omega) _ _ _ _) | (with_reducible refine heap_old ?_ _) | (with_reducible refine heap_drew ?_) | (with_reducible refine heap_set_ne ?_ (by simp <;> omega) _)))
  have hBb_ : wa.heap[w.heap.size + 1]? = some (.cells #[.int .u64 b0, .int .u64 b1, .int .u64 b2, .int .u64 b3] 25 (0, 0)) := heap_keep' hb (by repeat (first | (with_reducible refine heap_new' ?_ _; simp; done) | (with_reducible refine keep4 ?_ (by omega) _ _ _ _) | (with_reducible refine heap_old ?_ _) | (with_reducible refine heap_drew ?_) | (with_reducible refine heap_set_ne ?_ (by simp <;> omega) _)))
  have hBr_ : wa.heap[w.heap.size + 1 + 1]? = some (.cells #[.int .u64 0, .int .u64 0, .int .u64 0, .int .u64 0] 25 (0, 0)) := heap_keep' hb (by repeat (first | (with_reducible refine heap_new' ?_ _; simp; done) | (with_reducible refine keep4 ?_ (by omega) _ _ _ _) | (with_reducible refine heap_old ?_ _) | (with_reducible refine heap_drew ?_) | (with_reducible refine heap_set_ne ?_ (by simp <;> omega) _)))
  clear hb
  have HB := HBn; clear HBn
  have HBa := Lib.hid hBa_; have cBa := cells4 hBa_; have fBa := frozen_of hBa_; have zBa := lt_of_heap hBa_; clear hBa_
  have HBb := Lib.hid hBb_; have cBb := cells4 hBb_; have fBb := frozen_of hBb_; have zBb := lt_of_heap hBb_; clear hBb_
  have HBr := Lib.hid hBr_; have cBr := cells4 hBr_; have fBr := frozen_of hBr_; have zBr := lt_of_heap hBr_; clear hBr_
  have kz1 := zBr
  go_wp2
  refine Rg.regionS_ (fun W => St5 (u8s ys) W) (fun _ _ => st_refl _ _ _) (fun _ _ _ h => h.1) (n := 25) [0, 1, 3, 7, 0, 16, 48, 127, 255, 511, 1023, 2047, 2047, 0, 12287, 32767] [0, 0, 1, 1, 0, 0, 1, 1, 1, 1, 0, 0, 0, 1, 2, 2] [12, 13, 14, 15, 16, 17, 18, 19, 20, 21, 11, 22, 23, 6, 0, 7] [[(5, none)], [(12, some 0)], [(13, some 1)], [(14, some 2)], [(5, none)], [(16, some 4)], [(17, some 5)], [(18, some 6)], [(15, some 3), (19, some 7)], [(20, some 8)], [(21, some 9)], [(11, some 10)], [(11, some 10)], [], [(6, some 13), (22, some 11)], [(23, some 12)]] 14 (by kernel_rfl) (by kernel_rfl) (by rfl) ?_
  intro W hW
  have hBa_ : W.heap[w.heap.size]? = some (.cells #[.int .u64 a0, .int .u64 a1, .int .u64 a2, .int .u64 a3] 25 (0, 0)) := by rw [hW]; exact (by repeat (first | (with_reducible exact HBa.out) | (with_reducible exact set4 HBa.out _ _ _ _) | (with_reducible apply set4) | (with_reducible refine heap_new' ?_ _; simp; done) | (with_reducible refine keep4 ?_ (by omega) _ _ _ _) | (with_reducible refine heap_old ?_ _) | (with_reducible refine heap_drew ?_) | (with_reducible refine heap_set_ne ?_ (by simp <;> omega) _)))
  have hBb_ : W.heap[w.heap.size + 1]? = some (.cells #[.int .u64 b0, .int .u64 b1, .int .u64 b2, .int .u64 b3] 25 (0, 0)) := by rw [hW]; exact (by repeat (first | (with_reducible exact HBb.out) | (with_reducible exact set4 HBb.out _ _ _ _) | (with_reducible apply set4) | (with_reducible refine heap_new' ?_ _; simp; done) | (with_reducible refine keep4 ?_ (by omega) _ _ _ _) | (with_reducible refine heap_old ?_ _) | (with_reducible refine heap_drew ?_) | (with_reducible refine heap_set_ne ?_ (by simp <;> omega) _)))
  have hBr_ : W.heap[w.heap.size + 1 + 1]? = some (.cells #[.int .u64 0, .int .u64 0, .int .u64 0, .int .u64 0] 25 (0, 0)) := by rw [hW]; exact (by repeat (first | (with_reducible exact HBr.out) | (with_reducible exact set4 HBr.out _ _ _ _) | (with_reducible apply set4) | (with_reducible refine heap_new' ?_ _; simp; done) | (with_reducible refine keep4 ?_ (by omega) _ _ _ _) | (with_reducible refine heap_old ?_ _) | (with_reducible refine heap_drew ?_) | (with_reducible refine heap_set_ne ?_ (by simp <;> omega) _)))
  have hBx_ : W.heap[wa.heap.size]? = some (.cells #[.int .u64 x0, .int .u64 x1, .int .u64 x2, .int .u64 x3, .int .u64 x4, .int .u64 x5, .int .u64 x6, .int .u64 x7] 62 (0, 0)) := by rw [hW]; exact (by repeat (first | (with_reducible refine heap_new' ?_ _; simp; done) | (with_reducible refine keep4 ?_ (by omega) _ _ _ _) | (with_reducible refine heap_old ?_ _) | (with_reducible refine heap_drew ?_) | (with_reducible refine heap_set_ne ?_ (by simp <;> omega) _)))
  have HB0 : Below w.heap.size w W := by rw [hW]; have hB0 := HB.out; have hS0 := hB0.size; first | exact hB0.drew | exact (set4_below hB0 (by omega) _ _ _ _).drew | go_grown
  change Rg.ChainS' _ _ _ _ _ _ [(0, 0, 12, [(5, none)]), (1, 0, 13, [(12, some 0)]), (2, 1, 14, [(13, some 1)]), (3, 1, 15, [(14, some 2)]), (4, 0, 16, [(5, none)]), (5, 0, 17, [(16, some 4)]), (6, 1, 18, [(17, some 5)]), (7, 1, 19, [(18, some 6)]), (8, 1, 20, [(15, some 3), (19, some 7)]), (9, 1, 21, [(20, some 8)]), (10, 0, 11, [(21, some 9)]), (11, 0, 22, [(11, some 10)]), (12, 0, 23, [(11, some 10)]), (13, 1, 6, [])] [(0, 0, 12, [(5, none)]), (1, 0, 13, [(12, some 0)]), (2, 1, 14, [(13, some 1)]), (3, 1, 15, [(14, some 2)]), (4, 0, 16, [(5, none)]), (5, 0, 17, [(16, some 4)]), (6, 1, 18, [(17, some 5)]), (7, 1, 19, [(18, some 6)]), (8, 1, 20, [(15, some 3), (19, some 7)]), (9, 1, 21, [(20, some 8)]), (10, 0, 11, [(21, some 9)]), (11, 0, 22, [(11, some 10)]), (12, 0, 23, [(11, some 10)]), (13, 1, 6, [])] _
  apply Rg.ch_pureS (by rfl)
  · rintro a w1 ⟨e5, -⟩
    conv at e5 => rhs; whnf
    have n5 := e5
    simp only [Act.eval, Array.getD_eq_getD_getElem?] at n5
    apply Rg.yields_run (Rg.wanted_none (by rfl))
    intro w2
    conv => lhs; simp [go_sem, n5, array_ptr]
  apply Rg.ch_pureS (by rfl)
  · rintro a w1 ⟨e12, -⟩
    replace e12 : a.eval (.tmp 12) = _ := e12
    have n12 := e12
    simp only [Act.eval, Array.getD_eq_getD_getElem?] at n12
    apply Rg.yields_run (Rg.wanted_none (by rfl))
    intro w2
    conv => lhs; simp [go_sem, n12, array_ptr]
  apply Rg.ch_defS (by rfl) (fun _ _ h1 h2 => st_of h1 h2) (fun a w1 _ => Rg.wanted_none (by rfl))
  · rintro a w1 hb ⟨e13, -⟩
    replace e13 : a.eval (.tmp 13) = _ := e13
    have n13 := e13
    simp only [Act.eval, Array.getD_eq_getD_getElem?] at n13
    apply Rg.gives_value
    · conv => lhs; simp [go_sem, n13, cells4 (heap_keep' hb hBa_), cells4 (heap_keep' hb hBb_), cells4 (heap_keep' hb hBr_), cells8 (heap_keep' hb hBx_)]
    · exact ⟨rfl, Below.refl _ _⟩
  -- operation 3
  refine Rg.ch_relS (OwnB W.heap.size 32 xs) (st_own _ _) (by rfl) (fun a w1 _ => Rg.wanted_none (by rfl)) ?_ ?_
  · rintro a w1 hb ⟨e14, -⟩
    replace e14 : a.eval (.tmp 14) = _ := e14
    apply Rg.gives_enter
    · apply run_call Try.func18 (by kernel_rfl) rfl _ (by rfl)
      conv => lhs; simp only [List.map_toArray, List.map_cons, List.map_nil, eval_const_, eval_global_, e14]
    · refine (HL.out _).mono ?_
      rintro e w2 ⟨⟨v, rfl, hown⟩, hb2⟩
      exact ⟨_, rfl, own_mono hown hb.size, st_of hb hb2⟩
  apply Rg.ch_pureS (by rfl)
  · rintro a w1 ⟨e5, -⟩
    conv at e5 => rhs; whnf
    have n5 := e5
    simp only [Act.eval, Array.getD_eq_getD_getElem?] at n5
    apply Rg.yields_run (Rg.wanted_none (by rfl))
    intro w2
    conv => lhs; simp [go_sem, n5, array_ptr]
  apply Rg.ch_pureS (by rfl)
  · rintro a w1 ⟨e16, -⟩
    replace e16 : a.eval (.tmp 16) = _ := e16
    have n16 := e16
    simp only [Act.eval, Array.getD_eq_getD_getElem?] at n16
    apply Rg.yields_run (Rg.wanted_none (by rfl))
    intro w2
    conv => lhs; simp [go_sem, n16, array_ptr]
  apply Rg.ch_defS (by rfl) (fun _ _ h1 h2 => st_of h1 h2) (fun a w1 _ => Rg.wanted_none (by rfl))
  · rintro a w1 hb ⟨e17, -⟩
    replace e17 : a.eval (.tmp 17) = _ := e17
    have n17 := e17
    simp only [Act.eval, Array.getD_eq_getD_getElem?] at n17
    apply Rg.gives_value
    · conv => lhs; simp [go_sem, n17, cells4 (heap_keep' hb hBa_), cells4 (heap_keep' hb hBb_), cells4 (heap_keep' hb hBr_), cells8 (heap_keep' hb hBx_)]
    · exact ⟨rfl, Below.refl _ _⟩
  -- operation 7
  refine Rg.ch_relS (OwnB W.heap.size 32 ys) (st_own _ _) (by rfl) (fun a w1 _ => Rg.wanted_none (by rfl)) ?_ ?_
  · rintro a w1 hb ⟨e18, -⟩
    replace e18 : a.eval (.tmp 18) = _ := e18
    apply Rg.gives_enter
    · apply run_call Try.func18 (by kernel_rfl) rfl _ (by rfl)
      conv => lhs; simp only [List.map_toArray, List.map_cons, List.map_nil, eval_const_, eval_global_, e18]
    · refine (HH.out _).mono ?_
      rintro e w2 ⟨⟨v, rfl, hown⟩, hb2⟩
      exact ⟨_, rfl, own_mono hown hb.size, st_of hb hb2⟩
  -- operation 8
  refine Rg.ch_relS (OwnB W.heap.size 64 (xs ++ ys)) (st_own64 _ lx) (by rfl) (fun a w1 _ => Rg.wanted_none (by rfl)) ?_ ?_
  · rintro a w1 hb ⟨e15, e19, -⟩
    exact app_gives (.tmp 15) (.tmp 19) rfl hb lx ly e15 e19
  -- operation 9
  apply Rg.ch_defS (by rfl) (fun _ _ h1 h2 => st_of h1 h2) (fun a w1 _ => Rg.wanted_none (by rfl))
  · rintro a w1 hb ⟨e20, -⟩
    apply Rg.gives_enter
    · apply run_call Try.func37 (by kernel_rfl) rfl _ (by rfl)
      conv => lhs; simp only [List.map_toArray, List.map_cons, List.map_nil, eval_const_, eval_global_]
    · refine (HS.out _ _ (own_bts e20 lz)).mono ?_
      rintro e w2 ⟨rfl, hb2⟩
      exact ⟨_, rfl, rfl, hb2⟩
  apply Rg.ch_pureS (by rfl)
  · rintro a w1 ⟨e21, -⟩
    replace e21 : a.eval (.tmp 21) = _ := e21
    have n21 := e21
    simp only [Act.eval, Array.getD_eq_getD_getElem?] at n21
    apply Rg.yields_run (Rg.wanted_none (by rfl))
    intro w2
    conv => lhs; simp [go_sem, n21, array_ptr]
  apply Rg.ch_pureS (by rfl)
  · rintro a w1 ⟨e11, -⟩
    replace e11 : a.eval (.tmp 11) = _ := e11
    have n11 := e11
    simp only [Act.eval, Array.getD_eq_getD_getElem?] at n11
    apply Rg.yields_run (Rg.wanted_none (by rfl))
    intro w2
    conv => lhs; simp [go_sem, n11, array_ptr]
  apply Rg.ch_pureS (by rfl)
  · rintro a w1 ⟨e11, -⟩
    replace e11 : a.eval (.tmp 11) = _ := e11
    have n11 := e11
    simp only [Act.eval, Array.getD_eq_getD_getElem?] at n11
    apply Rg.yields_run (Rg.wanted_none (by rfl))
    intro w2
    conv => lhs; simp [go_sem, n11, array_ptr]
  apply Rg.ch_relS (Rg.Box W.heap.size 25 _) (st_box _ _) (by rfl) (fun a w1 _ => Rg.wanted_none (by rfl))
  · rintro a w1 hb -
    apply Rg.gives_value
    · conv => lhs; simp [go_sem]
    · exact ⟨⟨_, rfl, hb.size, heap_new _ _⟩, st_of hb ((Below.refl _ _).alloc (Nat.le_refl _) _)⟩
  intro w1 hb1
  rintro _ rfl _ rfl _ rfl v15 hv15 _ rfl _ rfl _ rfl v19 hv19 v20 hv20 _ rfl _ rfl _ rfl _ rfl v6 ⟨b6, rfl, ge6, hh6⟩
  intro hDist
  simp only [Act.put, List.setIfInBounds_toArray, List.set_cons_succ, List.set_cons_zero] at hDist
  clear hDist
  change Go.wpList _ _ _ _ _ _
  simp only [List.drop_succ_cons, List.drop_zero, List.drop_nil, Act.put, List.setIfInBounds_toArray, List.set_cons_succ, List.set_cons_zero]
  have HBn : Hid (Below w.heap.size w w1) := Lib.hid (below_call HB0 HB0.size hb1)
  have hBa__ := heap_keep' hb1 hBa_
  have hBb__ := heap_keep' hb1 hBb_
  have hBr__ := heap_keep' hb1 hBr_
  have hBx__ := heap_keep' hb1 hBx_
  have ltBa_wb := lt_of_heap hBa_
  have ltBb_wb := lt_of_heap hBb_
  have ltBr_wb := lt_of_heap hBr_
  have ltBx_wb := lt_of_heap hBx_
  clear hb1 HB0 HB hBa_ HBa cBa fBa zBa hBb_ HBb cBb fBb zBb hBr_ HBr cBr fBr zBr hBx_
  clear hW
  obtain ⟨wb, rfl⟩ : ∃ x : World, x = w1 := ⟨_, rfl⟩
  have HB := HBn; clear HBn
  have HBa := Lib.hid hBa__; have cBa := cells4 hBa__; have fBa := frozen_of hBa__; have zBa := lt_of_heap hBa__; clear hBa__
  have HBb := Lib.hid hBb__; have cBb := cells4 hBb__; have fBb := frozen_of hBb__; have zBb := lt_of_heap hBb__; clear hBb__
  have HBr := Lib.hid hBr__; have cBr := cells4 hBr__; have fBr := frozen_of hBr__; have zBr := lt_of_heap hBr__; clear hBr__
  have HBx := Lib.hid hBx__; have cBx := cells8 hBx__; have fBx := frozen_of hBx__; have zBx := lt_of_heap hBx__; clear hBx__
  have HBo := Lib.hid hh6; have cBo := cells4 hh6; have fBo := frozen_of hh6; have zBo := lt_of_heap hh6; clear hh6
  go_wp2
  refine NoPanic.normal ?_
  go_wp2
  have hK := set4 (keep4 (b' := b6) HBr.out (by omega) (.int .u64 r0) (.int .u64 r1) (.int .u64 r2) (.int .u64 r3)) (.int .u64 r0) (.int .u64 r1) (.int .u64 r2) (.int .u64 r3)
  have hL := set4_below (set4_below HB.out (b := b6) (by omega) (.int .u64 r0) (.int .u64 r1) (.int .u64 r2) (.int .u64 r3)) (b := w.heap.size + 1 + 1) (by omega) (.int .u64 r0) (.int .u64 r1) (.int .u64 r2) (.int .u64 r3)
  have hQ := cells4 hK
  exact bodyPost_ret (v := .agg #[.int .u64 r0, .int .u64 r1, .int .u64 r2, .int .u64 r3]) (by simp [results, Try.results41, go_sem, hQ]) rfl ⟨rfl, hL⟩

end Go.Proofs.Ytldnjbpcdojffaa
