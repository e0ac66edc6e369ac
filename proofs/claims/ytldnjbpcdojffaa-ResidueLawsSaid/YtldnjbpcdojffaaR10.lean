/- @@NUM 25 The walk of law 08's ResidueLaws. Conditions: words are below 2^64. -/
import Derived.Test.YtldnjbpcdojffaaR9
namespace Go.Proofs.Ytldnjbpcdojffaa
open Go Go.RowKit
open Pl (V V8 W4 T256 pP)
attribute [local go_sem ↓] eql_num neq_num

set_option maxHeartbeats 8000000 in
theorem laws_fact (a0 a1 a2 a3 b0 b1 b2 b3 c0 c1 c2 c3 : Nat) (ha : W4 a0 a1 a2 a3) (hb : W4 b0 b1 b2 b3) (hc : W4 c0 c1 c2 c3) : ∀ w : World, Calls Try.prog 5 #[.agg #[.int .u64 a0, .int .u64 a1, .int .u64 a2, .int .u64 a3], .agg #[.int .u64 b0, .int .u64 b1, .int .u64 b2, .int .u64 b3], .agg #[.int .u64 c0, .int .u64 c1, .int .u64 c2, .int .u64 c3]] w fun e w' => e = .returned (.bool true) ∧ Below w.heap.size w w' := by
  have hp := pP_pos
  obtain ⟨e0, e1, e2, e3, ⟨he, hev⟩, F1⟩ := Add2_fact a0 a1 a2 a3 b0 b1 b2 b3 ha hb
  obtain ⟨f0, f1, f2, f3, ⟨hf, hfv⟩, F2⟩ := Add2_fact b0 b1 b2 b3 a0 a1 a2 a3 hb ha
  obtain ⟨g0, g1, g2, g3, ⟨hg, hgv⟩, F3⟩ := Mul2_fact a0 a1 a2 a3 b0 b1 b2 b3 ha hb
  obtain ⟨i0, i1, i2, i3, ⟨hi, hiv⟩, F4⟩ := Mul2_fact b0 b1 b2 b3 a0 a1 a2 a3 hb ha
  obtain ⟨j0, j1, j2, j3, ⟨hj, hjv⟩, F5⟩ := Add2_fact e0 e1 e2 e3 c0 c1 c2 c3 he hc
  obtain ⟨k0, k1, k2, k3, ⟨hk, hkv⟩, F6⟩ := Add2_fact b0 b1 b2 b3 c0 c1 c2 c3 hb hc
  obtain ⟨l0, l1, l2, l3, ⟨hl, hlv⟩, F7⟩ := Add2_fact a0 a1 a2 a3 k0 k1 k2 k3 ha hk
  obtain ⟨m0, m1, m2, m3, ⟨hm, hmv⟩, F8⟩ := Mul2_fact g0 g1 g2 g3 c0 c1 c2 c3 hg hc
  obtain ⟨n0, n1, n2, n3, ⟨hn, hnv⟩, F9⟩ := Mul2_fact b0 b1 b2 b3 c0 c1 c2 c3 hb hc
  obtain ⟨o0, o1, o2, o3, ⟨ho, hov⟩, F10⟩ := Mul2_fact a0 a1 a2 a3 n0 n1 n2 n3 ha hn
  -- region 5
  obtain ⟨q0, q1, q2, q3, ⟨hq, hqv⟩, F11⟩ := Mul2_fact a0 a1 a2 a3 k0 k1 k2 k3 ha hk
  obtain ⟨r0, r1, r2, r3, ⟨hr, hrv⟩, F12⟩ := Mul2_fact a0 a1 a2 a3 c0 c1 c2 c3 ha hc
  obtain ⟨s0, s1, s2, s3, ⟨hs, hsv⟩, F13⟩ := Add2_fact g0 g1 g2 g3 r0 r1 r2 r3 hg hr
  obtain ⟨t0, t1, t2, t3, ⟨ht, htv⟩, F14⟩ := Sub_fact a0 a1 a2 a3 b0 b1 b2 b3 ha hb
  obtain ⟨u0, u1, u2, u3, ⟨hu, huv⟩, F15⟩ := Add2_fact t0 t1 t2 t3 b0 b1 b2 b3 ht hb
  obtain ⟨v0, v1, v2, v3, ⟨hv, hvv⟩, F16⟩ := Add1_fact a0 a1 a2 a3 ha
  obtain ⟨x0, x1, x2, x3, ⟨hx, hxv⟩, F17⟩ := Sub_fact b0 b1 b2 b3 a0 a1 a2 a3 hb ha
  obtain ⟨y0, y1, y2, y3, ⟨hy, hyv⟩, F18⟩ := Add2_fact t0 t1 t2 t3 x0 x1 x2 x3 ht hx
  obtain ⟨z, hz, F19⟩ := zero_fact y0 y1 y2 y3
  have E1 : eqL [(e0 : Int), e1, e2, e3] [(f0 : Int), f1, f2, f3] = true := (eqL_V he hf).2 (by rw [hev, hfv, Nat.add_comm])
  have E2 : eqL [(g0 : Int), g1, g2, g3] [(i0 : Int), i1, i2, i3] = true := (eqL_V hg hi).2 (by rw [hgv, hiv, Nat.mul_comm])
  have E3 : eqL [(j0 : Int), j1, j2, j3] [(l0 : Int), l1, l2, l3] = true := (eqL_V hj hl).2 (by rw [hjv, hlv, hev, hkv, Nat.mod_add_mod, Nat.add_mod_mod, Nat.add_assoc])
  have E4 : eqL [(m0 : Int), m1, m2, m3] [(o0 : Int), o1, o2, o3] = true := (eqL_V hm ho).2 (by rw [hmv, hov, hgv, hnv, Nat.mod_mul_mod, Nat.mul_mod_mod, Nat.mul_assoc])
  have E5 : eqL [(q0 : Int), q1, q2, q3] [(s0 : Int), s1, s2, s3] = true := (eqL_V hq hs).2 (by rw [hqv, hsv, hkv, hgv, hrv, Nat.mul_mod_mod, Nat.mod_add_mod, Nat.add_mod_mod, Nat.mul_add])
  have E6 : eqL [(u0 : Int), u1, u2, u3] [(v0 : Int), v1, v2, v3] = true := (eqL_V hu hv).2 (by
    rw [huv, hvv, htv, Nat.mod_add_mod]
    have h1 := Nat.mod_lt (V b0 b1 b2 b3) hp
    have h2 := Nat.div_add_mod (V b0 b1 b2 b3) pP
    have h3 : V a0 a1 a2 a3 % pP + (pP - V b0 b1 b2 b3 % pP) + V b0 b1 b2 b3 = V a0 a1 a2 a3 % pP + pP * (V b0 b1 b2 b3 / pP + 1) := by rw [Nat.mul_add]; omega
    rw [h3, Nat.add_mul_mod_self_left, Nat.mod_mod])
  have hzt : z = true := hz.2 (by
    rw [hyv, htv, hxv, Nat.mod_add_mod, Nat.add_mod_mod]
    have h1 := Nat.mod_lt (V b0 b1 b2 b3) hp
    have h2 := Nat.mod_lt (V a0 a1 a2 a3) hp
    have h3 : V a0 a1 a2 a3 % pP + (pP - V b0 b1 b2 b3 % pP) + (V b0 b1 b2 b3 % pP + (pP - V a0 a1 a2 a3 % pP)) = pP * 2 := by omega
    rw [h3, Nat.mul_mod_right])
  subst hzt
  clear hz hyv hxv hvv huv htv hsv hrv hqv hov hnv hmv hlv hkv hjv hiv hgv hfv hev hp
  clear he hf hg hi hj hk hl hm hn ho hq hr hs ht hu hv hx hy ha hb hc
  have H0 := Lib.hid awake_fact
  have H1 := Lib.hid F1; have H2 := Lib.hid F2; have H3 := Lib.hid F3; have H4 := Lib.hid F4; have H5 := Lib.hid F5; have H6 := Lib.hid F6; have H7 := Lib.hid F7; have H8 := Lib.hid F8; have H9 := Lib.hid F9; have H10 := Lib.hid F10
  have H11 := Lib.hid F11; have H12 := Lib.hid F12; have H13 := Lib.hid F13; have H14 := Lib.hid F14; have H15 := Lib.hid F15; have H16 := Lib.hid F16; have H17 := Lib.hid F17; have H18 := Lib.hid F18; have H19 := Lib.hid F19
  clear F1 F2 F3 F4 F5 F6 F7 F8 F9 F10 F11 F12 F13 F14 F15 F16 F17 F18 F19
  intro w
  go_enter Try.func5, Try.ntmps5
  go_wp2_with (fail)
  go_at_call 13
  refine (H0.out _).mono ?_
  rintro e wk1 ⟨rfl, hb⟩
  have HBk : Hid (Below w.heap.size w wk1) := Lib.hid (below_call (by go_grown) (by simp; omega) hb)
  have HAk := Lib.hid (heap_keep' hb (heap_old (heap_old (heap_new w _) _) _))
  have HBBk := Lib.hid (heap_keep' hb (heap_old (heap_new' (n := w.heap.size + 1) (by simp) _) _))
  have HCk := Lib.hid (heap_keep' hb (heap_new' (n := w.heap.size + 1 + 1) (by simp) _))
  clear hb
  go_wp2
  refine Rg.region_ (n := 104) [0, 0, 3, 7, 0, 0, 48, 127, 255, 511, 1023, 1023, 4095, 8191, 1023, 1023, 50175, 131071, 262143, 524287, 1048575, 2097151, 2097151, 8388607, 16777215, 2097151, 67108863, 134217727, 2097151, 2097151, 2097151, 1612709887, 4026531839, 8589934591, 17179869183, 34359738367, 68719476735, 137438953471, 274877906943, 274877906943, 1099511627775, 2199023255551, 274877906943, 8796093022207, 17592186044415, 274877906943, 274877906943, 274877906943, 211381110439935, 527765581332479, 1125899906842623, 2251799813685247, 4503599627370495, 9007199254740991] [1, 1, 1, 1, 1, 1, 1, 1, 0, 0, 1, 1, 1, 1, 1, 1, 1, 1, 0, 0, 0, 1, 1, 1, 1, 1, 1, 1, 1, 1, 1, 1, 1, 1, 1, 0, 0, 0, 1, 1, 1, 1, 1, 1, 1, 1, 1, 1, 1, 1, 1, 1, 0, 0] [9, 10, 11, 12, 13, 14, 15, 16, 17, 18, 19, 20, 21, 22, 23, 24, 25, 26, 27, 28, 29, 30, 31, 32, 33, 34, 35, 36, 37, 38, 39, 40, 41, 42, 43, 44, 45, 46, 47, 48, 49, 50, 51, 52, 53, 54, 55, 56, 57, 58, 59, 60, 61, 62] [[(3, none)], [(4, none)], [(9, some 0), (10, some 1)], [(11, some 2)], [(4, none)], [(3, none)], [(13, some 4), (14, some 5)], [(15, some 6)], [(12, some 3), (16, some 7)], [(17, some 8)], [(3, none), (18, some 9)], [(4, none), (18, some 9)], [(19, some 10), (20, some 11), (18, some 9)], [(21, some 12), (18, some 9)], [(4, none), (18, some 9)], [(3, none), (18, some 9)], [(23, some 14), (24, some 15), (18, some 9)], [(25, some 16), (18, some 9)], [(22, some 13), (26, some 17), (18, some 9)], [(18, some 9), (27, some 18)], [(28, some 19)], [(3, none), (29, some 20)], [(4, none), (29, some 20)], [(30, some 21), (31, some 22), (29, some 20)], [(32, some 23), (29, some 20)], [(5, none), (29, some 20)], [(33, some 24), (34, some 25), (29, some 20)], [(35, some 26), (29, some 20)], [(3, none), (29, some 20)], [(4, none), (29, some 20)], [(5, none), (29, some 20)], [(38, some 29), (39, some 30), (29, some 20)], [(40, some 31), (29, some 20)], [(37, some 28), (41, some 32), (29, some 20)], [(42, some 33), (29, some 20)], [(36, some 27), (43, some 34), (29, some 20)], [(29, some 20), (44, some 35)], [(45, some 36)], [(3, none), (46, some 37)], [(4, none), (46, some 37)], [(47, some 38), (48, some 39), (46, some 37)], [(49, some 40), (46, some 37)], [(5, none), (46, some 37)], [(50, some 41), (51, some 42), (46, some 37)], [(52, some 43), (46, some 37)], [(3, none), (46, some 37)], [(4, none), (46, some 37)], [(5, none), (46, some 37)], [(55, some 46), (56, some 47), (46, some 37)], [(57, some 48), (46, some 37)], [(54, some 45), (58, some 49), (46, some 37)], [(59, some 50), (46, some 37)], [(53, some 44), (60, some 51), (46, some 37)], [(46, some 37), (61, some 52)]] 54 (by kernel_rfl) (by kernel_rfl) (by rfl) ?_
  intro W hW
  have hA : W.heap[w.heap.size]? = some (.cells #[.int .u64 a0, .int .u64 a1, .int .u64 a2, .int .u64 a3] 25 (0, 0)) := by rw [hW]; exact heap_drew HAk.out
  have hB : W.heap[w.heap.size + 1]? = some (.cells #[.int .u64 b0, .int .u64 b1, .int .u64 b2, .int .u64 b3] 25 (0, 0)) := by rw [hW]; exact heap_drew HBBk.out
  have hC : W.heap[w.heap.size + 1 + 1]? = some (.cells #[.int .u64 c0, .int .u64 c1, .int .u64 c2, .int .u64 c3] 25 (0, 0)) := by rw [hW]; exact heap_drew HCk.out
  have HB0 : Below w.heap.size w W := by rw [hW]; exact HBk.out.drew
  change Rg.Chain' _ _ _ _ _ [(0, 1, 9, [(3, none)]), (1, 1, 10, [(4, none)]), (2, 1, 11, [(9, some 0), (10, some 1)]), (3, 1, 12, [(11, some 2)]), (4, 1, 13, [(4, none)]), (5, 1, 14, [(3, none)]), (6, 1, 15, [(13, some 4), (14, some 5)]), (7, 1, 16, [(15, some 6)]), (8, 0, 17, [(12, some 3), (16, some 7)]), (9, 0, 18, [(17, some 8)]), (10, 1, 19, [(3, none), (18, some 9)]), (11, 1, 20, [(4, none), (18, some 9)]), (12, 1, 21, [(19, some 10), (20, some 11), (18, some 9)]), (13, 1, 22, [(21, some 12), (18, some 9)]), (14, 1, 23, [(4, none), (18, some 9)]), (15, 1, 24, [(3, none), (18, some 9)]), (16, 1, 25, [(23, some 14), (24, some 15), (18, some 9)]), (17, 1, 26, [(25, some 16), (18, some 9)]), (18, 0, 27, [(22, some 13), (26, some 17), (18, some 9)]), (19, 0, 28, [(18, some 9), (27, some 18)]), (20, 0, 29, [(28, some 19)]), (21, 1, 30, [(3, none), (29, some 20)]), (22, 1, 31, [(4, none), (29, some 20)]), (23, 1, 32, [(30, some 21), (31, some 22), (29, some 20)]), (24, 1, 33, [(32, some 23), (29, some 20)]), (25, 1, 34, [(5, none), (29, some 20)]), (26, 1, 35, [(33, some 24), (34, some 25), (29, some 20)]), (27, 1, 36, [(35, some 26), (29, some 20)]), (28, 1, 37, [(3, none), (29, some 20)]), (29, 1, 38, [(4, none), (29, some 20)]), (30, 1, 39, [(5, none), (29, some 20)]), (31, 1, 40, [(38, some 29), (39, some 30), (29, some 20)]), (32, 1, 41, [(40, some 31), (29, some 20)]), (33, 1, 42, [(37, some 28), (41, some 32), (29, some 20)]), (34, 1, 43, [(42, some 33), (29, some 20)]), (35, 0, 44, [(36, some 27), (43, some 34), (29, some 20)]), (36, 0, 45, [(29, some 20), (44, some 35)]), (37, 0, 46, [(45, some 36)]), (38, 1, 47, [(3, none), (46, some 37)]), (39, 1, 48, [(4, none), (46, some 37)]), (40, 1, 49, [(47, some 38), (48, some 39), (46, some 37)]), (41, 1, 50, [(49, some 40), (46, some 37)]), (42, 1, 51, [(5, none), (46, some 37)]), (43, 1, 52, [(50, some 41), (51, some 42), (46, some 37)]), (44, 1, 53, [(52, some 43), (46, some 37)]), (45, 1, 54, [(3, none), (46, some 37)]), (46, 1, 55, [(4, none), (46, some 37)]), (47, 1, 56, [(5, none), (46, some 37)]), (48, 1, 57, [(55, some 46), (56, some 47), (46, some 37)]), (49, 1, 58, [(57, some 48), (46, some 37)]), (50, 1, 59, [(54, some 45), (58, some 49), (46, some 37)]), (51, 1, 60, [(59, some 50), (46, some 37)]), (52, 0, 61, [(53, some 44), (60, some 51), (46, some 37)]), (53, 0, 62, [(46, some 37), (61, some 52)])] [(0, 1, 9, [(3, none)]), (1, 1, 10, [(4, none)]), (2, 1, 11, [(9, some 0), (10, some 1)]), (3, 1, 12, [(11, some 2)]), (4, 1, 13, [(4, none)]), (5, 1, 14, [(3, none)]), (6, 1, 15, [(13, some 4), (14, some 5)]), (7, 1, 16, [(15, some 6)]), (8, 0, 17, [(12, some 3), (16, some 7)]), (9, 0, 18, [(17, some 8)]), (10, 1, 19, [(3, none), (18, some 9)]), (11, 1, 20, [(4, none), (18, some 9)]), (12, 1, 21, [(19, some 10), (20, some 11), (18, some 9)]), (13, 1, 22, [(21, some 12), (18, some 9)]), (14, 1, 23, [(4, none), (18, some 9)]), (15, 1, 24, [(3, none), (18, some 9)]), (16, 1, 25, [(23, some 14), (24, some 15), (18, some 9)]), (17, 1, 26, [(25, some 16), (18, some 9)]), (18, 0, 27, [(22, some 13), (26, some 17), (18, some 9)]), (19, 0, 28, [(18, some 9), (27, some 18)]), (20, 0, 29, [(28, some 19)]), (21, 1, 30, [(3, none), (29, some 20)]), (22, 1, 31, [(4, none), (29, some 20)]), (23, 1, 32, [(30, some 21), (31, some 22), (29, some 20)]), (24, 1, 33, [(32, some 23), (29, some 20)]), (25, 1, 34, [(5, none), (29, some 20)]), (26, 1, 35, [(33, some 24), (34, some 25), (29, some 20)]), (27, 1, 36, [(35, some 26), (29, some 20)]), (28, 1, 37, [(3, none), (29, some 20)]), (29, 1, 38, [(4, none), (29, some 20)]), (30, 1, 39, [(5, none), (29, some 20)]), (31, 1, 40, [(38, some 29), (39, some 30), (29, some 20)]), (32, 1, 41, [(40, some 31), (29, some 20)]), (33, 1, 42, [(37, some 28), (41, some 32), (29, some 20)]), (34, 1, 43, [(42, some 33), (29, some 20)]), (35, 0, 44, [(36, some 27), (43, some 34), (29, some 20)]), (36, 0, 45, [(29, some 20), (44, some 35)]), (37, 0, 46, [(45, some 36)]), (38, 1, 47, [(3, none), (46, some 37)]), (39, 1, 48, [(4, none), (46, some 37)]), (40, 1, 49, [(47, some 38), (48, some 39), (46, some 37)]), (41, 1, 50, [(49, some 40), (46, some 37)]), (42, 1, 51, [(5, none), (46, some 37)]), (43, 1, 52, [(50, some 41), (51, some 42), (46, some 37)]), (44, 1, 53, [(52, some 43), (46, some 37)]), (45, 1, 54, [(3, none), (46, some 37)]), (46, 1, 55, [(4, none), (46, some 37)]), (47, 1, 56, [(5, none), (46, some 37)]), (48, 1, 57, [(55, some 46), (56, some 47), (46, some 37)]), (49, 1, 58, [(57, some 48), (46, some 37)]), (50, 1, 59, [(54, some 45), (58, some 49), (46, some 37)]), (51, 1, 60, [(59, some 50), (46, some 37)]), (52, 0, 61, [(53, some 44), (60, some 51), (46, some 37)]), (53, 0, 62, [(46, some 37), (61, some 52)])] _
  apply Rg.ch_def (by rfl) (fun a w1 _ => Rg.wanted_none (by rfl))
  · rintro a w1 hb ⟨e3, -⟩
    conv at e3 => rhs; whnf
    have n3 := e3
    simp only [Act.eval, Array.getD_eq_getD_getElem?] at n3
    apply Rg.gives_value
    · conv => lhs; simp [go_sem, n3, cells4 (heap_keep' hb hA), cells4 (heap_keep' hb hB), cells4 (heap_keep' hb hC)]
    · exact ⟨rfl, Below.refl _ _⟩
  apply Rg.ch_def (by rfl) (fun a w1 _ => Rg.wanted_none (by rfl))
  · rintro a w1 hb ⟨e4, -⟩
    conv at e4 => rhs; whnf
    have n4 := e4
    simp only [Act.eval, Array.getD_eq_getD_getElem?] at n4
    apply Rg.gives_value
    · conv => lhs; simp [go_sem, n4, cells4 (heap_keep' hb hA), cells4 (heap_keep' hb hB), cells4 (heap_keep' hb hC)]
    · exact ⟨rfl, Below.refl _ _⟩
  apply Rg.ch_rel (Rg.Row W.heap.size 25 2 _) (Rg.stable_row _ _ _ _) (by rfl) (fun a w1 _ => Rg.wanted_none (by rfl))
  · rintro a w1 hb ⟨e9, e10, -⟩
    replace e9 : a.eval (.tmp 9) = _ := e9
    have n9 := e9
    simp only [Act.eval, Array.getD_eq_getD_getElem?] at n9
    replace e10 : a.eval (.tmp 10) = _ := e10
    have n10 := e10
    simp only [Act.eval, Array.getD_eq_getD_getElem?] at n10
    apply Rg.gives_value
    · conv => lhs; simp [go_sem, n9, n10]
    · exact ⟨⟨_, rfl, hb.size, heap_new _ _⟩, (Below.refl _ _).alloc (Nat.le_refl _) _⟩
  apply Rg.ch_def (by rfl) (fun a w1 _ => Rg.wanted_none (by rfl))
  · rintro a w1 hb ⟨e11, -⟩
    obtain ⟨b11, e11, g11, h11⟩ : ∃ b, a.eval (.tmp 11) = .slice (some ⟨b, 0, none⟩) 2 2 ∧ _ ≤ b ∧ w1.heap[b]? = _ := e11
    apply Rg.gives_enter
    · apply run_call Try.func23 (by kernel_rfl) rfl _ (by rfl)
      conv => lhs; simp only [List.map_toArray, List.map_cons, List.map_nil, eval_const_, eval_global_, e11]
    · refine (H1.out _ _ h11).mono ?_
      rintro e w2 ⟨rfl, hb2⟩
      exact ⟨_, rfl, rfl, hb2⟩
  apply Rg.ch_def (by rfl) (fun a w1 _ => Rg.wanted_none (by rfl))
  · rintro a w1 hb ⟨e4, -⟩
    conv at e4 => rhs; whnf
    have n4 := e4
    simp only [Act.eval, Array.getD_eq_getD_getElem?] at n4
    apply Rg.gives_value
    · conv => lhs; simp [go_sem, n4, cells4 (heap_keep' hb hA), cells4 (heap_keep' hb hB), cells4 (heap_keep' hb hC)]
    · exact ⟨rfl, Below.refl _ _⟩
  apply Rg.ch_def (by rfl) (fun a w1 _ => Rg.wanted_none (by rfl))
  · rintro a w1 hb ⟨e3, -⟩
    conv at e3 => rhs; whnf
    have n3 := e3
    simp only [Act.eval, Array.getD_eq_getD_getElem?] at n3
    apply Rg.gives_value
    · conv => lhs; simp [go_sem, n3, cells4 (heap_keep' hb hA), cells4 (heap_keep' hb hB), cells4 (heap_keep' hb hC)]
    · exact ⟨rfl, Below.refl _ _⟩
  apply Rg.ch_rel (Rg.Row W.heap.size 25 2 _) (Rg.stable_row _ _ _ _) (by rfl) (fun a w1 _ => Rg.wanted_none (by rfl))
  · rintro a w1 hb ⟨e13, e14, -⟩
    replace e13 : a.eval (.tmp 13) = _ := e13
    have n13 := e13
    simp only [Act.eval, Array.getD_eq_getD_getElem?] at n13
    replace e14 : a.eval (.tmp 14) = _ := e14
    have n14 := e14
    simp only [Act.eval, Array.getD_eq_getD_getElem?] at n14
    apply Rg.gives_value
    · conv => lhs; simp [go_sem, n13, n14]
    · exact ⟨⟨_, rfl, hb.size, heap_new _ _⟩, (Below.refl _ _).alloc (Nat.le_refl _) _⟩
  apply Rg.ch_def (by rfl) (fun a w1 _ => Rg.wanted_none (by rfl))
  · rintro a w1 hb ⟨e15, -⟩
    obtain ⟨b15, e15, g15, h15⟩ : ∃ b, a.eval (.tmp 15) = .slice (some ⟨b, 0, none⟩) 2 2 ∧ _ ≤ b ∧ w1.heap[b]? = _ := e15
    apply Rg.gives_enter
    · apply run_call Try.func23 (by kernel_rfl) rfl _ (by rfl)
      conv => lhs; simp only [List.map_toArray, List.map_cons, List.map_nil, eval_const_, eval_global_, e15]
    · refine (H2.out _ _ h15).mono ?_
      rintro e w2 ⟨rfl, hb2⟩
      exact ⟨_, rfl, rfl, hb2⟩
  apply Rg.ch_pure (by rfl)
  · rintro a w1 ⟨e12, e16, -⟩
    replace e12 : a.eval (.tmp 12) = _ := e12
    have n12 := e12
    simp only [Act.eval, Array.getD_eq_getD_getElem?] at n12
    replace e16 : a.eval (.tmp 16) = _ := e16
    have n16 := e16
    simp only [Act.eval, Array.getD_eq_getD_getElem?] at n16
    apply Rg.yields_run (Rg.wanted_none (by rfl))
    intro w2
    conv => lhs; simp [go_sem, n12, n16, E1, E2, E3, E4]
  apply Rg.ch_pure (by rfl)
  · rintro a w1 ⟨e17, -⟩
    replace e17 : a.eval (.tmp 17) = _ := e17
    have n17 := e17
    simp only [Act.eval, Array.getD_eq_getD_getElem?] at n17
    apply Rg.yields_run (Rg.wanted_none (by rfl))
    intro w2
    conv => lhs; simp [go_sem, n17, E1, E2, E3, E4]
  apply Rg.ch_def (by rfl) (fun a w1 h => by obtain ⟨-, e18, -⟩ := h; exact Rg.wanted_some (by rfl) (by rfl) e18)
  · rintro a w1 hb ⟨e3, e18, -⟩
    conv at e3 => rhs; whnf
    have n3 := e3
    simp only [Act.eval, Array.getD_eq_getD_getElem?] at n3
    replace e18 : a.eval (.tmp 18) = _ := e18
    have n18 := e18
    simp only [Act.eval, Array.getD_eq_getD_getElem?] at n18
    apply Rg.gives_value
    · conv => lhs; simp [go_sem, n3, n18, cells4 (heap_keep' hb hA), cells4 (heap_keep' hb hB), cells4 (heap_keep' hb hC)]
    · exact ⟨rfl, Below.refl _ _⟩
  apply Rg.ch_def (by rfl) (fun a w1 h => by obtain ⟨-, e18, -⟩ := h; exact Rg.wanted_some (by rfl) (by rfl) e18)
  · rintro a w1 hb ⟨e4, e18, -⟩
    conv at e4 => rhs; whnf
    have n4 := e4
    simp only [Act.eval, Array.getD_eq_getD_getElem?] at n4
    replace e18 : a.eval (.tmp 18) = _ := e18
    have n18 := e18
    simp only [Act.eval, Array.getD_eq_getD_getElem?] at n18
    apply Rg.gives_value
    · conv => lhs; simp [go_sem, n4, n18, cells4 (heap_keep' hb hA), cells4 (heap_keep' hb hB), cells4 (heap_keep' hb hC)]
    · exact ⟨rfl, Below.refl _ _⟩
  apply Rg.ch_rel (Rg.Row W.heap.size 25 2 _) (Rg.stable_row _ _ _ _) (by rfl) (fun a w1 h => by obtain ⟨-, -, e18, -⟩ := h; exact Rg.wanted_some (by rfl) (by rfl) e18)
  · rintro a w1 hb ⟨e19, e20, e18, -⟩
    replace e19 : a.eval (.tmp 19) = _ := e19
    have n19 := e19
    simp only [Act.eval, Array.getD_eq_getD_getElem?] at n19
    replace e20 : a.eval (.tmp 20) = _ := e20
    have n20 := e20
    simp only [Act.eval, Array.getD_eq_getD_getElem?] at n20
    replace e18 : a.eval (.tmp 18) = _ := e18
    have n18 := e18
    simp only [Act.eval, Array.getD_eq_getD_getElem?] at n18
    apply Rg.gives_value
    · conv => lhs; simp [go_sem, n19, n20, n18]
    · exact ⟨⟨_, rfl, hb.size, heap_new _ _⟩, (Below.refl _ _).alloc (Nat.le_refl _) _⟩
  apply Rg.ch_def (by rfl) (fun a w1 h => by obtain ⟨-, e18, -⟩ := h; exact Rg.wanted_some (by rfl) (by rfl) e18)
  · rintro a w1 hb ⟨e21, e18, -⟩
    obtain ⟨b21, e21, g21, h21⟩ : ∃ b, a.eval (.tmp 21) = .slice (some ⟨b, 0, none⟩) 2 2 ∧ _ ≤ b ∧ w1.heap[b]? = _ := e21
    replace e18 : a.eval (.tmp 18) = _ := e18
    apply Rg.gives_enter
    · apply run_call Try.func25 (by kernel_rfl) rfl _ (by rfl)
      conv => lhs; simp only [List.map_toArray, List.map_cons, List.map_nil, eval_const_, eval_global_, e21]
    · refine (H3.out _ _ h21).mono ?_
      rintro e w2 ⟨rfl, hb2⟩
      exact ⟨_, rfl, rfl, hb2⟩
  apply Rg.ch_def (by rfl) (fun a w1 h => by obtain ⟨-, e18, -⟩ := h; exact Rg.wanted_some (by rfl) (by rfl) e18)
  · rintro a w1 hb ⟨e4, e18, -⟩
    conv at e4 => rhs; whnf
    have n4 := e4
    simp only [Act.eval, Array.getD_eq_getD_getElem?] at n4
    replace e18 : a.eval (.tmp 18) = _ := e18
    have n18 := e18
    simp only [Act.eval, Array.getD_eq_getD_getElem?] at n18
    apply Rg.gives_value
    · conv => lhs; simp [go_sem, n4, n18, cells4 (heap_keep' hb hA), cells4 (heap_keep' hb hB), cells4 (heap_keep' hb hC)]
    · exact ⟨rfl, Below.refl _ _⟩
  apply Rg.ch_def (by rfl) (fun a w1 h => by obtain ⟨-, e18, -⟩ := h; exact Rg.wanted_some (by rfl) (by rfl) e18)
  · rintro a w1 hb ⟨e3, e18, -⟩
    conv at e3 => rhs; whnf
    have n3 := e3
    simp only [Act.eval, Array.getD_eq_getD_getElem?] at n3
    replace e18 : a.eval (.tmp 18) = _ := e18
    have n18 := e18
    simp only [Act.eval, Array.getD_eq_getD_getElem?] at n18
    apply Rg.gives_value
    · conv => lhs; simp [go_sem, n3, n18, cells4 (heap_keep' hb hA), cells4 (heap_keep' hb hB), cells4 (heap_keep' hb hC)]
    · exact ⟨rfl, Below.refl _ _⟩
  apply Rg.ch_rel (Rg.Row W.heap.size 25 2 _) (Rg.stable_row _ _ _ _) (by rfl) (fun a w1 h => by obtain ⟨-, -, e18, -⟩ := h; exact Rg.wanted_some (by rfl) (by rfl) e18)
  · rintro a w1 hb ⟨e23, e24, e18, -⟩
    replace e23 : a.eval (.tmp 23) = _ := e23
    have n23 := e23
    simp only [Act.eval, Array.getD_eq_getD_getElem?] at n23
    replace e24 : a.eval (.tmp 24) = _ := e24
    have n24 := e24
    simp only [Act.eval, Array.getD_eq_getD_getElem?] at n24
    replace e18 : a.eval (.tmp 18) = _ := e18
    have n18 := e18
    simp only [Act.eval, Array.getD_eq_getD_getElem?] at n18
    apply Rg.gives_value
    · conv => lhs; simp [go_sem, n23, n24, n18]
    · exact ⟨⟨_, rfl, hb.size, heap_new _ _⟩, (Below.refl _ _).alloc (Nat.le_refl _) _⟩
  apply Rg.ch_def (by rfl) (fun a w1 h => by obtain ⟨-, e18, -⟩ := h; exact Rg.wanted_some (by rfl) (by rfl) e18)
  · rintro a w1 hb ⟨e25, e18, -⟩
    obtain ⟨b25, e25, g25, h25⟩ : ∃ b, a.eval (.tmp 25) = .slice (some ⟨b, 0, none⟩) 2 2 ∧ _ ≤ b ∧ w1.heap[b]? = _ := e25
    replace e18 : a.eval (.tmp 18) = _ := e18
    apply Rg.gives_enter
    · apply run_call Try.func25 (by kernel_rfl) rfl _ (by rfl)
      conv => lhs; simp only [List.map_toArray, List.map_cons, List.map_nil, eval_const_, eval_global_, e25]
    · refine (H4.out _ _ h25).mono ?_
      rintro e w2 ⟨rfl, hb2⟩
      exact ⟨_, rfl, rfl, hb2⟩
  apply Rg.ch_pure (by rfl)
  · rintro a w1 ⟨e22, e26, e18, -⟩
    replace e22 : a.eval (.tmp 22) = _ := e22
    have n22 := e22
    simp only [Act.eval, Array.getD_eq_getD_getElem?] at n22
    replace e26 : a.eval (.tmp 26) = _ := e26
    have n26 := e26
    simp only [Act.eval, Array.getD_eq_getD_getElem?] at n26
    replace e18 : a.eval (.tmp 18) = _ := e18
    have n18 := e18
    simp only [Act.eval, Array.getD_eq_getD_getElem?] at n18
    apply Rg.yields_run (Rg.wanted_some (by rfl) (by rfl) e18)
    intro w2
    conv => lhs; simp [go_sem, n22, n26, n18, E1, E2, E3, E4]
  apply Rg.ch_pure (by rfl)
  · rintro a w1 ⟨e18, e27, -⟩
    replace e18 : a.eval (.tmp 18) = _ := e18
    have n18 := e18
    simp only [Act.eval, Array.getD_eq_getD_getElem?] at n18
    replace e27 : a.eval (.tmp 27) = _ := e27
    have n27 := e27
    simp only [Act.eval, Array.getD_eq_getD_getElem?] at n27
    apply Rg.yields_run (Rg.wanted_none (by rfl))
    intro w2
    conv => lhs; simp [go_sem, n18, n27, E1, E2, E3, E4]
  apply Rg.ch_pure (by rfl)
  · rintro a w1 ⟨e28, -⟩
    replace e28 : a.eval (.tmp 28) = _ := e28
    have n28 := e28
    simp only [Act.eval, Array.getD_eq_getD_getElem?] at n28
    apply Rg.yields_run (Rg.wanted_none (by rfl))
    intro w2
    conv => lhs; simp [go_sem, n28, E1, E2, E3, E4]
  apply Rg.ch_def (by rfl) (fun a w1 h => by obtain ⟨-, e29, -⟩ := h; exact Rg.wanted_some (by rfl) (by rfl) e29)
  · rintro a w1 hb ⟨e3, e29, -⟩
    conv at e3 => rhs; whnf
    have n3 := e3
    simp only [Act.eval, Array.getD_eq_getD_getElem?] at n3
    replace e29 : a.eval (.tmp 29) = _ := e29
    have n29 := e29
    simp only [Act.eval, Array.getD_eq_getD_getElem?] at n29
    apply Rg.gives_value
    · conv => lhs; simp [go_sem, n3, n29, cells4 (heap_keep' hb hA), cells4 (heap_keep' hb hB), cells4 (heap_keep' hb hC)]
    · exact ⟨rfl, Below.refl _ _⟩
  apply Rg.ch_def (by rfl) (fun a w1 h => by obtain ⟨-, e29, -⟩ := h; exact Rg.wanted_some (by rfl) (by rfl) e29)
  · rintro a w1 hb ⟨e4, e29, -⟩
    conv at e4 => rhs; whnf
    have n4 := e4
    simp only [Act.eval, Array.getD_eq_getD_getElem?] at n4
    replace e29 : a.eval (.tmp 29) = _ := e29
    have n29 := e29
    simp only [Act.eval, Array.getD_eq_getD_getElem?] at n29
    apply Rg.gives_value
    · conv => lhs; simp [go_sem, n4, n29, cells4 (heap_keep' hb hA), cells4 (heap_keep' hb hB), cells4 (heap_keep' hb hC)]
    · exact ⟨rfl, Below.refl _ _⟩
  apply Rg.ch_rel (Rg.Row W.heap.size 25 2 _) (Rg.stable_row _ _ _ _) (by rfl) (fun a w1 h => by obtain ⟨-, -, e29, -⟩ := h; exact Rg.wanted_some (by rfl) (by rfl) e29)
  · rintro a w1 hb ⟨e30, e31, e29, -⟩
    replace e30 : a.eval (.tmp 30) = _ := e30
    have n30 := e30
    simp only [Act.eval, Array.getD_eq_getD_getElem?] at n30
    replace e31 : a.eval (.tmp 31) = _ := e31
    have n31 := e31
    simp only [Act.eval, Array.getD_eq_getD_getElem?] at n31
    replace e29 : a.eval (.tmp 29) = _ := e29
    have n29 := e29
    simp only [Act.eval, Array.getD_eq_getD_getElem?] at n29
    apply Rg.gives_value
    · conv => lhs; simp [go_sem, n30, n31, n29]
    · exact ⟨⟨_, rfl, hb.size, heap_new _ _⟩, (Below.refl _ _).alloc (Nat.le_refl _) _⟩
  apply Rg.ch_def (by rfl) (fun a w1 h => by obtain ⟨-, e29, -⟩ := h; exact Rg.wanted_some (by rfl) (by rfl) e29)
  · rintro a w1 hb ⟨e32, e29, -⟩
    obtain ⟨b32, e32, g32, h32⟩ : ∃ b, a.eval (.tmp 32) = .slice (some ⟨b, 0, none⟩) 2 2 ∧ _ ≤ b ∧ w1.heap[b]? = _ := e32
    replace e29 : a.eval (.tmp 29) = _ := e29
    apply Rg.gives_enter
    · apply run_call Try.func23 (by kernel_rfl) rfl _ (by rfl)
      conv => lhs; simp only [List.map_toArray, List.map_cons, List.map_nil, eval_const_, eval_global_, e32]
    · refine (H1.out _ _ h32).mono ?_
      rintro e w2 ⟨rfl, hb2⟩
      exact ⟨_, rfl, rfl, hb2⟩
  apply Rg.ch_def (by rfl) (fun a w1 h => by obtain ⟨-, e29, -⟩ := h; exact Rg.wanted_some (by rfl) (by rfl) e29)
  · rintro a w1 hb ⟨e5, e29, -⟩
    conv at e5 => rhs; whnf
    have n5 := e5
    simp only [Act.eval, Array.getD_eq_getD_getElem?] at n5
    replace e29 : a.eval (.tmp 29) = _ := e29
    have n29 := e29
    simp only [Act.eval, Array.getD_eq_getD_getElem?] at n29
    apply Rg.gives_value
    · conv => lhs; simp [go_sem, n5, n29, cells4 (heap_keep' hb hA), cells4 (heap_keep' hb hB), cells4 (heap_keep' hb hC)]
    · exact ⟨rfl, Below.refl _ _⟩
  apply Rg.ch_rel (Rg.Row W.heap.size 25 2 _) (Rg.stable_row _ _ _ _) (by rfl) (fun a w1 h => by obtain ⟨-, -, e29, -⟩ := h; exact Rg.wanted_some (by rfl) (by rfl) e29)
  · rintro a w1 hb ⟨e33, e34, e29, -⟩
    replace e33 : a.eval (.tmp 33) = _ := e33
    have n33 := e33
    simp only [Act.eval, Array.getD_eq_getD_getElem?] at n33
    replace e34 : a.eval (.tmp 34) = _ := e34
    have n34 := e34
    simp only [Act.eval, Array.getD_eq_getD_getElem?] at n34
    replace e29 : a.eval (.tmp 29) = _ := e29
    have n29 := e29
    simp only [Act.eval, Array.getD_eq_getD_getElem?] at n29
    apply Rg.gives_value
    · conv => lhs; simp [go_sem, n33, n34, n29]
    · exact ⟨⟨_, rfl, hb.size, heap_new _ _⟩, (Below.refl _ _).alloc (Nat.le_refl _) _⟩
  apply Rg.ch_def (by rfl) (fun a w1 h => by obtain ⟨-, e29, -⟩ := h; exact Rg.wanted_some (by rfl) (by rfl) e29)
  · rintro a w1 hb ⟨e35, e29, -⟩
    obtain ⟨b35, e35, g35, h35⟩ : ∃ b, a.eval (.tmp 35) = .slice (some ⟨b, 0, none⟩) 2 2 ∧ _ ≤ b ∧ w1.heap[b]? = _ := e35
    replace e29 : a.eval (.tmp 29) = _ := e29
    apply Rg.gives_enter
    · apply run_call Try.func23 (by kernel_rfl) rfl _ (by rfl)
      conv => lhs; simp only [List.map_toArray, List.map_cons, List.map_nil, eval_const_, eval_global_, e35]
    · refine (H5.out _ _ h35).mono ?_
      rintro e w2 ⟨rfl, hb2⟩
      exact ⟨_, rfl, rfl, hb2⟩
  apply Rg.ch_def (by rfl) (fun a w1 h => by obtain ⟨-, e29, -⟩ := h; exact Rg.wanted_some (by rfl) (by rfl) e29)
  · rintro a w1 hb ⟨e3, e29, -⟩
    conv at e3 => rhs; whnf
    have n3 := e3
    simp only [Act.eval, Array.getD_eq_getD_getElem?] at n3
    replace e29 : a.eval (.tmp 29) = _ := e29
    have n29 := e29
    simp only [Act.eval, Array.getD_eq_getD_getElem?] at n29
    apply Rg.gives_value
    · conv => lhs; simp [go_sem, n3, n29, cells4 (heap_keep' hb hA), cells4 (heap_keep' hb hB), cells4 (heap_keep' hb hC)]
    · exact ⟨rfl, Below.refl _ _⟩
  apply Rg.ch_def (by rfl) (fun a w1 h => by obtain ⟨-, e29, -⟩ := h; exact Rg.wanted_some (by rfl) (by rfl) e29)
  · rintro a w1 hb ⟨e4, e29, -⟩
    conv at e4 => rhs; whnf
    have n4 := e4
    simp only [Act.eval, Array.getD_eq_getD_getElem?] at n4
    replace e29 : a.eval (.tmp 29) = _ := e29
    have n29 := e29
    simp only [Act.eval, Array.getD_eq_getD_getElem?] at n29
    apply Rg.gives_value
    · conv => lhs; simp [go_sem, n4, n29, cells4 (heap_keep' hb hA), cells4 (heap_keep' hb hB), cells4 (heap_keep' hb hC)]
    · exact ⟨rfl, Below.refl _ _⟩
  apply Rg.ch_def (by rfl) (fun a w1 h => by obtain ⟨-, e29, -⟩ := h; exact Rg.wanted_some (by rfl) (by rfl) e29)
  · rintro a w1 hb ⟨e5, e29, -⟩
    conv at e5 => rhs; whnf
    have n5 := e5
    simp only [Act.eval, Array.getD_eq_getD_getElem?] at n5
    replace e29 : a.eval (.tmp 29) = _ := e29
    have n29 := e29
    simp only [Act.eval, Array.getD_eq_getD_getElem?] at n29
    apply Rg.gives_value
    · conv => lhs; simp [go_sem, n5, n29, cells4 (heap_keep' hb hA), cells4 (heap_keep' hb hB), cells4 (heap_keep' hb hC)]
    · exact ⟨rfl, Below.refl _ _⟩
  apply Rg.ch_rel (Rg.Row W.heap.size 25 2 _) (Rg.stable_row _ _ _ _) (by rfl) (fun a w1 h => by obtain ⟨-, -, e29, -⟩ := h; exact Rg.wanted_some (by rfl) (by rfl) e29)
  · rintro a w1 hb ⟨e38, e39, e29, -⟩
    replace e38 : a.eval (.tmp 38) = _ := e38
    have n38 := e38
    simp only [Act.eval, Array.getD_eq_getD_getElem?] at n38
    replace e39 : a.eval (.tmp 39) = _ := e39
    have n39 := e39
    simp only [Act.eval, Array.getD_eq_getD_getElem?] at n39
    replace e29 : a.eval (.tmp 29) = _ := e29
    have n29 := e29
    simp only [Act.eval, Array.getD_eq_getD_getElem?] at n29
    apply Rg.gives_value
    · conv => lhs; simp [go_sem, n38, n39, n29]
    · exact ⟨⟨_, rfl, hb.size, heap_new _ _⟩, (Below.refl _ _).alloc (Nat.le_refl _) _⟩
  apply Rg.ch_def (by rfl) (fun a w1 h => by obtain ⟨-, e29, -⟩ := h; exact Rg.wanted_some (by rfl) (by rfl) e29)
  · rintro a w1 hb ⟨e40, e29, -⟩
    obtain ⟨b40, e40, g40, h40⟩ : ∃ b, a.eval (.tmp 40) = .slice (some ⟨b, 0, none⟩) 2 2 ∧ _ ≤ b ∧ w1.heap[b]? = _ := e40
    replace e29 : a.eval (.tmp 29) = _ := e29
    apply Rg.gives_enter
    · apply run_call Try.func23 (by kernel_rfl) rfl _ (by rfl)
      conv => lhs; simp only [List.map_toArray, List.map_cons, List.map_nil, eval_const_, eval_global_, e40]
    · refine (H6.out _ _ h40).mono ?_
      rintro e w2 ⟨rfl, hb2⟩
      exact ⟨_, rfl, rfl, hb2⟩
  apply Rg.ch_rel (Rg.Row W.heap.size 25 2 _) (Rg.stable_row _ _ _ _) (by rfl) (fun a w1 h => by obtain ⟨-, -, e29, -⟩ := h; exact Rg.wanted_some (by rfl) (by rfl) e29)
  · rintro a w1 hb ⟨e37, e41, e29, -⟩
    replace e37 : a.eval (.tmp 37) = _ := e37
    have n37 := e37
    simp only [Act.eval, Array.getD_eq_getD_getElem?] at n37
    replace e41 : a.eval (.tmp 41) = _ := e41
    have n41 := e41
    simp only [Act.eval, Array.getD_eq_getD_getElem?] at n41
    replace e29 : a.eval (.tmp 29) = _ := e29
    have n29 := e29
    simp only [Act.eval, Array.getD_eq_getD_getElem?] at n29
    apply Rg.gives_value
    · conv => lhs; simp [go_sem, n37, n41, n29]
    · exact ⟨⟨_, rfl, hb.size, heap_new _ _⟩, (Below.refl _ _).alloc (Nat.le_refl _) _⟩
  apply Rg.ch_def (by rfl) (fun a w1 h => by obtain ⟨-, e29, -⟩ := h; exact Rg.wanted_some (by rfl) (by rfl) e29)
  · rintro a w1 hb ⟨e42, e29, -⟩
    obtain ⟨b42, e42, g42, h42⟩ : ∃ b, a.eval (.tmp 42) = .slice (some ⟨b, 0, none⟩) 2 2 ∧ _ ≤ b ∧ w1.heap[b]? = _ := e42
    replace e29 : a.eval (.tmp 29) = _ := e29
    apply Rg.gives_enter
    · apply run_call Try.func23 (by kernel_rfl) rfl _ (by rfl)
      conv => lhs; simp only [List.map_toArray, List.map_cons, List.map_nil, eval_const_, eval_global_, e42]
    · refine (H7.out _ _ h42).mono ?_
      rintro e w2 ⟨rfl, hb2⟩
      exact ⟨_, rfl, rfl, hb2⟩
  apply Rg.ch_pure (by rfl)
  · rintro a w1 ⟨e36, e43, e29, -⟩
    replace e36 : a.eval (.tmp 36) = _ := e36
    have n36 := e36
    simp only [Act.eval, Array.getD_eq_getD_getElem?] at n36
    replace e43 : a.eval (.tmp 43) = _ := e43
    have n43 := e43
    simp only [Act.eval, Array.getD_eq_getD_getElem?] at n43
    replace e29 : a.eval (.tmp 29) = _ := e29
    have n29 := e29
    simp only [Act.eval, Array.getD_eq_getD_getElem?] at n29
    apply Rg.yields_run (Rg.wanted_some (by rfl) (by rfl) e29)
    intro w2
    conv => lhs; simp [go_sem, n36, n43, n29, E1, E2, E3, E4]
  apply Rg.ch_pure (by rfl)
  · rintro a w1 ⟨e29, e44, -⟩
    replace e29 : a.eval (.tmp 29) = _ := e29
    have n29 := e29
    simp only [Act.eval, Array.getD_eq_getD_getElem?] at n29
    replace e44 : a.eval (.tmp 44) = _ := e44
    have n44 := e44
    simp only [Act.eval, Array.getD_eq_getD_getElem?] at n44
    apply Rg.yields_run (Rg.wanted_none (by rfl))
    intro w2
    conv => lhs; simp [go_sem, n29, n44, E1, E2, E3, E4]
  apply Rg.ch_pure (by rfl)
  · rintro a w1 ⟨e45, -⟩
    replace e45 : a.eval (.tmp 45) = _ := e45
    have n45 := e45
    simp only [Act.eval, Array.getD_eq_getD_getElem?] at n45
    apply Rg.yields_run (Rg.wanted_none (by rfl))
    intro w2
    conv => lhs; simp [go_sem, n45, E1, E2, E3, E4]
  apply Rg.ch_def (by rfl) (fun a w1 h => by obtain ⟨-, e46, -⟩ := h; exact Rg.wanted_some (by rfl) (by rfl) e46)
  · rintro a w1 hb ⟨e3, e46, -⟩
    conv at e3 => rhs; whnf
    have n3 := e3
    simp only [Act.eval, Array.getD_eq_getD_getElem?] at n3
    replace e46 : a.eval (.tmp 46) = _ := e46
    have n46 := e46
    simp only [Act.eval, Array.getD_eq_getD_getElem?] at n46
    apply Rg.gives_value
    · conv => lhs; simp [go_sem, n3, n46, cells4 (heap_keep' hb hA), cells4 (heap_keep' hb hB), cells4 (heap_keep' hb hC)]
    · exact ⟨rfl, Below.refl _ _⟩
  apply Rg.ch_def (by rfl) (fun a w1 h => by obtain ⟨-, e46, -⟩ := h; exact Rg.wanted_some (by rfl) (by rfl) e46)
  · rintro a w1 hb ⟨e4, e46, -⟩
    conv at e4 => rhs; whnf
    have n4 := e4
    simp only [Act.eval, Array.getD_eq_getD_getElem?] at n4
    replace e46 : a.eval (.tmp 46) = _ := e46
    have n46 := e46
    simp only [Act.eval, Array.getD_eq_getD_getElem?] at n46
    apply Rg.gives_value
    · conv => lhs; simp [go_sem, n4, n46, cells4 (heap_keep' hb hA), cells4 (heap_keep' hb hB), cells4 (heap_keep' hb hC)]
    · exact ⟨rfl, Below.refl _ _⟩
  apply Rg.ch_rel (Rg.Row W.heap.size 25 2 _) (Rg.stable_row _ _ _ _) (by rfl) (fun a w1 h => by obtain ⟨-, -, e46, -⟩ := h; exact Rg.wanted_some (by rfl) (by rfl) e46)
  · rintro a w1 hb ⟨e47, e48, e46, -⟩
    replace e47 : a.eval (.tmp 47) = _ := e47
    have n47 := e47
    simp only [Act.eval, Array.getD_eq_getD_getElem?] at n47
    replace e48 : a.eval (.tmp 48) = _ := e48
    have n48 := e48
    simp only [Act.eval, Array.getD_eq_getD_getElem?] at n48
    replace e46 : a.eval (.tmp 46) = _ := e46
    have n46 := e46
    simp only [Act.eval, Array.getD_eq_getD_getElem?] at n46
    apply Rg.gives_value
    · conv => lhs; simp [go_sem, n47, n48, n46]
    · exact ⟨⟨_, rfl, hb.size, heap_new _ _⟩, (Below.refl _ _).alloc (Nat.le_refl _) _⟩
  apply Rg.ch_def (by rfl) (fun a w1 h => by obtain ⟨-, e46, -⟩ := h; exact Rg.wanted_some (by rfl) (by rfl) e46)
  · rintro a w1 hb ⟨e49, e46, -⟩
    obtain ⟨b49, e49, g49, h49⟩ : ∃ b, a.eval (.tmp 49) = .slice (some ⟨b, 0, none⟩) 2 2 ∧ _ ≤ b ∧ w1.heap[b]? = _ := e49
    replace e46 : a.eval (.tmp 46) = _ := e46
    apply Rg.gives_enter
    · apply run_call Try.func25 (by kernel_rfl) rfl _ (by rfl)
      conv => lhs; simp only [List.map_toArray, List.map_cons, List.map_nil, eval_const_, eval_global_, e49]
    · refine (H3.out _ _ h49).mono ?_
      rintro e w2 ⟨rfl, hb2⟩
      exact ⟨_, rfl, rfl, hb2⟩
  apply Rg.ch_def (by rfl) (fun a w1 h => by obtain ⟨-, e46, -⟩ := h; exact Rg.wanted_some (by rfl) (by rfl) e46)
  · rintro a w1 hb ⟨e5, e46, -⟩
    conv at e5 => rhs; whnf
    have n5 := e5
    simp only [Act.eval, Array.getD_eq_getD_getElem?] at n5
    replace e46 : a.eval (.tmp 46) = _ := e46
    have n46 := e46
    simp only [Act.eval, Array.getD_eq_getD_getElem?] at n46
    apply Rg.gives_value
    · conv => lhs; simp [go_sem, n5, n46, cells4 (heap_keep' hb hA), cells4 (heap_keep' hb hB), cells4 (heap_keep' hb hC)]
    · exact ⟨rfl, Below.refl _ _⟩
  apply Rg.ch_rel (Rg.Row W.heap.size 25 2 _) (Rg.stable_row _ _ _ _) (by rfl) (fun a w1 h => by obtain ⟨-, -, e46, -⟩ := h; exact Rg.wanted_some (by rfl) (by rfl) e46)
  · rintro a w1 hb ⟨e50, e51, e46, -⟩
    replace e50 : a.eval (.tmp 50) = _ := e50
    have n50 := e50
    simp only [Act.eval, Array.getD_eq_getD_getElem?] at n50
    replace e51 : a.eval (.tmp 51) = _ := e51
    have n51 := e51
    simp only [Act.eval, Array.getD_eq_getD_getElem?] at n51
    replace e46 : a.eval (.tmp 46) = _ := e46
    have n46 := e46
    simp only [Act.eval, Array.getD_eq_getD_getElem?] at n46
    apply Rg.gives_value
    · conv => lhs; simp [go_sem, n50, n51, n46]
    · exact ⟨⟨_, rfl, hb.size, heap_new _ _⟩, (Below.refl _ _).alloc (Nat.le_refl _) _⟩
  apply Rg.ch_def (by rfl) (fun a w1 h => by obtain ⟨-, e46, -⟩ := h; exact Rg.wanted_some (by rfl) (by rfl) e46)
  · rintro a w1 hb ⟨e52, e46, -⟩
    obtain ⟨b52, e52, g52, h52⟩ : ∃ b, a.eval (.tmp 52) = .slice (some ⟨b, 0, none⟩) 2 2 ∧ _ ≤ b ∧ w1.heap[b]? = _ := e52
    replace e46 : a.eval (.tmp 46) = _ := e46
    apply Rg.gives_enter
    · apply run_call Try.func25 (by kernel_rfl) rfl _ (by rfl)
      conv => lhs; simp only [List.map_toArray, List.map_cons, List.map_nil, eval_const_, eval_global_, e52]
    · refine (H8.out _ _ h52).mono ?_
      rintro e w2 ⟨rfl, hb2⟩
      exact ⟨_, rfl, rfl, hb2⟩
  apply Rg.ch_def (by rfl) (fun a w1 h => by obtain ⟨-, e46, -⟩ := h; exact Rg.wanted_some (by rfl) (by rfl) e46)
  · rintro a w1 hb ⟨e3, e46, -⟩
    conv at e3 => rhs; whnf
    have n3 := e3
    simp only [Act.eval, Array.getD_eq_getD_getElem?] at n3
    replace e46 : a.eval (.tmp 46) = _ := e46
    have n46 := e46
    simp only [Act.eval, Array.getD_eq_getD_getElem?] at n46
    apply Rg.gives_value
    · conv => lhs; simp [go_sem, n3, n46, cells4 (heap_keep' hb hA), cells4 (heap_keep' hb hB), cells4 (heap_keep' hb hC)]
    · exact ⟨rfl, Below.refl _ _⟩
  apply Rg.ch_def (by rfl) (fun a w1 h => by obtain ⟨-, e46, -⟩ := h; exact Rg.wanted_some (by rfl) (by rfl) e46)
  · rintro a w1 hb ⟨e4, e46, -⟩
    conv at e4 => rhs; whnf
    have n4 := e4
    simp only [Act.eval, Array.getD_eq_getD_getElem?] at n4
    replace e46 : a.eval (.tmp 46) = _ := e46
    have n46 := e46
    simp only [Act.eval, Array.getD_eq_getD_getElem?] at n46
    apply Rg.gives_value
    · conv => lhs; simp [go_sem, n4, n46, cells4 (heap_keep' hb hA), cells4 (heap_keep' hb hB), cells4 (heap_keep' hb hC)]
    · exact ⟨rfl, Below.refl _ _⟩
  apply Rg.ch_def (by rfl) (fun a w1 h => by obtain ⟨-, e46, -⟩ := h; exact Rg.wanted_some (by rfl) (by rfl) e46)
  · rintro a w1 hb ⟨e5, e46, -⟩
    conv at e5 => rhs; whnf
    have n5 := e5
    simp only [Act.eval, Array.getD_eq_getD_getElem?] at n5
    replace e46 : a.eval (.tmp 46) = _ := e46
    have n46 := e46
    simp only [Act.eval, Array.getD_eq_getD_getElem?] at n46
    apply Rg.gives_value
    · conv => lhs; simp [go_sem, n5, n46, cells4 (heap_keep' hb hA), cells4 (heap_keep' hb hB), cells4 (heap_keep' hb hC)]
    · exact ⟨rfl, Below.refl _ _⟩
  apply Rg.ch_rel (Rg.Row W.heap.size 25 2 _) (Rg.stable_row _ _ _ _) (by rfl) (fun a w1 h => by obtain ⟨-, -, e46, -⟩ := h; exact Rg.wanted_some (by rfl) (by rfl) e46)
  · rintro a w1 hb ⟨e55, e56, e46, -⟩
    replace e55 : a.eval (.tmp 55) = _ := e55
    have n55 := e55
    simp only [Act.eval, Array.getD_eq_getD_getElem?] at n55
    replace e56 : a.eval (.tmp 56) = _ := e56
    have n56 := e56
    simp only [Act.eval, Array.getD_eq_getD_getElem?] at n56
    replace e46 : a.eval (.tmp 46) = _ := e46
    have n46 := e46
    simp only [Act.eval, Array.getD_eq_getD_getElem?] at n46
    apply Rg.gives_value
    · conv => lhs; simp [go_sem, n55, n56, n46]
    · exact ⟨⟨_, rfl, hb.size, heap_new _ _⟩, (Below.refl _ _).alloc (Nat.le_refl _) _⟩
  apply Rg.ch_def (by rfl) (fun a w1 h => by obtain ⟨-, e46, -⟩ := h; exact Rg.wanted_some (by rfl) (by rfl) e46)
  · rintro a w1 hb ⟨e57, e46, -⟩
    obtain ⟨b57, e57, g57, h57⟩ : ∃ b, a.eval (.tmp 57) = .slice (some ⟨b, 0, none⟩) 2 2 ∧ _ ≤ b ∧ w1.heap[b]? = _ := e57
    replace e46 : a.eval (.tmp 46) = _ := e46
    apply Rg.gives_enter
    · apply run_call Try.func25 (by kernel_rfl) rfl _ (by rfl)
      conv => lhs; simp only [List.map_toArray, List.map_cons, List.map_nil, eval_const_, eval_global_, e57]
    · refine (H9.out _ _ h57).mono ?_
      rintro e w2 ⟨rfl, hb2⟩
      exact ⟨_, rfl, rfl, hb2⟩
  apply Rg.ch_rel (Rg.Row W.heap.size 25 2 _) (Rg.stable_row _ _ _ _) (by rfl) (fun a w1 h => by obtain ⟨-, -, e46, -⟩ := h; exact Rg.wanted_some (by rfl) (by rfl) e46)
  · rintro a w1 hb ⟨e54, e58, e46, -⟩
    replace e54 : a.eval (.tmp 54) = _ := e54
    have n54 := e54
    simp only [Act.eval, Array.getD_eq_getD_getElem?] at n54
    replace e58 : a.eval (.tmp 58) = _ := e58
    have n58 := e58
    simp only [Act.eval, Array.getD_eq_getD_getElem?] at n58
    replace e46 : a.eval (.tmp 46) = _ := e46
    have n46 := e46
    simp only [Act.eval, Array.getD_eq_getD_getElem?] at n46
    apply Rg.gives_value
    · conv => lhs; simp [go_sem, n54, n58, n46]
    · exact ⟨⟨_, rfl, hb.size, heap_new _ _⟩, (Below.refl _ _).alloc (Nat.le_refl _) _⟩
  apply Rg.ch_def (by rfl) (fun a w1 h => by obtain ⟨-, e46, -⟩ := h; exact Rg.wanted_some (by rfl) (by rfl) e46)
  · rintro a w1 hb ⟨e59, e46, -⟩
    obtain ⟨b59, e59, g59, h59⟩ : ∃ b, a.eval (.tmp 59) = .slice (some ⟨b, 0, none⟩) 2 2 ∧ _ ≤ b ∧ w1.heap[b]? = _ := e59
    replace e46 : a.eval (.tmp 46) = _ := e46
    apply Rg.gives_enter
    · apply run_call Try.func25 (by kernel_rfl) rfl _ (by rfl)
      conv => lhs; simp only [List.map_toArray, List.map_cons, List.map_nil, eval_const_, eval_global_, e59]
    · refine (H10.out _ _ h59).mono ?_
      rintro e w2 ⟨rfl, hb2⟩
      exact ⟨_, rfl, rfl, hb2⟩
  apply Rg.ch_pure (by rfl)
  · rintro a w1 ⟨e53, e60, e46, -⟩
    replace e53 : a.eval (.tmp 53) = _ := e53
    have n53 := e53
    simp only [Act.eval, Array.getD_eq_getD_getElem?] at n53
    replace e60 : a.eval (.tmp 60) = _ := e60
    have n60 := e60
    simp only [Act.eval, Array.getD_eq_getD_getElem?] at n60
    replace e46 : a.eval (.tmp 46) = _ := e46
    have n46 := e46
    simp only [Act.eval, Array.getD_eq_getD_getElem?] at n46
    apply Rg.yields_run (Rg.wanted_some (by rfl) (by rfl) e46)
    intro w2
    conv => lhs; simp [go_sem, n53, n60, n46, E1, E2, E3, E4]
  apply Rg.ch_pure (by rfl)
  · rintro a w1 ⟨e46, e61, -⟩
    replace e46 : a.eval (.tmp 46) = _ := e46
    have n46 := e46
    simp only [Act.eval, Array.getD_eq_getD_getElem?] at n46
    replace e61 : a.eval (.tmp 61) = _ := e61
    have n61 := e61
    simp only [Act.eval, Array.getD_eq_getD_getElem?] at n61
    apply Rg.yields_run (Rg.wanted_none (by rfl))
    intro w2
    conv => lhs; simp [go_sem, n46, n61, E1, E2, E3, E4]
  intro w1 hb1
  rintro _ rfl _ rfl v11 ⟨b11, rfl, ge11, hh11⟩ _ rfl _ rfl _ rfl v15 ⟨b15, rfl, ge15, hh15⟩ _ rfl _ rfl _ rfl _ rfl _ rfl v21 ⟨b21, rfl, ge21, hh21⟩ _ rfl _ rfl _ rfl v25 ⟨b25, rfl, ge25, hh25⟩ _ rfl _ rfl _ rfl _ rfl _ rfl _ rfl v32 ⟨b32, rfl, ge32, hh32⟩ _ rfl _ rfl v35 ⟨b35, rfl, ge35, hh35⟩ _ rfl _ rfl _ rfl _ rfl v40 ⟨b40, rfl, ge40, hh40⟩ _ rfl v42 ⟨b42, rfl, ge42, hh42⟩ _ rfl _ rfl _ rfl _ rfl _ rfl _ rfl v49 ⟨b49, rfl, ge49, hh49⟩ _ rfl _ rfl v52 ⟨b52, rfl, ge52, hh52⟩ _ rfl _ rfl _ rfl _ rfl v57 ⟨b57, rfl, ge57, hh57⟩ _ rfl v59 ⟨b59, rfl, ge59, hh59⟩ _ rfl _ rfl _ rfl
  change Go.wpList _ _ _ _ _ _
  set_option maxRecDepth 100000 in simp only [List.drop_succ_cons, List.drop_zero, List.drop_nil, Act.put, List.setIfInBounds_toArray, List.set_cons_succ, List.set_cons_zero]
  change Go.NoPanic _ _ _ _
  refine NoPanic.normal ?_
  have HAc := Lib.hid (heap_keep' hb1 hA); have HBc := Lib.hid (heap_keep' hb1 hB); have HCc := Lib.hid (heap_keep' hb1 hC)
  have HB1 : Hid (Below w.heap.size w w1) := below_call HB0 HB0.size hb1
  clear hA hB hC HB0 hb1 hW
  clear hh11 hh15 hh21 hh25 hh32 hh35 hh40 hh42 hh49 hh52 hh57 hh59 ge11 ge15 ge21 ge25 ge32 ge35 ge40 ge42 ge49 ge52 ge57 ge59
  obtain ⟨wk2, rfl⟩ : ∃ x : World, x = w1 := ⟨_, rfl⟩
  go_wp2
  refine Rg.region_ (n := 104) [0, 0, 0, 6, 14, 31, 63, 0, 0, 384, 1023, 0, 0, 6144, 16383, 32767, 65535, 131071, 262143, 524287, 524287, 2097151, 524287, 8388607, 16777215, 524287, 34078719, 134217727, 268435455, 536870911, 1073741823, 2147483647, 2147483647, 8589934591, 2147483647, 2147483647, 68719476735, 137438953471, 274877906943, 549755813887, 1099511627775, 2199023255551] [1, 1, 1, 1, 1, 1, 1, 1, 1, 1, 1, 1, 1, 1, 1, 1, 1, 0, 0, 1, 1, 1, 1, 1, 1, 1, 1, 1, 0, 0, 0, 1, 1, 1, 1, 1, 1, 1, 1, 1, 0, 0] [63, 64, 65, 66, 67, 68, 69, 70, 71, 72, 73, 74, 75, 76, 77, 78, 79, 80, 81, 82, 83, 84, 85, 86, 87, 88, 89, 90, 91, 92, 93, 94, 95, 96, 97, 98, 99, 100, 101, 102, 103, 6] [[(3, none)], [(4, none)], [(5, none)], [(64, some 1), (65, some 2)], [(66, some 3)], [(63, some 0), (67, some 4)], [(68, some 5)], [(3, none)], [(4, none)], [(70, some 7), (71, some 8)], [(72, some 9)], [(3, none)], [(5, none)], [(74, some 11), (75, some 12)], [(76, some 13)], [(73, some 10), (77, some 14)], [(78, some 15)], [(69, some 6), (79, some 16)], [(80, some 17)], [(3, none), (81, some 18)], [(4, none), (81, some 18)], [(82, some 19), (83, some 20), (81, some 18)], [(4, none), (81, some 18)], [(84, some 21), (85, some 22), (81, some 18)], [(86, some 23), (81, some 18)], [(3, none), (81, some 18)], [(88, some 25), (81, some 18)], [(89, some 26), (81, some 18)], [(87, some 24), (90, some 27), (81, some 18)], [(81, some 18), (91, some 28)], [(92, some 29)], [(3, none), (93, some 30)], [(4, none), (93, some 30)], [(94, some 31), (95, some 32), (93, some 30)], [(4, none), (93, some 30)], [(3, none), (93, some 30)], [(97, some 34), (98, some 35), (93, some 30)], [(96, some 33), (99, some 36), (93, some 30)], [(100, some 37), (93, some 30)], [(101, some 38), (93, some 30)], [(93, some 30), (102, some 39)], [(103, some 40)]] 42 (by kernel_rfl) (by kernel_rfl) (by rfl) ?_
  intro W hW
  have hA : W.heap[w.heap.size]? = some (.cells #[.int .u64 a0, .int .u64 a1, .int .u64 a2, .int .u64 a3] 25 (0, 0)) := by rw [hW]; exact heap_drew HAc.out
  have hB : W.heap[w.heap.size + 1]? = some (.cells #[.int .u64 b0, .int .u64 b1, .int .u64 b2, .int .u64 b3] 25 (0, 0)) := by rw [hW]; exact heap_drew HBc.out
  have hC : W.heap[w.heap.size + 1 + 1]? = some (.cells #[.int .u64 c0, .int .u64 c1, .int .u64 c2, .int .u64 c3] 25 (0, 0)) := by rw [hW]; exact heap_drew HCc.out
  have HB0 : Below w.heap.size w W := by rw [hW]; exact HB1.out.drew
  change Rg.Chain' _ _ _ _ _ [(0, 1, 63, [(3, none)]), (1, 1, 64, [(4, none)]), (2, 1, 65, [(5, none)]), (3, 1, 66, [(64, some 1), (65, some 2)]), (4, 1, 67, [(66, some 3)]), (5, 1, 68, [(63, some 0), (67, some 4)]), (6, 1, 69, [(68, some 5)]), (7, 1, 70, [(3, none)]), (8, 1, 71, [(4, none)]), (9, 1, 72, [(70, some 7), (71, some 8)]), (10, 1, 73, [(72, some 9)]), (11, 1, 74, [(3, none)]), (12, 1, 75, [(5, none)]), (13, 1, 76, [(74, some 11), (75, some 12)]), (14, 1, 77, [(76, some 13)]), (15, 1, 78, [(73, some 10), (77, some 14)]), (16, 1, 79, [(78, some 15)]), (17, 0, 80, [(69, some 6), (79, some 16)]), (18, 0, 81, [(80, some 17)]), (19, 1, 82, [(3, none), (81, some 18)]), (20, 1, 83, [(4, none), (81, some 18)]), (21, 1, 84, [(82, some 19), (83, some 20), (81, some 18)]), (22, 1, 85, [(4, none), (81, some 18)]), (23, 1, 86, [(84, some 21), (85, some 22), (81, some 18)]), (24, 1, 87, [(86, some 23), (81, some 18)]), (25, 1, 88, [(3, none), (81, some 18)]), (26, 1, 89, [(88, some 25), (81, some 18)]), (27, 1, 90, [(89, some 26), (81, some 18)]), (28, 0, 91, [(87, some 24), (90, some 27), (81, some 18)]), (29, 0, 92, [(81, some 18), (91, some 28)]), (30, 0, 93, [(92, some 29)]), (31, 1, 94, [(3, none), (93, some 30)]), (32, 1, 95, [(4, none), (93, some 30)]), (33, 1, 96, [(94, some 31), (95, some 32), (93, some 30)]), (34, 1, 97, [(4, none), (93, some 30)]), (35, 1, 98, [(3, none), (93, some 30)]), (36, 1, 99, [(97, some 34), (98, some 35), (93, some 30)]), (37, 1, 100, [(96, some 33), (99, some 36), (93, some 30)]), (38, 1, 101, [(100, some 37), (93, some 30)]), (39, 1, 102, [(101, some 38), (93, some 30)]), (40, 0, 103, [(93, some 30), (102, some 39)]), (41, 0, 6, [(103, some 40)])] [(0, 1, 63, [(3, none)]), (1, 1, 64, [(4, none)]), (2, 1, 65, [(5, none)]), (3, 1, 66, [(64, some 1), (65, some 2)]), (4, 1, 67, [(66, some 3)]), (5, 1, 68, [(63, some 0), (67, some 4)]), (6, 1, 69, [(68, some 5)]), (7, 1, 70, [(3, none)]), (8, 1, 71, [(4, none)]), (9, 1, 72, [(70, some 7), (71, some 8)]), (10, 1, 73, [(72, some 9)]), (11, 1, 74, [(3, none)]), (12, 1, 75, [(5, none)]), (13, 1, 76, [(74, some 11), (75, some 12)]), (14, 1, 77, [(76, some 13)]), (15, 1, 78, [(73, some 10), (77, some 14)]), (16, 1, 79, [(78, some 15)]), (17, 0, 80, [(69, some 6), (79, some 16)]), (18, 0, 81, [(80, some 17)]), (19, 1, 82, [(3, none), (81, some 18)]), (20, 1, 83, [(4, none), (81, some 18)]), (21, 1, 84, [(82, some 19), (83, some 20), (81, some 18)]), (22, 1, 85, [(4, none), (81, some 18)]), (23, 1, 86, [(84, some 21), (85, some 22), (81, some 18)]), (24, 1, 87, [(86, some 23), (81, some 18)]), (25, 1, 88, [(3, none), (81, some 18)]), (26, 1, 89, [(88, some 25), (81, some 18)]), (27, 1, 90, [(89, some 26), (81, some 18)]), (28, 0, 91, [(87, some 24), (90, some 27), (81, some 18)]), (29, 0, 92, [(81, some 18), (91, some 28)]), (30, 0, 93, [(92, some 29)]), (31, 1, 94, [(3, none), (93, some 30)]), (32, 1, 95, [(4, none), (93, some 30)]), (33, 1, 96, [(94, some 31), (95, some 32), (93, some 30)]), (34, 1, 97, [(4, none), (93, some 30)]), (35, 1, 98, [(3, none), (93, some 30)]), (36, 1, 99, [(97, some 34), (98, some 35), (93, some 30)]), (37, 1, 100, [(96, some 33), (99, some 36), (93, some 30)]), (38, 1, 101, [(100, some 37), (93, some 30)]), (39, 1, 102, [(101, some 38), (93, some 30)]), (40, 0, 103, [(93, some 30), (102, some 39)]), (41, 0, 6, [(103, some 40)])] _
  apply Rg.ch_def (by rfl) (fun a w1 _ => Rg.wanted_none (by rfl))
  · rintro a w1 hb ⟨e3, -⟩
    conv at e3 => rhs; whnf
    have n3 := e3
    simp only [Act.eval, Array.getD_eq_getD_getElem?] at n3
    apply Rg.gives_value
    · conv => lhs; simp [go_sem, n3, cells4 (heap_keep' hb hA), cells4 (heap_keep' hb hB), cells4 (heap_keep' hb hC)]
    · exact ⟨rfl, Below.refl _ _⟩
  apply Rg.ch_def (by rfl) (fun a w1 _ => Rg.wanted_none (by rfl))
  · rintro a w1 hb ⟨e4, -⟩
    conv at e4 => rhs; whnf
    have n4 := e4
    simp only [Act.eval, Array.getD_eq_getD_getElem?] at n4
    apply Rg.gives_value
    · conv => lhs; simp [go_sem, n4, cells4 (heap_keep' hb hA), cells4 (heap_keep' hb hB), cells4 (heap_keep' hb hC)]
    · exact ⟨rfl, Below.refl _ _⟩
  apply Rg.ch_def (by rfl) (fun a w1 _ => Rg.wanted_none (by rfl))
  · rintro a w1 hb ⟨e5, -⟩
    conv at e5 => rhs; whnf
    have n5 := e5
    simp only [Act.eval, Array.getD_eq_getD_getElem?] at n5
    apply Rg.gives_value
    · conv => lhs; simp [go_sem, n5, cells4 (heap_keep' hb hA), cells4 (heap_keep' hb hB), cells4 (heap_keep' hb hC)]
    · exact ⟨rfl, Below.refl _ _⟩
  apply Rg.ch_rel (Rg.Row W.heap.size 25 2 _) (Rg.stable_row _ _ _ _) (by rfl) (fun a w1 _ => Rg.wanted_none (by rfl))
  · rintro a w1 hb ⟨e64, e65, -⟩
    replace e64 : a.eval (.tmp 64) = _ := e64
    have n64 := e64
    simp only [Act.eval, Array.getD_eq_getD_getElem?] at n64
    replace e65 : a.eval (.tmp 65) = _ := e65
    have n65 := e65
    simp only [Act.eval, Array.getD_eq_getD_getElem?] at n65
    apply Rg.gives_value
    · conv => lhs; simp [go_sem, n64, n65]
    · exact ⟨⟨_, rfl, hb.size, heap_new _ _⟩, (Below.refl _ _).alloc (Nat.le_refl _) _⟩
  apply Rg.ch_def (by rfl) (fun a w1 _ => Rg.wanted_none (by rfl))
  · rintro a w1 hb ⟨e66, -⟩
    obtain ⟨b66, e66, g66, h66⟩ : ∃ b, a.eval (.tmp 66) = .slice (some ⟨b, 0, none⟩) 2 2 ∧ _ ≤ b ∧ w1.heap[b]? = _ := e66
    apply Rg.gives_enter
    · apply run_call Try.func23 (by kernel_rfl) rfl _ (by rfl)
      conv => lhs; simp only [List.map_toArray, List.map_cons, List.map_nil, eval_const_, eval_global_, e66]
    · refine (H6.out _ _ h66).mono ?_
      rintro e w2 ⟨rfl, hb2⟩
      exact ⟨_, rfl, rfl, hb2⟩
  apply Rg.ch_rel (Rg.Row W.heap.size 25 2 _) (Rg.stable_row _ _ _ _) (by rfl) (fun a w1 _ => Rg.wanted_none (by rfl))
  · rintro a w1 hb ⟨e63, e67, -⟩
    replace e63 : a.eval (.tmp 63) = _ := e63
    have n63 := e63
    simp only [Act.eval, Array.getD_eq_getD_getElem?] at n63
    replace e67 : a.eval (.tmp 67) = _ := e67
    have n67 := e67
    simp only [Act.eval, Array.getD_eq_getD_getElem?] at n67
    apply Rg.gives_value
    · conv => lhs; simp [go_sem, n63, n67]
    · exact ⟨⟨_, rfl, hb.size, heap_new _ _⟩, (Below.refl _ _).alloc (Nat.le_refl _) _⟩
  apply Rg.ch_def (by rfl) (fun a w1 _ => Rg.wanted_none (by rfl))
  · rintro a w1 hb ⟨e68, -⟩
    obtain ⟨b68, e68, g68, h68⟩ : ∃ b, a.eval (.tmp 68) = .slice (some ⟨b, 0, none⟩) 2 2 ∧ _ ≤ b ∧ w1.heap[b]? = _ := e68
    apply Rg.gives_enter
    · apply run_call Try.func25 (by kernel_rfl) rfl _ (by rfl)
      conv => lhs; simp only [List.map_toArray, List.map_cons, List.map_nil, eval_const_, eval_global_, e68]
    · refine (H11.out _ _ h68).mono ?_
      rintro e w2 ⟨rfl, hb2⟩
      exact ⟨_, rfl, rfl, hb2⟩
  apply Rg.ch_def (by rfl) (fun a w1 _ => Rg.wanted_none (by rfl))
  · rintro a w1 hb ⟨e3, -⟩
    conv at e3 => rhs; whnf
    have n3 := e3
    simp only [Act.eval, Array.getD_eq_getD_getElem?] at n3
    apply Rg.gives_value
    · conv => lhs; simp [go_sem, n3, cells4 (heap_keep' hb hA), cells4 (heap_keep' hb hB), cells4 (heap_keep' hb hC)]
    · exact ⟨rfl, Below.refl _ _⟩
  apply Rg.ch_def (by rfl) (fun a w1 _ => Rg.wanted_none (by rfl))
  · rintro a w1 hb ⟨e4, -⟩
    conv at e4 => rhs; whnf
    have n4 := e4
    simp only [Act.eval, Array.getD_eq_getD_getElem?] at n4
    apply Rg.gives_value
    · conv => lhs; simp [go_sem, n4, cells4 (heap_keep' hb hA), cells4 (heap_keep' hb hB), cells4 (heap_keep' hb hC)]
    · exact ⟨rfl, Below.refl _ _⟩
  apply Rg.ch_rel (Rg.Row W.heap.size 25 2 _) (Rg.stable_row _ _ _ _) (by rfl) (fun a w1 _ => Rg.wanted_none (by rfl))
  · rintro a w1 hb ⟨e70, e71, -⟩
    replace e70 : a.eval (.tmp 70) = _ := e70
    have n70 := e70
    simp only [Act.eval, Array.getD_eq_getD_getElem?] at n70
    replace e71 : a.eval (.tmp 71) = _ := e71
    have n71 := e71
    simp only [Act.eval, Array.getD_eq_getD_getElem?] at n71
    apply Rg.gives_value
    · conv => lhs; simp [go_sem, n70, n71]
    · exact ⟨⟨_, rfl, hb.size, heap_new _ _⟩, (Below.refl _ _).alloc (Nat.le_refl _) _⟩
  apply Rg.ch_def (by rfl) (fun a w1 _ => Rg.wanted_none (by rfl))
  · rintro a w1 hb ⟨e72, -⟩
    obtain ⟨b72, e72, g72, h72⟩ : ∃ b, a.eval (.tmp 72) = .slice (some ⟨b, 0, none⟩) 2 2 ∧ _ ≤ b ∧ w1.heap[b]? = _ := e72
    apply Rg.gives_enter
    · apply run_call Try.func25 (by kernel_rfl) rfl _ (by rfl)
      conv => lhs; simp only [List.map_toArray, List.map_cons, List.map_nil, eval_const_, eval_global_, e72]
    · refine (H3.out _ _ h72).mono ?_
      rintro e w2 ⟨rfl, hb2⟩
      exact ⟨_, rfl, rfl, hb2⟩
  apply Rg.ch_def (by rfl) (fun a w1 _ => Rg.wanted_none (by rfl))
  · rintro a w1 hb ⟨e3, -⟩
    conv at e3 => rhs; whnf
    have n3 := e3
    simp only [Act.eval, Array.getD_eq_getD_getElem?] at n3
    apply Rg.gives_value
    · conv => lhs; simp [go_sem, n3, cells4 (heap_keep' hb hA), cells4 (heap_keep' hb hB), cells4 (heap_keep' hb hC)]
    · exact ⟨rfl, Below.refl _ _⟩
  apply Rg.ch_def (by rfl) (fun a w1 _ => Rg.wanted_none (by rfl))
  · rintro a w1 hb ⟨e5, -⟩
    conv at e5 => rhs; whnf
    have n5 := e5
    simp only [Act.eval, Array.getD_eq_getD_getElem?] at n5
    apply Rg.gives_value
    · conv => lhs; simp [go_sem, n5, cells4 (heap_keep' hb hA), cells4 (heap_keep' hb hB), cells4 (heap_keep' hb hC)]
    · exact ⟨rfl, Below.refl _ _⟩
  apply Rg.ch_rel (Rg.Row W.heap.size 25 2 _) (Rg.stable_row _ _ _ _) (by rfl) (fun a w1 _ => Rg.wanted_none (by rfl))
  · rintro a w1 hb ⟨e74, e75, -⟩
    replace e74 : a.eval (.tmp 74) = _ := e74
    have n74 := e74
    simp only [Act.eval, Array.getD_eq_getD_getElem?] at n74
    replace e75 : a.eval (.tmp 75) = _ := e75
    have n75 := e75
    simp only [Act.eval, Array.getD_eq_getD_getElem?] at n75
    apply Rg.gives_value
    · conv => lhs; simp [go_sem, n74, n75]
    · exact ⟨⟨_, rfl, hb.size, heap_new _ _⟩, (Below.refl _ _).alloc (Nat.le_refl _) _⟩
  apply Rg.ch_def (by rfl) (fun a w1 _ => Rg.wanted_none (by rfl))
  · rintro a w1 hb ⟨e76, -⟩
    obtain ⟨b76, e76, g76, h76⟩ : ∃ b, a.eval (.tmp 76) = .slice (some ⟨b, 0, none⟩) 2 2 ∧ _ ≤ b ∧ w1.heap[b]? = _ := e76
    apply Rg.gives_enter
    · apply run_call Try.func25 (by kernel_rfl) rfl _ (by rfl)
      conv => lhs; simp only [List.map_toArray, List.map_cons, List.map_nil, eval_const_, eval_global_, e76]
    · refine (H12.out _ _ h76).mono ?_
      rintro e w2 ⟨rfl, hb2⟩
      exact ⟨_, rfl, rfl, hb2⟩
  apply Rg.ch_rel (Rg.Row W.heap.size 25 2 _) (Rg.stable_row _ _ _ _) (by rfl) (fun a w1 _ => Rg.wanted_none (by rfl))
  · rintro a w1 hb ⟨e73, e77, -⟩
    replace e73 : a.eval (.tmp 73) = _ := e73
    have n73 := e73
    simp only [Act.eval, Array.getD_eq_getD_getElem?] at n73
    replace e77 : a.eval (.tmp 77) = _ := e77
    have n77 := e77
    simp only [Act.eval, Array.getD_eq_getD_getElem?] at n77
    apply Rg.gives_value
    · conv => lhs; simp [go_sem, n73, n77]
    · exact ⟨⟨_, rfl, hb.size, heap_new _ _⟩, (Below.refl _ _).alloc (Nat.le_refl _) _⟩
  apply Rg.ch_def (by rfl) (fun a w1 _ => Rg.wanted_none (by rfl))
  · rintro a w1 hb ⟨e78, -⟩
    obtain ⟨b78, e78, g78, h78⟩ : ∃ b, a.eval (.tmp 78) = .slice (some ⟨b, 0, none⟩) 2 2 ∧ _ ≤ b ∧ w1.heap[b]? = _ := e78
    apply Rg.gives_enter
    · apply run_call Try.func23 (by kernel_rfl) rfl _ (by rfl)
      conv => lhs; simp only [List.map_toArray, List.map_cons, List.map_nil, eval_const_, eval_global_, e78]
    · refine (H13.out _ _ h78).mono ?_
      rintro e w2 ⟨rfl, hb2⟩
      exact ⟨_, rfl, rfl, hb2⟩
  apply Rg.ch_pure (by rfl)
  · rintro a w1 ⟨e69, e79, -⟩
    replace e69 : a.eval (.tmp 69) = _ := e69
    have n69 := e69
    simp only [Act.eval, Array.getD_eq_getD_getElem?] at n69
    replace e79 : a.eval (.tmp 79) = _ := e79
    have n79 := e79
    simp only [Act.eval, Array.getD_eq_getD_getElem?] at n79
    apply Rg.yields_run (Rg.wanted_none (by rfl))
    intro w2
    conv => lhs; simp [go_sem, n69, n79, E5, E6]
  apply Rg.ch_pure (by rfl)
  · rintro a w1 ⟨e80, -⟩
    replace e80 : a.eval (.tmp 80) = _ := e80
    have n80 := e80
    simp only [Act.eval, Array.getD_eq_getD_getElem?] at n80
    apply Rg.yields_run (Rg.wanted_none (by rfl))
    intro w2
    conv => lhs; simp [go_sem, n80, E5, E6]
  apply Rg.ch_def (by rfl) (fun a w1 h => by obtain ⟨-, e81, -⟩ := h; exact Rg.wanted_some (by rfl) (by rfl) e81)
  · rintro a w1 hb ⟨e3, e81, -⟩
    conv at e3 => rhs; whnf
    have n3 := e3
    simp only [Act.eval, Array.getD_eq_getD_getElem?] at n3
    replace e81 : a.eval (.tmp 81) = _ := e81
    have n81 := e81
    simp only [Act.eval, Array.getD_eq_getD_getElem?] at n81
    apply Rg.gives_value
    · conv => lhs; simp [go_sem, n3, n81, cells4 (heap_keep' hb hA), cells4 (heap_keep' hb hB), cells4 (heap_keep' hb hC)]
    · exact ⟨rfl, Below.refl _ _⟩
  apply Rg.ch_def (by rfl) (fun a w1 h => by obtain ⟨-, e81, -⟩ := h; exact Rg.wanted_some (by rfl) (by rfl) e81)
  · rintro a w1 hb ⟨e4, e81, -⟩
    conv at e4 => rhs; whnf
    have n4 := e4
    simp only [Act.eval, Array.getD_eq_getD_getElem?] at n4
    replace e81 : a.eval (.tmp 81) = _ := e81
    have n81 := e81
    simp only [Act.eval, Array.getD_eq_getD_getElem?] at n81
    apply Rg.gives_value
    · conv => lhs; simp [go_sem, n4, n81, cells4 (heap_keep' hb hA), cells4 (heap_keep' hb hB), cells4 (heap_keep' hb hC)]
    · exact ⟨rfl, Below.refl _ _⟩
  apply Rg.ch_def (by rfl) (fun a w1 h => by obtain ⟨-, -, e81, -⟩ := h; exact Rg.wanted_some (by rfl) (by rfl) e81)
  · rintro a w1 hb ⟨e82, e83, e81, -⟩
    replace e82 : a.eval (.tmp 82) = _ := e82
    replace e83 : a.eval (.tmp 83) = _ := e83
    replace e81 : a.eval (.tmp 81) = _ := e81
    apply Rg.gives_enter
    · apply run_call Try.func26 (by kernel_rfl) rfl _ (by rfl)
      conv => lhs; simp only [List.map_toArray, List.map_cons, List.map_nil, eval_const_, eval_global_, e82, e83]
    · refine (H14.out _).mono ?_
      rintro e w2 ⟨rfl, hb2⟩
      exact ⟨_, rfl, rfl, hb2⟩
  apply Rg.ch_def (by rfl) (fun a w1 h => by obtain ⟨-, e81, -⟩ := h; exact Rg.wanted_some (by rfl) (by rfl) e81)
  · rintro a w1 hb ⟨e4, e81, -⟩
    conv at e4 => rhs; whnf
    have n4 := e4
    simp only [Act.eval, Array.getD_eq_getD_getElem?] at n4
    replace e81 : a.eval (.tmp 81) = _ := e81
    have n81 := e81
    simp only [Act.eval, Array.getD_eq_getD_getElem?] at n81
    apply Rg.gives_value
    · conv => lhs; simp [go_sem, n4, n81, cells4 (heap_keep' hb hA), cells4 (heap_keep' hb hB), cells4 (heap_keep' hb hC)]
    · exact ⟨rfl, Below.refl _ _⟩
  apply Rg.ch_rel (Rg.Row W.heap.size 25 2 _) (Rg.stable_row _ _ _ _) (by rfl) (fun a w1 h => by obtain ⟨-, -, e81, -⟩ := h; exact Rg.wanted_some (by rfl) (by rfl) e81)
  · rintro a w1 hb ⟨e84, e85, e81, -⟩
    replace e84 : a.eval (.tmp 84) = _ := e84
    have n84 := e84
    simp only [Act.eval, Array.getD_eq_getD_getElem?] at n84
    replace e85 : a.eval (.tmp 85) = _ := e85
    have n85 := e85
    simp only [Act.eval, Array.getD_eq_getD_getElem?] at n85
    replace e81 : a.eval (.tmp 81) = _ := e81
    have n81 := e81
    simp only [Act.eval, Array.getD_eq_getD_getElem?] at n81
    apply Rg.gives_value
    · conv => lhs; simp [go_sem, n84, n85, n81]
    · exact ⟨⟨_, rfl, hb.size, heap_new _ _⟩, (Below.refl _ _).alloc (Nat.le_refl _) _⟩
  apply Rg.ch_def (by rfl) (fun a w1 h => by obtain ⟨-, e81, -⟩ := h; exact Rg.wanted_some (by rfl) (by rfl) e81)
  · rintro a w1 hb ⟨e86, e81, -⟩
    obtain ⟨b86, e86, g86, h86⟩ : ∃ b, a.eval (.tmp 86) = .slice (some ⟨b, 0, none⟩) 2 2 ∧ _ ≤ b ∧ w1.heap[b]? = _ := e86
    replace e81 : a.eval (.tmp 81) = _ := e81
    apply Rg.gives_enter
    · apply run_call Try.func23 (by kernel_rfl) rfl _ (by rfl)
      conv => lhs; simp only [List.map_toArray, List.map_cons, List.map_nil, eval_const_, eval_global_, e86]
    · refine (H15.out _ _ h86).mono ?_
      rintro e w2 ⟨rfl, hb2⟩
      exact ⟨_, rfl, rfl, hb2⟩
  apply Rg.ch_def (by rfl) (fun a w1 h => by obtain ⟨-, e81, -⟩ := h; exact Rg.wanted_some (by rfl) (by rfl) e81)
  · rintro a w1 hb ⟨e3, e81, -⟩
    conv at e3 => rhs; whnf
    have n3 := e3
    simp only [Act.eval, Array.getD_eq_getD_getElem?] at n3
    replace e81 : a.eval (.tmp 81) = _ := e81
    have n81 := e81
    simp only [Act.eval, Array.getD_eq_getD_getElem?] at n81
    apply Rg.gives_value
    · conv => lhs; simp [go_sem, n3, n81, cells4 (heap_keep' hb hA), cells4 (heap_keep' hb hB), cells4 (heap_keep' hb hC)]
    · exact ⟨rfl, Below.refl _ _⟩
  apply Rg.ch_rel (Rg.Row W.heap.size 25 1 _) (Rg.stable_row _ _ _ _) (by rfl) (fun a w1 h => by obtain ⟨-, e81, -⟩ := h; exact Rg.wanted_some (by rfl) (by rfl) e81)
  · rintro a w1 hb ⟨e88, e81, -⟩
    replace e88 : a.eval (.tmp 88) = _ := e88
    have n88 := e88
    simp only [Act.eval, Array.getD_eq_getD_getElem?] at n88
    replace e81 : a.eval (.tmp 81) = _ := e81
    have n81 := e81
    simp only [Act.eval, Array.getD_eq_getD_getElem?] at n81
    apply Rg.gives_value
    · conv => lhs; simp [go_sem, n88, n81]
    · exact ⟨⟨_, rfl, hb.size, heap_new _ _⟩, (Below.refl _ _).alloc (Nat.le_refl _) _⟩
  apply Rg.ch_def (by rfl) (fun a w1 h => by obtain ⟨-, e81, -⟩ := h; exact Rg.wanted_some (by rfl) (by rfl) e81)
  · rintro a w1 hb ⟨e89, e81, -⟩
    obtain ⟨b89, e89, g89, h89⟩ : ∃ b, a.eval (.tmp 89) = .slice (some ⟨b, 0, none⟩) 1 1 ∧ _ ≤ b ∧ w1.heap[b]? = _ := e89
    replace e81 : a.eval (.tmp 81) = _ := e81
    apply Rg.gives_enter
    · apply run_call Try.func23 (by kernel_rfl) rfl _ (by rfl)
      conv => lhs; simp only [List.map_toArray, List.map_cons, List.map_nil, eval_const_, eval_global_, e89]
    · refine (H16.out _ _ h89).mono ?_
      rintro e w2 ⟨rfl, hb2⟩
      exact ⟨_, rfl, rfl, hb2⟩
  apply Rg.ch_pure (by rfl)
  · rintro a w1 ⟨e87, e90, e81, -⟩
    replace e87 : a.eval (.tmp 87) = _ := e87
    have n87 := e87
    simp only [Act.eval, Array.getD_eq_getD_getElem?] at n87
    replace e90 : a.eval (.tmp 90) = _ := e90
    have n90 := e90
    simp only [Act.eval, Array.getD_eq_getD_getElem?] at n90
    replace e81 : a.eval (.tmp 81) = _ := e81
    have n81 := e81
    simp only [Act.eval, Array.getD_eq_getD_getElem?] at n81
    apply Rg.yields_run (Rg.wanted_some (by rfl) (by rfl) e81)
    intro w2
    conv => lhs; simp [go_sem, n87, n90, n81, E5, E6]
  apply Rg.ch_pure (by rfl)
  · rintro a w1 ⟨e81, e91, -⟩
    replace e81 : a.eval (.tmp 81) = _ := e81
    have n81 := e81
    simp only [Act.eval, Array.getD_eq_getD_getElem?] at n81
    replace e91 : a.eval (.tmp 91) = _ := e91
    have n91 := e91
    simp only [Act.eval, Array.getD_eq_getD_getElem?] at n91
    apply Rg.yields_run (Rg.wanted_none (by rfl))
    intro w2
    conv => lhs; simp [go_sem, n81, n91, E5, E6]
  apply Rg.ch_pure (by rfl)
  · rintro a w1 ⟨e92, -⟩
    replace e92 : a.eval (.tmp 92) = _ := e92
    have n92 := e92
    simp only [Act.eval, Array.getD_eq_getD_getElem?] at n92
    apply Rg.yields_run (Rg.wanted_none (by rfl))
    intro w2
    conv => lhs; simp [go_sem, n92, E5, E6]
  apply Rg.ch_def (by rfl) (fun a w1 h => by obtain ⟨-, e93, -⟩ := h; exact Rg.wanted_some (by rfl) (by rfl) e93)
  · rintro a w1 hb ⟨e3, e93, -⟩
    conv at e3 => rhs; whnf
    have n3 := e3
    simp only [Act.eval, Array.getD_eq_getD_getElem?] at n3
    replace e93 : a.eval (.tmp 93) = _ := e93
    have n93 := e93
    simp only [Act.eval, Array.getD_eq_getD_getElem?] at n93
    apply Rg.gives_value
    · conv => lhs; simp [go_sem, n3, n93, cells4 (heap_keep' hb hA), cells4 (heap_keep' hb hB), cells4 (heap_keep' hb hC)]
    · exact ⟨rfl, Below.refl _ _⟩
  apply Rg.ch_def (by rfl) (fun a w1 h => by obtain ⟨-, e93, -⟩ := h; exact Rg.wanted_some (by rfl) (by rfl) e93)
  · rintro a w1 hb ⟨e4, e93, -⟩
    conv at e4 => rhs; whnf
    have n4 := e4
    simp only [Act.eval, Array.getD_eq_getD_getElem?] at n4
    replace e93 : a.eval (.tmp 93) = _ := e93
    have n93 := e93
    simp only [Act.eval, Array.getD_eq_getD_getElem?] at n93
    apply Rg.gives_value
    · conv => lhs; simp [go_sem, n4, n93, cells4 (heap_keep' hb hA), cells4 (heap_keep' hb hB), cells4 (heap_keep' hb hC)]
    · exact ⟨rfl, Below.refl _ _⟩
  apply Rg.ch_def (by rfl) (fun a w1 h => by obtain ⟨-, -, e93, -⟩ := h; exact Rg.wanted_some (by rfl) (by rfl) e93)
  · rintro a w1 hb ⟨e94, e95, e93, -⟩
    replace e94 : a.eval (.tmp 94) = _ := e94
    replace e95 : a.eval (.tmp 95) = _ := e95
    replace e93 : a.eval (.tmp 93) = _ := e93
    apply Rg.gives_enter
    · apply run_call Try.func26 (by kernel_rfl) rfl _ (by rfl)
      conv => lhs; simp only [List.map_toArray, List.map_cons, List.map_nil, eval_const_, eval_global_, e94, e95]
    · refine (H14.out _).mono ?_
      rintro e w2 ⟨rfl, hb2⟩
      exact ⟨_, rfl, rfl, hb2⟩
  apply Rg.ch_def (by rfl) (fun a w1 h => by obtain ⟨-, e93, -⟩ := h; exact Rg.wanted_some (by rfl) (by rfl) e93)
  · rintro a w1 hb ⟨e4, e93, -⟩
    conv at e4 => rhs; whnf
    have n4 := e4
    simp only [Act.eval, Array.getD_eq_getD_getElem?] at n4
    replace e93 : a.eval (.tmp 93) = _ := e93
    have n93 := e93
    simp only [Act.eval, Array.getD_eq_getD_getElem?] at n93
    apply Rg.gives_value
    · conv => lhs; simp [go_sem, n4, n93, cells4 (heap_keep' hb hA), cells4 (heap_keep' hb hB), cells4 (heap_keep' hb hC)]
    · exact ⟨rfl, Below.refl _ _⟩
  apply Rg.ch_def (by rfl) (fun a w1 h => by obtain ⟨-, e93, -⟩ := h; exact Rg.wanted_some (by rfl) (by rfl) e93)
  · rintro a w1 hb ⟨e3, e93, -⟩
    conv at e3 => rhs; whnf
    have n3 := e3
    simp only [Act.eval, Array.getD_eq_getD_getElem?] at n3
    replace e93 : a.eval (.tmp 93) = _ := e93
    have n93 := e93
    simp only [Act.eval, Array.getD_eq_getD_getElem?] at n93
    apply Rg.gives_value
    · conv => lhs; simp [go_sem, n3, n93, cells4 (heap_keep' hb hA), cells4 (heap_keep' hb hB), cells4 (heap_keep' hb hC)]
    · exact ⟨rfl, Below.refl _ _⟩
  apply Rg.ch_def (by rfl) (fun a w1 h => by obtain ⟨-, -, e93, -⟩ := h; exact Rg.wanted_some (by rfl) (by rfl) e93)
  · rintro a w1 hb ⟨e97, e98, e93, -⟩
    replace e97 : a.eval (.tmp 97) = _ := e97
    replace e98 : a.eval (.tmp 98) = _ := e98
    replace e93 : a.eval (.tmp 93) = _ := e93
    apply Rg.gives_enter
    · apply run_call Try.func26 (by kernel_rfl) rfl _ (by rfl)
      conv => lhs; simp only [List.map_toArray, List.map_cons, List.map_nil, eval_const_, eval_global_, e97, e98]
    · refine (H17.out _).mono ?_
      rintro e w2 ⟨rfl, hb2⟩
      exact ⟨_, rfl, rfl, hb2⟩
  apply Rg.ch_rel (Rg.Row W.heap.size 25 2 _) (Rg.stable_row _ _ _ _) (by rfl) (fun a w1 h => by obtain ⟨-, -, e93, -⟩ := h; exact Rg.wanted_some (by rfl) (by rfl) e93)
  · rintro a w1 hb ⟨e96, e99, e93, -⟩
    replace e96 : a.eval (.tmp 96) = _ := e96
    have n96 := e96
    simp only [Act.eval, Array.getD_eq_getD_getElem?] at n96
    replace e99 : a.eval (.tmp 99) = _ := e99
    have n99 := e99
    simp only [Act.eval, Array.getD_eq_getD_getElem?] at n99
    replace e93 : a.eval (.tmp 93) = _ := e93
    have n93 := e93
    simp only [Act.eval, Array.getD_eq_getD_getElem?] at n93
    apply Rg.gives_value
    · conv => lhs; simp [go_sem, n96, n99, n93]
    · exact ⟨⟨_, rfl, hb.size, heap_new _ _⟩, (Below.refl _ _).alloc (Nat.le_refl _) _⟩
  apply Rg.ch_def (by rfl) (fun a w1 h => by obtain ⟨-, e93, -⟩ := h; exact Rg.wanted_some (by rfl) (by rfl) e93)
  · rintro a w1 hb ⟨e100, e93, -⟩
    obtain ⟨b100, e100, g100, h100⟩ : ∃ b, a.eval (.tmp 100) = .slice (some ⟨b, 0, none⟩) 2 2 ∧ _ ≤ b ∧ w1.heap[b]? = _ := e100
    replace e93 : a.eval (.tmp 93) = _ := e93
    apply Rg.gives_enter
    · apply run_call Try.func23 (by kernel_rfl) rfl _ (by rfl)
      conv => lhs; simp only [List.map_toArray, List.map_cons, List.map_nil, eval_const_, eval_global_, e100]
    · refine (H18.out _ _ h100).mono ?_
      rintro e w2 ⟨rfl, hb2⟩
      exact ⟨_, rfl, rfl, hb2⟩
  apply Rg.ch_def (by rfl) (fun a w1 h => by obtain ⟨-, e93, -⟩ := h; exact Rg.wanted_some (by rfl) (by rfl) e93)
  · rintro a w1 hb ⟨e101, e93, -⟩
    replace e101 : a.eval (.tmp 101) = _ := e101
    replace e93 : a.eval (.tmp 93) = _ := e93
    apply Rg.gives_enter
    · apply run_call Try.func15 (by kernel_rfl) rfl _ (by rfl)
      conv => lhs; simp only [List.map_toArray, List.map_cons, List.map_nil, eval_const_, eval_global_, e101]
    · refine (H19.out _).mono ?_
      rintro e w2 ⟨rfl, hb2⟩
      exact ⟨_, rfl, rfl, hb2⟩
  apply Rg.ch_pure (by rfl)
  · rintro a w1 ⟨e93, e102, -⟩
    replace e93 : a.eval (.tmp 93) = _ := e93
    have n93 := e93
    simp only [Act.eval, Array.getD_eq_getD_getElem?] at n93
    replace e102 : a.eval (.tmp 102) = _ := e102
    have n102 := e102
    simp only [Act.eval, Array.getD_eq_getD_getElem?] at n102
    apply Rg.yields_run (Rg.wanted_none (by rfl))
    intro w2
    conv => lhs; simp [go_sem, n93, n102, E5, E6]
  apply Rg.ch_pure (by rfl)
  · rintro a w1 ⟨e103, -⟩
    replace e103 : a.eval (.tmp 103) = _ := e103
    have n103 := e103
    simp only [Act.eval, Array.getD_eq_getD_getElem?] at n103
    apply Rg.yields_run (Rg.wanted_none (by rfl))
    intro w2
    conv => lhs; simp [go_sem, n103, E5, E6]
  intro w1 hb1
  rintro _ rfl _ rfl _ rfl v66 ⟨b66, rfl, ge66, hh66⟩ _ rfl v68 ⟨b68, rfl, ge68, hh68⟩ _ rfl _ rfl _ rfl v72 ⟨b72, rfl, ge72, hh72⟩ _ rfl _ rfl _ rfl v76 ⟨b76, rfl, ge76, hh76⟩ _ rfl v78 ⟨b78, rfl, ge78, hh78⟩ _ rfl _ rfl _ rfl _ rfl _ rfl _ rfl _ rfl v86 ⟨b86, rfl, ge86, hh86⟩ _ rfl _ rfl v89 ⟨b89, rfl, ge89, hh89⟩ _ rfl _ rfl _ rfl _ rfl _ rfl _ rfl _ rfl _ rfl _ rfl _ rfl v100 ⟨b100, rfl, ge100, hh100⟩ _ rfl _ rfl _ rfl _ rfl
  change Go.wpList _ _ _ _ _ _
  set_option maxRecDepth 100000 in simp only [List.drop_succ_cons, List.drop_zero, List.drop_nil, Act.put, List.setIfInBounds_toArray, List.set_cons_succ, List.set_cons_zero]
  change Go.NoPanic _ _ _ _
  refine NoPanic.normal ?_
  have HB2 : Below w.heap.size w w1 := below_call HB0 HB0.size hb1
  clear hA hB hC HB0 hb1 hW
  go_wp2
  go_ret
  refine ⟨rfl, ?_⟩
  exact HB2

end Go.Proofs.Ytldnjbpcdojffaa
