/- Law 11's DialThree. Conditions: none. -/
import Derived.Test.YtgeldhdijochdaaZ12
import Derived.Test.YtgeldhdijochdaaZ1
import Derived.Test.YtgeldhdijochdaaRows
import Derived.WalkKit
import Derived.ProofKit
import Derived.OpenShut
import Derived.ChangeOld
import Derived.Below
import Derived.Test.YtgeldhdijochdaaZ10
import Derived.ChangeSlices
set_option linter.unusedSectionVars false
namespace Go.Proofs.Ytgeldhdijochdaa.Am
set_option linter.unusedVariables false
set_option linter.unusedSimpArgs false
open Go Go.RowKit
open Pl (pP T256)
set_option linter.unusedSectionVars false
open Pl (F Kf Cv Pt LR Tie inv toF pL pT Prm)
section
variable [GT]
noncomputable def dzO : List (Nat × Ent) := [(31, vEnt vaw11), (33, entB [.sl .u8, .sl .u8] dsFz)]
theorem dzO_ok : OOK Try.prog dzO := ook_of (l := [(31, vEnt vaw11), (33, entB [.sl .u8, .sl .u8] dsFz)]) ⟨aw11_ent, sharedz_ent, trivial⟩
noncomputable def dkO : List (Nat × Ent) := [(31, vEnt vaw11), (33, entB [.sl .u8, .sl .u8] dsF)]
theorem dkO_ok : OOK Try.prog dkO := ook_of (l := [(31, vEnt vaw11), (33, entB [.sl .u8, .sl .u8] dsF)]) ⟨aw11_ent, shared_ent, trivial⟩
noncomputable abbrev fD3 : Func := Try.f9
theorem d3_zero (af bf pf : Nat → Int) : wholeV tyT dzO noH [] 4000 fD3 [.av (.one (.arr .u8 (keyL 32 af))), .av (.one (.arr .u8 (keyL 32 bf))), .av (.one (.arr .u8 (keyL 32 pf)))] = some (ofV (.bool true), [0 + 32 ≤ (keyL 32 af).length ∧ 32 ≤ 32, 0 + 32 ≤ (keyL 32 pf).length ∧ 32 ≤ 32, is32 (cutI (keyL 32 af) 0 32) ∧ is32 (cutI (keyL 32 pf) 0 32) ∧ nZero (nShr (cutI (keyL 32 af) 0 32) (cutI (keyL 32 pf) 0 32)) = true, 0 + 32 ≤ (keyL 32 bf).length ∧ 32 ≤ 32, 0 + 32 ≤ (keyL 32 pf).length ∧ 32 ≤ 32, is32 (cutI (keyL 32 bf) 0 32) ∧ is32 (cutI (keyL 32 pf) 0 32) ∧ nZero (nShr (cutI (keyL 32 bf) 0 32) (cutI (keyL 32 pf) 0 32)) = true]) := by kernel_rfl
theorem d3_run (af bf pf : Nat → Int) : wholeV tyT dkO (atH 9 8 (isB true) noH) [] 4000 fD3 [.av (.one (.arr .u8 (keyL 32 af))), .av (.one (.arr .u8 (keyL 32 bf))), .av (.one (.arr .u8 (keyL 32 pf)))] = some (ofV (.bool true), [0 + 32 ≤ (keyL 32 af).length ∧ 32 ≤ 32, 0 + 32 ≤ (keyL 32 pf).length ∧ 32 ≤ 32, is32 (cutI (keyL 32 af) 0 32) ∧ is32 (cutI (keyL 32 pf) 0 32) ∧ nZero (nShr (cutI (keyL 32 af) 0 32) (cutI (keyL 32 pf) 0 32)) = false, 0 + 32 ≤ (keyL 32 bf).length ∧ 32 ≤ 32, 0 + 32 ≤ (keyL 32 pf).length ∧ 32 ≤ 32, is32 (cutI (keyL 32 bf) 0 32) ∧ is32 (cutI (keyL 32 pf) 0 32) ∧ nZero (nShr (cutI (keyL 32 bf) 0 32) (cutI (keyL 32 pf) 0 32)) = false, 0 + 32 ≤ (keyL 32 bf).length ∧ 32 ≤ 32, 0 + 32 ≤ (byI (nShr (cutI (keyL 32 af) 0 32) (cutI (keyL 32 pf) 0 32))).length, is32 (cutI (keyL 32 bf) 0 32) ∧ is32 (cutI (byI (nShr (cutI (keyL 32 af) 0 32) (cutI (keyL 32 pf) 0 32))) 0 32) ∧ nZero (nShr (cutI (keyL 32 bf) 0 32) (cutI (byI (nShr (cutI (keyL 32 af) 0 32) (cutI (keyL 32 pf) 0 32))) 0 32)) = false, 0 + 32 ≤ (keyL 32 af).length ∧ 32 ≤ 32, 0 + 32 ≤ (byI (nShr (cutI (keyL 32 bf) 0 32) (cutI (keyL 32 pf) 0 32))).length, is32 (cutI (keyL 32 af) 0 32) ∧ is32 (cutI (byI (nShr (cutI (keyL 32 bf) 0 32) (cutI (keyL 32 pf) 0 32))) 0 32) ∧ nZero (nShr (cutI (keyL 32 af) 0 32) (cutI (byI (nShr (cutI (keyL 32 bf) 0 32) (cutI (keyL 32 pf) 0 32))) 0 32)) = false, tB ((strOf ((byI (nShr (cutI (keyL 32 bf) 0 32) (cutI (byI (nShr (cutI (keyL 32 af) 0 32) (cutI (keyL 32 pf) 0 32))) 0 32))) ++ [])).toList == (strOf ((byI (nShr (cutI (keyL 32 af) 0 32) (cutI (byI (nShr (cutI (keyL 32 bf) 0 32) (cutI (keyL 32 pf) 0 32))) 0 32))) ++ [])).toList) true]) := by kernel_rfl
/-! ### Every place is a point's -/
theorem uOf_uni {C : Cv F} {s u : F} {P : Pt C} (hs : s ≠ 0) (hy : 1 - P.y ≠ 0) (h : u * (s * (1 - P.y)) = 1 + P.y) : uOf s P = u :=
  Pl.F_cancel (Pl.F_ne_mul hs hy) ((uOf_eq hs hy).trans h.symm)
theorem pc_y {R : Type} [Lean.Grind.CommRing R] (u i : R) (h : (u + 1) * i = 1) : 1 - (u - 1) * i = 2 * i ∧ 1 + (u - 1) * i = 2 * u * i := by
  have e : 1 - (u - 1) * i = (u + 1) * i - (u - 1) * i := by rw [h]
  have f : 1 + (u - 1) * i = (u + 1) * i + (u - 1) * i := by rw [h]
  rw [e, f]
  constructor <;> grind
theorem pc_1 {R : Type} [Lean.Grind.CommRing R] (u i y : R) (h1 : 1 - y = 2 * i) (h2 : 1 + y = 2 * u * i) : u * (1 * (1 - y)) = 1 + y := by rw [h1, h2]; grind
theorem pc_2 {R : Type} [Lean.Grind.CommRing R] (u y z : R) (h : u * (1 * (1 - y)) = 1 + y) (k : y * z = 1) : u * (-1 * (1 - z)) = 1 + z := by
  have e : u * (-1 * (1 - z)) = (u * (1 * (1 - y))) * z + u * (y * z - 1) := by grind
  rw [e, h, k]
  have f : (1 + y) * z = z + y * z := by grind
  rw [f, k]; grind
theorem pc_3 {R : Type} [Lean.Grind.CommRing R] (u : R) (h : u = -1) : u * (-1 * (1 - 0)) = 1 + 0 := by rw [h]; grind
theorem one_m0 {R : Type} [Lean.Grind.CommRing R] : (1 : R) - 0 = 1 := by grind
theorem prod_one {R : Type} [Lean.Grind.CommRing R] (y : R) : y * y - 1 = -((1 - y) * (1 + y)) := by grind
theorem neg_zero_R {R : Type} [Lean.Grind.CommRing R] : -(0 : R) = 0 := by grind
theorem neg_zero_F : -(0 : F) = 0 := neg_zero_R
theorem mul8 (n : Nat) : n * 8 = 2 * (4 * n) := by omega
theorem neg_ne {a : F} (h : a ≠ 0) : -a ≠ 0 := fun e => h (by
  have := neg_neg' a
  rw [e] at this
  exact this.symm.trans neg_zero_F)
theorem z_one {R : Type} [Lean.Grind.CommRing R] (y z : R) (h : y * z = 1) (k : 1 - z = 0) : 1 - y = 0 := by
  have : z = 1 := by grind
  rw [this] at h
  grind
theorem place_point (u : F) (h0 : u ≠ 0) : (∃ P : EP, 1 - P.y ≠ 0 ∧ uOf 1 P = u) ∨ ∃ P : Pt eT, 1 - P.y ≠ 0 ∧ uOf (-1) P = u := by
  have hm1 : (-1 : F) ≠ 0 := m1_ne
  by_cases hu : u + 1 = 0
  · right
    have hi := Pl.F_mul_inv eT.c0
    have hon := (onT0 (inv eT.c)).2 (invsq_aux _ _ _ _ eT.hc hi (Pl.F_mul_inv eT_a0))
    have h1 : (1 : F) - 0 ≠ 0 := by rw [one_m0]; exact Pl.F_one_ne
    exact ⟨⟨inv eT.c, 0, hon⟩, h1, uOf_uni hm1 h1 (pc_3 u (neg_add' _ _ hu))⟩
  · have hi := Pl.F_mul_inv hu
    have hi0 := inv_ne hu
    obtain ⟨e1, e2⟩ := pc_y u (inv (u + 1)) hi
    generalize hy : (u - 1) * inv (u + 1) = y at *
    have hy1 : 1 - y ≠ 0 := by rw [e1]; exact Pl.F_ne_mul Pl.F_two_ne hi0
    have hy2 : 1 + y ≠ 0 := by rw [e2]; exact Pl.F_ne_mul (Pl.F_ne_mul Pl.F_two_ne h0) hi0
    have hpc := pc_1 u _ y e1 e2
    have ht : gE y ≠ 0 := by
      unfold gE
      rw [prod_one]
      exact Pl.F_ne_mul (neg_ne (Pl.F_ne_mul hy1 hy2)) (inv_ne (den_ne y))
    rcases sq_dich (gE y) ht with ⟨⟨r, hr⟩, _⟩ | ⟨hn, r, hr⟩
    · left
      exact ⟨⟨r, y, (onE r y).2 hr⟩, hy1, uOf_uni Pl.F_one_ne hy1 hpc⟩
    · right
      have hy0 : y ≠ 0 := fun e => hn ⟨toF iN, by rw [e, gE_zero]; exact iN_sq⟩
      have hz := Pl.F_mul_inv hy0
      have h1 : 1 - inv y ≠ 0 := fun e => hy1 (z_one y _ hz e)
      exact ⟨⟨r, inv y, (onT r y hy0).2 hr⟩, h1, uOf_uni hm1 h1 (pc_2 u y _ hpc hz)⟩
/-! ### Which multiples are the naught -/
theorem self_neg {R : Type} [Lean.Grind.CommRing R] (x : R) (h : x = -x) : 2 * x = 0 := by
  have e : 2 * x = x + x := by grind
  rw [e]
  have f : x + x = x + - -x := by grind
  rw [f, ← h]; grind
theorem y_sq1 {R : Type} [Lean.Grind.CommRing R] (a d y : R) (h : a * 0 * 0 + y * y = 1 + d * 0 * 0 * y * y) : (1 - y) * (1 + y) = 0 := by grind
theorem uOf_zero {C : Cv F} {s : F} {Q : Pt C} (h : Q + Q = Pt.O) : uOf s Q = 0 := by
  have hq : Q = Q.neg := Pt.add_right_cancel (S := Q) (h.trans (Pt.neg_add Q).symm)
  have hx : Q.x = 0 := by
    have e : Q.x = -Q.x := congrArg Pt.x hq
    exact (Pl.F_mul_eq_zero (self_neg _ e)).resolve_left Pl.F_two_ne
  have hon := Q.on
  rw [hx] at hon
  unfold uOf
  rcases Pl.F_mul_eq_zero (y_sq1 _ _ _ hon) with h1 | h1
  · rw [h1, a_zero, Pl.inv_zero, a_zero]
  · rw [h1, zero_mul']
theorem eight_core {C : Cv F} {M : Nat} (hM : Prm M) (h2 : 2 < M) {P : Pt C} (hE : Pt.mul M (Pt.mul 8 P) = Pt.O) {q : Nat} (hq : 0 < q) (hqM : q < M) : Pt.mul (8 * q) P + Pt.mul (8 * q) P = Pt.O ↔ Pt.mul 8 P = Pt.O := by
  constructor
  · intro h
    refine Classical.byContradiction fun hn => ?_
    have hk : Pt.mul (q + q) (Pt.mul 8 P) = Pt.O := by
      rw [Pt.add_mul, ← Pt.mul_mul, Nat.mul_comm q 8]
      exact h
    have hnd : ¬ M ∣ q + q := by
      rw [← Nat.two_mul]
      intro hd
      rcases Prm.dvd_mul hM hd with h | h
      · have := Nat.le_of_dvd (by decide) h; omega
      · have := Nat.le_of_dvd hq h; omega
    have hg := gcd_zero (Pt.mul 8 P) M (q + q) hE hk
    rw [show Nat.gcd M (q + q) = 1 from Prm.coprime hM hnd, Pt.mul_one] at hg
    exact hn hg
  · intro h
    rw [Nat.mul_comm, Pt.mul_mul, h, Pt.mul_O, Pt.add_O]
theorem clamp_q (N : Nat) : ∃ q, nClamp N = 8 * q ∧ 0 < q ∧ q < 7237005577332262213973186563042994240829374041602535252466099000494570602496 := by
  obtain ⟨h1, h2, h3⟩ := clamp_facts N
  exact ⟨nClamp N / 8, by omega, by omega, by omega⟩
/-- The law's core, on a curve whose points 8 and a prime annul. -/
theorem three_core {C : Cv F} {s : F} (hT : Tie C s kF) {M : Nat} (hM : Prm M) (h2 : 8 < M) (hb : 7237005577332262213973186563042994240829374041602535252466099000494570602496 ≤ M) (P : Pt C) (hE : Pt.mul M (Pt.mul 8 P) = Pt.O) (hy : 1 - P.y ≠ 0) (hu : uOf s P ≠ 0) (a b : Nat) :
    (nZero (nLad (nClamp a) (uOf s P).val) = true ∧ nZero (nLad (nClamp b) (uOf s P).val) = true) ∨
    ∃ x y z : F, nLad (nClamp a) (uOf s P).val = x.val ∧ nLad (nClamp b) (uOf s P).val = y.val ∧ x ≠ 0 ∧ y ≠ 0 ∧ nLad (nClamp b) x.val = z.val ∧ nLad (nClamp a) y.val = z.val ∧ z ≠ 0 := by
  obtain ⟨p, ep, p0, p1⟩ := clamp_q a
  obtain ⟨q, eq, q0, q1⟩ := clamp_q b
  have hs := tie_s hT
  have e255 : (2 : Nat) ^ 255 = 57896044618658097711785492504343953926634992332820282019728792003956564819968 := by decide +kernel
  have ca : nClamp a % 2 ^ 255 = nClamp a := Nat.mod_eq_of_lt (by rw [e255]; exact (clamp_facts a).2.1)
  have cb : nClamp b % 2 ^ 255 = nClamp b := Nat.mod_eq_of_lt (by rw [e255]; exact (clamp_facts b).2.1)
  have la := lad_main hT P hy hu (nClamp a)
  have lb := lad_main hT P hy hu (nClamp b)
  rw [ca] at la
  rw [cb] at lb
  have core := fun {Q : Pt C} (hQ : Pt.mul M (Pt.mul 8 Q) = Pt.O) {r : Nat} (r0 : 0 < r) (r1 : r < 7237005577332262213973186563042994240829374041602535252466099000494570602496) => eight_core hM (by omega) hQ r0 (Nat.lt_of_lt_of_le r1 hb)
  by_cases h8 : Pt.mul 8 P = Pt.O
  · left
    have z1 := uOf_zero (s := s) ((core hE p0 p1).2 h8)
    have z2 := uOf_zero (s := s) ((core hE q0 q1).2 h8)
    rw [la, lb, ep, eq, z1, z2]
    exact ⟨rfl, rfl⟩
  · right
    have na : Pt.mul (nClamp a) P + Pt.mul (nClamp a) P ≠ Pt.O := by rw [ep]; exact fun h => h8 ((core hE p0 p1).1 h)
    have nb : Pt.mul (nClamp b) P + Pt.mul (nClamp b) P ≠ Pt.O := by rw [eq]; exact fun h => h8 ((core hE q0 q1).1 h)
    obtain ⟨ya, ua⟩ := uOf_ne hs na
    obtain ⟨yb, ub⟩ := uOf_ne hs nb
    have lab := lad_main hT (Pt.mul (nClamp a) P) ya ua (nClamp b)
    have lba := lad_main hT (Pt.mul (nClamp b) P) yb ub (nClamp a)
    rw [cb] at lab
    rw [ca, Pt.mul_comm] at lba
    refine ⟨_, _, _, la, lb, ua, ub, lab, lba, ?_⟩
    -- the last one isn't the naught
    have hQ : Pt.mul M (Pt.mul 8 (Pt.mul (nClamp a) P)) = Pt.O := by
      rw [Pt.mul_comm (P := P), Pt.mul_comm (P := Pt.mul 8 P), hE, Pt.mul_O]
    have h8Q : Pt.mul 8 (Pt.mul (nClamp a) P) ≠ Pt.O := fun h => by
      rw [Pt.mul_comm (P := P)] at h
      have hnd : ¬ M ∣ nClamp a := by
        rw [ep]
        intro hd
        rcases Prm.dvd_mul hM hd with h | h
        · have := Nat.le_of_dvd (by decide) h; omega
        · have := Nat.le_of_dvd p0 h
          exact absurd (Nat.lt_of_le_of_lt (Nat.le_trans hb this) p1) (Nat.lt_irrefl _)
      have hg := gcd_zero (Pt.mul 8 P) M (nClamp a) hE h
      rw [show Nat.gcd M (nClamp a) = 1 from Prm.coprime hM hnd, Pt.mul_one] at hg
      exact h8 hg
    have nn : Pt.mul (nClamp b) (Pt.mul (nClamp a) P) + Pt.mul (nClamp b) (Pt.mul (nClamp a) P) ≠ Pt.O := by rw [eq]; exact fun h => h8Q ((core hQ q0 q1).1 h)
    exact (uOf_ne hs nn).2
theorem three_place (u : F) (a b : Nat) :
    (nZero (nLad (nClamp a) u.val) = true ∧ nZero (nLad (nClamp b) u.val) = true) ∨
    ∃ x y z : F, nLad (nClamp a) u.val = x.val ∧ nLad (nClamp b) u.val = y.val ∧ x ≠ 0 ∧ y ≠ 0 ∧ nLad (nClamp b) x.val = z.val ∧ nLad (nClamp a) y.val = z.val ∧ z ≠ 0 := by
  by_cases h0 : u = 0
  · left
    rw [h0, show ((0 : F)).val = 0 from rfl, lad_zero, lad_zero]
    exact ⟨rfl, rfl⟩
  · obtain ⟨x1, x2⟩ := both_exp
    rcases place_point u h0 with ⟨P, hy, hu⟩ | ⟨P, hy, hu⟩
    · have hE : Pt.mul pL (Pt.mul 8 P) = Pt.O := by rw [← Pt.mul_mul, Nat.mul_comm]; exact x1 P
      have h := three_core eC_tie Pl.pL_prm (by decide +kernel) (by decide +kernel) P hE hy (by rw [hu]; exact h0) a b
      rw [hu] at h
      exact h
    · have hE : Pt.mul pT (Pt.mul 8 P) = Pt.O := by
        rw [← Pt.mul_mul, show pT * 8 = 2 * (4 * pT) from mul8 pT, Pt.mul_mul, x2 P, Pt.mul_O]
      have h := three_core eT_tie Pl.pT_prm (by decide +kernel) (by decide +kernel) P hE hy (by rw [hu]; exact h0) a b
      rw [hu] at h
      exact h
theorem lawDialThree_fact (aa : List Int) (hl : aa.length = 32) (hw : ∀ z ∈ aa, (Lit.int .u8 z).wf = true) (bs : List Int) (hl2 : bs.length = 32) (hw2 : ∀ z ∈ bs, (Lit.int .u8 z).wf = true) (ps : List Int) (hl3 : ps.length = 32) (hw3 : ∀ z ∈ ps, (Lit.int .u8 z).wf = true) (w : World) (hgw : GWok w.heap.size [] w) : Calls Try.prog 9 #[.agg (aa.map (Value.int .u8)).toArray, .agg (bs.map (Value.int .u8)).toArray, .agg (ps.map (Value.int .u8)).toArray] w fun e w' => e = .returned (.bool true) ∧ Below w.heap.size w w' := by
  have h1 : is32 aa := ⟨hl, wf_bs hw⟩
  have h2 : is32 bs := ⟨hl2, wf_bs hw2⟩
  have h3 : is32 ps := ⟨hl3, wf_bs hw3⟩
  have r0 := d3_zero (g2 aa) (g2 bs) (g2 ps)
  have r1 := d3_run (g2 aa) (g2 bs) (g2 ps)
  rw [keyL_g2 hl, keyL_g2 hl2, keyL_g2 hl3, cut_fullD hl, cut_fullD hl2, cut_fullD hl3] at r0 r1
  rw [cut_byI, cut_byI] at r1
  have hpl : nSum [leI ps % T255] = (toF (leI ps % T255)).val := by
    show (leI ps % T255) % T256 % pP = _
    rw [Pl.toF_val, Nat.mod_eq_of_lt (show leI ps % T255 < T256 from Nat.lt_of_le_of_lt (Nat.mod_le _ _) (leI_lt h3))]
  have sa : nShr aa ps = nLad (nClamp (leI aa)) (toF (leI ps % T255)).val := by unfold nShr; rw [hpl]
  have sb : nShr bs ps = nLad (nClamp (leI bs)) (toF (leI ps % T255)).val := by unfold nShr; rw [hpl]
  have a0 : 0 + 32 ≤ aa.length ∧ 32 ≤ 32 := by omega
  have b0 : 0 + 32 ≤ bs.length ∧ 32 ≤ 32 := by omega
  have p0 : 0 + 32 ≤ ps.length ∧ 32 ≤ 32 := by omega
  rcases three_place (toF (leI ps % T255)) (leI aa) (leI bs) with ⟨z1, z2⟩ | ⟨x, y, z, ex, ey, nx, ny, exz, eyz, nz⟩
  · rw [← sa] at z1
    rw [← sb] at z2
    exact am_val tyT_ok dzO_ok mixed_ Try.func9 (by kernel_rfl) r0 ⟨a0, p0, ⟨h1, h3, z1⟩, b0, p0, ⟨h2, h3, z2⟩, trivial⟩ (by kernel_rfl) (by kernel_rfl) (fun _ => ⟨none, 0⟩) w hgw
  · have ea : nShr aa ps = x.val := sa.trans ex
    have eb : nShr bs ps = y.val := sb.trans ey
    have e3 : nShr bs (byI x.val) = z.val := by unfold nShr; rw [leI_val, place_val]; exact exz
    have e4 : nShr aa (byI y.val) = z.val := by unfold nShr; rw [leI_val, place_val]; exact eyz
    rw [ea, eb, e3, e4] at r1
    have zx : nZero x.val = false := by rw [nZero_val]; exact decide_eq_false nx
    have zy : nZero y.val = false := by rw [nZero_val]; exact decide_eq_false ny
    have zz : nZero z.val = false := by rw [nZero_val]; exact decide_eq_false nz
    exact am_val tyT_ok dkO_ok mixed_ Try.func9 (by kernel_rfl) r1 ⟨a0, p0, ⟨h1, h3, zx⟩, b0, p0, ⟨h2, h3, zy⟩, b0, len_byI _, ⟨h2, byI_32 _, zz⟩, a0, len_byI _, ⟨h1, byI_32 _, zz⟩, tB_iff.2 (beq_self_eq_true _), trivial⟩ (by kernel_rfl) (by kernel_rfl) (fun _ => ⟨none, 0⟩) w hgw
end
end Go.Proofs.Ytgeldhdijochdaa.Am
/- No variable of the package is known: none is read. Conditions: none. -/
namespace Go.Proofs.Ytgeldhdijochdaa.Am
set_option linter.unusedVariables false
set_option linter.unusedSimpArgs false
open Go
instance gt0 : GT := ⟨[]⟩
theorem gw0 {N : Nat} {M : List Nat} {w : World} : GWok N M w := fun x h => by cases h
end Go.Proofs.Ytgeldhdijochdaa.Am
/- Opening arrays of bytes, and rows of them, at a law's call. Conditions: none. -/
set_option maxRecDepth 100000
namespace Go.Proofs.Ytgeldhdijochdaa
set_option linter.unusedVariables false
set_option linter.unusedSimpArgs false
open Go Go.ChangeShapes Go.WideShapes Go.ChangeAt Go.RowKit

theorem own_ : ownKnob Try.prog.godebug = none := by kernel_rfl
theorem laidOut_ : laidOutB Try.prog = true := by kernel_rfl
theorem ints_of {k : IntKind} : ∀ l : List Value, (∀ i, i < l.length → ∃ z, l[i]? = some (.int k z) ∧ (Lit.int k z).wf = true) → ∃ bs : List Int, l = bs.map (Value.int k) ∧ ∀ z ∈ bs, (Lit.int k z).wf = true
  | [], _ => ⟨[], rfl, by simp⟩
  | x :: l, h => by
    obtain ⟨z, hz, hw⟩ := h 0 (by simp)
    obtain ⟨bs, hb, hbw⟩ := ints_of l fun i hi => by
      obtain ⟨z, hz, hw⟩ := h (i + 1) (by simp; omega)
      exact ⟨z, by simpa using hz, hw⟩
    simp only [List.getElem?_cons_zero, Option.some.injEq] at hz
    subst hz
    refine ⟨z :: bs, by rw [hb]; rfl, fun y hy => ?_⟩
    rcases List.mem_cons.1 hy with rfl | hy
    · exact hw
    · exact hbw y hy
/-- An array of integers that comes in. -/
theorem open_arr {H : Type} {enc : TypeId × Value → H} {W : World} {base : Nat} {b0 : Nat} {spare : Nat → Bool} {held : Bool} {v : Value} {d : DataW H} {ps : List MemPlace} {t e : TypeId} {n : Nat} {k : IntKind}
    (ht : Try.prog.underlying t = some (.array n e)) (he : Try.prog.underlying e = some (.int k)) (hct : Try.prog.cellsOf t = n) (hce : Try.prog.cellsOf e = 1)
    (hval : Value.okWide Try.prog W .any b0 t v) (h : DataW.Trod enc Try.prog W base spare held t v d ps) :
    ∃ bs : List Int, bs.length = n ∧ (∀ z ∈ bs, (Lit.int k z).wf = true) ∧ v = .agg (bs.map (Value.int k)).toArray := by
  obtain ⟨cs, rfl, hsz, _⟩ : ∃ cs, v = .agg cs ∧ cs.size = Try.prog.cellsOf t ∧ Row.okWide Try.prog W .any b0 t cs := by
    simpa [Value.okWide, ht] using hval
  rw [hct] at hsz
  obtain ⟨fuel, hf⟩ := h
  obtain ⟨xs, m, _, _, hl, hxs, hel⟩ := DataW.trod_array ht hf
  obtain ⟨l⟩ := cs
  have hl' : l.length = n := hsz
  have hc : (Value.agg ⟨l⟩).cells.toList = l := rfl
  obtain ⟨bs, hb, hw⟩ := ints_of (k := k) l fun i hi => by
    have := hel i (by omega)
    rw [hc, hce, Nat.mul_one, List.getElem?_eq_getElem (by omega)] at this
    obtain ⟨z, hz, _, hzw⟩ := DataW.trod_int he this
    refine ⟨z, ?_, hzw⟩
    have h2 := congrArg (fun q => q[0]?) hz
    simpa [List.getElem?_take, List.getElem?_drop] using h2
  exact ⟨bs, by rw [hb] at hl'; simpa using hl', hw, by rw [hb]⟩

/-- What is known of a row of integers that came in. -/
def IsRow (k : IntKind) (w : World) (a : Option Addr) (len cap : Nat) (zs : List Int) : Prop :=
  (a = none ∧ len = 0 ∧ cap = 0 ∧ zs = []) ∨
  ∃ x, a = some x ∧ len ≤ cap ∧ cap ≤ maxLen ∧ zs.length = cap ∧ (∀ i, i < zs.length → w.cell? (x.add i) = some (.int k (zs.getD i 0))) ∧ ∀ n ∈ zs, (Lit.int k n).wf = true

end Go.Proofs.Ytgeldhdijochdaa
/- Opening slices of integers at a law's call, as the machine takes them; and a law's call. Conditions: none. -/
set_option maxRecDepth 100000
namespace Go.Proofs.Ytgeldhdijochdaa
set_option linter.unusedVariables false
set_option linter.unusedSimpArgs false
open Go Go.ChangeShapes Go.WideShapes Go.ChangeAt Go.RowKit

theorem has_lt {P : Program} {w : World} {r : Reach} {base : Nat} {a : Addr} {e : TypeId} {n : Nat} (h : w.has P r base a e n) : a.block < w.heap.size := by
  obtain ⟨_, _, row, cells, hs, _⟩ := h
  unfold World.shape? at hs
  split at hs
  · rename_i hb
    exact (Array.getElem?_eq_some_iff.1 hb).1
  all_goals first | cases hs | (rename_i hb; exact (Array.getElem?_eq_some_iff.1 hb).1)
/-- A slice of integers that comes in. -/
theorem open_sl {H : Type} {enc : TypeId × Value → H} {W : World} {base : Nat} {b0 : Nat} {spare : Nat → Bool} {held : Bool} {v : Value} {d : DataW H} {ps : List MemPlace} {t e : TypeId} {k : IntKind}
    (ht : Try.prog.underlying t = some (.slice e)) (he : Try.prog.underlying e = some (.int k)) (hce : Try.prog.cellsOf e = 1)
    (hval : Value.okWide Try.prog W .any b0 t v) (h : DataW.Trod enc Try.prog W base spare held t v d ps) :
    ∃ a cap, ∃ zs : List Int, v = .slice a zs.length cap ∧ Am.RowAt W ⟨a, cap⟩ k zs ∧ ∀ z ∈ zs, (Lit.int k z).wf = true := by
  obtain ⟨a, len, cap, rfl⟩ := okWide_slice ht hval
  have hlt : ∀ x, a = some x → x.block < W.heap.size := fun x hx => by
    subst hx
    simp only [Value.okWide, ht, Cell.okWide, Cell.ok] at hval
    exact has_lt hval.2.2
  obtain ⟨fuel, hf⟩ := h
  rcases open_ints ht he hce hf with ⟨hcs, _⟩ | ⟨x, l, c, zs, hcs, _, hl, hm, hz, _, hcell, hwz⟩
  · simp [Value.cells] at hcs
    obtain ⟨rfl, rfl, rfl⟩ := hcs
    exact ⟨none, 0, [], rfl, ⟨Nat.le_refl _, .inl rfl, fun x hx => by cases hx⟩, by simp⟩
  · simp [Value.cells] at hcs
    obtain ⟨rfl, rfl, rfl⟩ := hcs
    have hzl : len ≤ zs.length := by rw [hz]; split <;> omega
    have hlen : (zs.take len).length = len := by rw [List.length_take]; omega
    refine ⟨some x, cap, zs.take len, by rw [hlen], ⟨by rw [hlen]; exact hl, .inr ⟨x, rfl, fun j u hj => ?_⟩, hlt⟩, fun z hz' => hwz z (List.mem_of_mem_take hz')⟩
    have hjl : j < len := by
      have := (List.getElem?_eq_some_iff.1 hj).1
      rw [List.length_map, hlen] at this; exact this
    rw [List.getElem?_map, List.getElem?_take, if_pos hjl, List.getElem?_eq_getElem (by omega)] at hj
    simp only [Option.map_some, Option.some.injEq] at hj
    subst hj
    have := hcell j (by omega)
    simpa [List.getD_eq_getElem?_getD, List.getElem?_eq_getElem (show j < zs.length by omega)] using this
end Go.Proofs.Ytgeldhdijochdaa
namespace Go.Proofs.Ytgeldhdijochdaa.Am
open Go Go.RowKit
variable [GT]
omit [GT] in
/-- Rows that come in, as blocks to be read. -/
def rowsH : List (Loc × IntKind × List Int) → Nat → List (Nat × Blk)
  | [], _ => []
  | (_, k, zs) :: l, n => (n, ⟨2, 0, [.arr k zs]⟩) :: rowsH l (n + 1)
omit [GT] in
theorem rowsH_spec : ∀ (l : List (Loc × IntKind × List Int)) (n i : Nat) (b : Blk), look (rowsH l n) i = some b → n ≤ i ∧ i < n + l.length ∧ ∃ x, l[i - n]? = some x ∧ b = ⟨2, 0, [.arr x.2.1 x.2.2]⟩
  | [], n, i, b, h => by cases h
  | (g, k, zs) :: l, n, i, b, h => by
    simp only [rowsH, look_cons] at h
    by_cases hi : n = i
    · subst hi
      rw [if_pos rfl] at h
      injection h with h
      subst h
      exact ⟨Nat.le_refl _, by simp, (g, k, zs), by simp, rfl⟩
    · rw [if_neg hi] at h
      obtain ⟨h1, h2, x, hx, hb⟩ := rowsH_spec l (n + 1) i b h
      refine ⟨by omega, by simp only [List.length_cons]; omega, x, ?_, hb⟩
      rw [show i - n = (i - (n + 1)) + 1 by omega, List.getElem?_cons_succ]
      exact hx
theorem hr_rows {w : World} (l : List (Loc × IntKind × List Int)) (h : ∀ x ∈ l, RowAt w x.1 x.2.1 x.2.2) (hgw : GWok w.heap.size [] w) : HR (fun i => (l.map (·.1)).getD i ⟨none, 0⟩) (· < l.length) w.heap.size [] (look (rowsH l 0)) w := by
  have hall : ∀ i b, look (rowsH l 0) i = some b → i < l.length ∧ ∃ k zs, b = ⟨2, 0, [.arr k zs]⟩ ∧ RowAt w ((l.map (·.1)).getD i ⟨none, 0⟩) k zs := fun i b hb => by
    obtain ⟨_, h2, x, hx, rfl⟩ := rowsH_spec _ _ _ _ hb
    rw [Nat.sub_zero] at hx
    refine ⟨by omega, _, _, rfl, ?_⟩
    have e : (l.map (·.1)).getD i ⟨none, 0⟩ = x.1 := by simp [List.getD_eq_getElem?_getD, hx]
    rw [e]
    exact h x (List.mem_of_getElem? hx)
  refine ⟨Nat.le_refl _, fun i b hb => ?_, fun i b x hb hx => ?_, fun i b x hb hk hx => ?_, fun i j bi bj x y hi hj hij hk hx hy => ?_, hgw⟩
  · obtain ⟨h2, k, zs, rfl, h3, h4, _⟩ := hall i b hb
    refine ⟨h2, fun s hs => (by simp at hs; subst hs; trivial), ?_⟩
    show (segsVals _ _).length ≤ _ ∧ _
    rw [segsVals_one]
    refine ⟨by simpa [Seg.vals] using h3, ?_⟩
    rcases h4 with rfl | h4
    · exact .inl rfl
    · exact .inr h4
  · obtain ⟨_, k, zs, rfl, _, _, h5⟩ := hall i b hb
    exact h5 x hx
  · obtain ⟨_, k, zs, rfl, _⟩ := hall i b hb
    simp at hk
  · obtain ⟨_, k, zs, rfl, _⟩ := hall i bi hi
    simp at hk
/-- A law's run that ends in true. -/
theorem law_reach {f : FuncId} {fn : Func} (hf : Try.prog.funcs[f]? = some fn) {avs : List SV} {hp : List (Nat × Blk)} {k : Nat} {todo : List AI} {st : St} (hR : From Try.prog fn avs hp k [] todo st) (hfin : todo = [] ∨ todo = [.fin]) (hv : resVal tyT st fn.results.toList = some (ofV (.bool true))) (hlen : Nat.ble avs.length fn.ntmps = true) (hin : avs.all (svB fun i => Nat.blt i k) = true) {ρc : Nat → Loc} {w : World} (hG : HR ρc (· < k) w.heap.size [] (look hp) w) :
    Calls Try.prog f (avs.map (SV.conc ρc)).toArray w fun e w' => e = .returned (.bool true) ∧ Below w.heap.size w w' := by
  obtain ⟨c, hc, hRe⟩ := hR
  exact reach_val tyT_ok hf hc hfin hRe hv (by rfl) hlen (fun s hs => svB_in (f := fun i => Nat.blt i k) (fun i h => Nat.le_of_ble_eq_true h) (List.all_eq_true.1 hin s hs)) hG (fun _ => ⟨none, 0⟩)
omit [GT] in
theorem conc_s0 {ρ : Nat → Loc} {i n cap : Nat} : SV.conc ρ (.av (.one (.s i 0 n cap))) = .slice (ρ i).a n cap := by
  simp only [SV.conc, AV.conc, Seg.conc]
  cases (ρ i).a <;> simp [Addr.add]
end Go.Proofs.Ytgeldhdijochdaa.Am
