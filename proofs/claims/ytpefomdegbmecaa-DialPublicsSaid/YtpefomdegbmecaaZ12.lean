/- Plain law: which numbers are a point; a point's bytes; what bytes are read as. Conditions: none. -/
import Derived.Test.YtpefomdegbmecaaZ11
import Derived.Test.YtpefomdegbmecaaRows
import Derived.WalkKit
import Derived.ProofKit
import Derived.OpenShut
import Derived.ChangeOld
import Derived.Below
import Derived.Test.YtpefomdegbmecaaZ10
import Derived.ChangeSlices
import Derived.Test.YtpefomdegbmecaaZ1
set_option linter.unusedSectionVars false
namespace Go.Proofs.Ytpefomdegbmecaa.Am
set_option linter.unusedVariables false
set_option linter.unusedSimpArgs false
open Go
open Pl
set_option linter.unusedSectionVars false
variable [GT]
abbrev T255 : Nat := 57896044618658097711785492504343953926634992332820282019728792003956564819968
theorem pP_255 : pP < T255 := by decide +kernel
theorem numEq_iff {a b : Nat} (ha : a < T256) (hb : b < T256) : numEq a b = true ↔ a = b := by
  unfold numEq
  rw [beq_iff_eq]
  refine ⟨fun h => ?_, fun h => by rw [h]⟩
  have h1 := wdV a
  have h2 := wdV b
  rw [Nat.mod_eq_of_lt ha] at h1
  rw [Nat.mod_eq_of_lt hb] at h2
  rw [← h1, ← h2]
  unfold words at h
  simp only [List.cons.injEq, and_true] at h
  obtain ⟨e0, e1, e2, e3⟩ := h
  simp only [word_wd] at e0 e1 e2 e3
  rw [show wd a 0 = wd b 0 by omega, show wd a 1 = wd b 1 by omega, show wd a 2 = wd b 2 by omega, show wd a 3 = wd b 3 by omega]
theorem numEq_val (f g : F) : numEq f.val g.val = true ↔ f = g := by
  rw [numEq_iff (Nat.lt_trans f.isLt pP_T) (Nat.lt_trans g.isLt pP_T)]
  exact ⟨Fin.ext, fun h => by rw [h]⟩
theorem numEq_self (a : Nat) : numEq a a = true := by unfold numEq; exact beq_self_eq_true _
theorem nLess_val (f : F) : nLess f.val pP = true := by
  unfold nLess
  rw [val_mod, Nat.mod_eq_of_lt pP_T]
  exact decide_eq_true f.isLt
theorem nZero_val (f : F) : nZero f.val = decide (f = 0) := by
  unfold nZero
  rw [val_mod]
  by_cases h : f = 0
  · rw [decide_eq_true h, h]; rfl
  · rw [decide_eq_false h]
    exact decide_eq_false fun e => h (Fin.ext e)
section
variable {R : Type} [Lean.Grind.CommRing R]
theorem good_eq (d x y : R) (h : (-1) * x * x + y * y = 1 + d * x * x * y * y) : y * y - x * x = 1 + d * (x * x) * (y * y) := by grind
theorem on_of (d x y i : R) (hi : (d * (y * y) + 1) * i = 1) (h : x * x = (y * y - 1) * i) : (-1) * x * x + y * y = 1 + d * x * x * y * y := by
  have e : x * x * (d * (y * y) + 1) = y * y - 1 := by
    rw [h]
    generalize d * (y * y) + 1 = u at *
    generalize y * y - 1 = v at *
    grind
  grind
theorem oa_eq (d x y i : R) (hi : (d * (y * y) + 1) * i = 1) (h : (-1) * x * x + y * y = 1 + d * x * x * y * y) : (y * y - 1) * i = x * x := by
  have e : y * y - 1 = x * x * (d * (y * y) + 1) := by grind
  rw [e]
  generalize d * (y * y) + 1 = u at *
  grind
theorem den_eq (d y i j : R) (hj : j * j = -1) (hi : y * i = 1) (h : d * (y * y) + 1 = 0) : (j * i) * (j * i) = d := by
  have e : d * (y * y) = -1 := by grind
  have e2 : (j * i) * (j * i) = (j * j) * (i * i) := by grind
  rw [e2, hj, ← e]
  have e3 : d * (y * y) * (i * i) = d * ((y * i) * (y * i)) := by grind
  rw [e3, hi]
  grind
theorem sub_zero_eq (a : R) : 0 - a = -a := by grind
theorem zero_aux (a : R) : a * (0 * 0) + 1 = 1 := by grind
theorem nn_eq (a : R) : - -a = a := by grind
theorem near_aux'' (a z i : R) (h : z * i = 1) : a * z * i = a := by grind
theorem neg_sq (a : R) : (-a) * (-a) = a * a := by grind
end
theorem neg_neg' (a : F) : - -a = a := nn_eq a
theorem near_aux' (a z i : F) (h : z * i = 1) : a * z * i = a := near_aux'' a z i h
theorem den_ne (y : F) : toF dN * (y * y) + 1 ≠ 0 := by
  intro h
  by_cases hy : y = 0
  · rw [hy] at h
    rw [zero_aux] at h
    exact F_one_ne h
  · exact dN_ns _ (den_eq _ _ _ _ iN_sq (F_mul_inv hy) h)
theorem good_val (P : EP) : nGood P.x.val P.y.val = true := by
  unfold nGood
  rw [nLess_val, nLess_val, nPro_val2, nPro_val2, nSub_val, nFac_val, nPro_val3, ← val_one, nSum_val2, Bool.true_and, Bool.true_and, numEq_val]
  exact good_eq _ _ _ P.on
theorem nOA_val (y : F) : nOA y.val = ((y * y - 1) * Pl.inv (toF dN * (y * y) + 1)).val := by
  unfold nOA
  rw [nPro_val2, nFac_val, nPro_val2, ← val_one, nSub_val, nSum_val2, nInv_val, nPro_val2]
theorem oa_point (P : EP) : nOA P.y.val = (P.x * P.x).val := by
  rw [nOA_val]
  exact congrArg Fin.val (oa_eq _ _ _ _ (F_mul_inv (den_ne P.y)) P.on)
/-! ### Roots -/
theorem nRoot_of {a r : Nat} (h : r < pP ∧ r % 2 = 0 ∧ r * r % pP = a % T256 % pP) : nRoot a = r := by
  have hex : ∃ r : Nat, r < pP ∧ r % 2 = 0 ∧ r * r % pP = a % T256 % pP := ⟨r, h⟩
  unfold nRoot
  rw [dif_pos hex]
  exact root_uni (Nat.mod_lt _ (by decide +kernel)) hex.choose_spec h
def evR (x : F) : F := if x.val % 2 = 0 then x else -x
theorem neg_val {x : F} (h : x.val % 2 = 1) : (-x).val = pP - x.val := by
  rw [Fin.val_neg, if_neg]
  intro e
  rw [e] at h
  exact absurd h (by decide +kernel)
theorem evR_even (x : F) : (evR x).val % 2 = 0 := by
  unfold evR
  split
  · assumption
  · rename_i h
    have := x.isLt
    have ho := pP_odd
    rw [neg_val (by omega)]
    omega
theorem evR_sq (x : F) : evR x * evR x = x * x := by
  unfold evR
  split
  · rfl
  · exact neg_sq x
theorem nRoot_sq (x : F) : nRoot (x * x).val = (evR x).val := nRoot_of ⟨(evR x).isLt, evR_even x, by
  rw [← Fin.val_mul, evR_sq, val_mod, val_modp]⟩
theorem nIsSq_sq (x : F) : nIsSq (x * x).val = true := by
  unfold nIsSq
  exact @decide_eq_true _ (Classical.propDecidable _) ⟨x.val, by rw [← Fin.val_mul, val_mod, val_modp]⟩
theorem nIsSq_ex {a : F} (h : nIsSq a.val = true) : ∃ x : F, x * x = a := by
  unfold nIsSq at h
  obtain ⟨x, hx⟩ := @of_decide_eq_true _ (Classical.propDecidable _) h
  refine ⟨toF x, ?_⟩
  rw [val_mod, val_modp] at hx
  rw [← toF_mul]
  exact Fin.ext (by rw [toF_val]; exact hx)
theorem nSub0_val (x : F) : nSub 0 x.val = (-x).val := by
  have h := nSub_val 0 x
  rw [sub_zero_eq] at h
  exact h
/-! ### Reading -/
theorem yv (N : Nat) (h : N % T255 < pP) : N % T255 = (toF (N % T255)).val := val_of h
theorem rd_cases (N : Nat) (hN : N < T256) : (∃ P : EP, rdV N = ⟨P.x.val, P.y.val, 0⟩ ∧ P.y.val + T255 * (P.x.val % 2) = N) ∨ rdV N = ⟨0, 0, 5⟩ := by
  have hT : T256 = 2 * T255 := by decide +kernel
  unfold rdV
  cases h1 : nLess (N % T255) pP
  · exact .inr (if_pos rfl)
  rw [if_neg (by decide)]
  have hlt : N % T255 < pP := by
    unfold nLess at h1
    have := of_decide_eq_true h1
    rw [Nat.mod_eq_of_lt pP_T, Nat.mod_eq_of_lt (show N % T255 < T256 from Nat.lt_of_le_of_lt (Nat.mod_le _ _) hN)] at this
    exact this
  have hy := yv N hlt
  generalize toF (N % T255) = y at hy
  rw [hy]
  cases h2 : nIsSq (nOA y.val)
  · exact .inr (if_pos rfl)
  rw [if_neg (by decide)]
  rw [nOA_val] at h2
  obtain ⟨r, hr⟩ := nIsSq_ex h2
  have e : nOA y.val = (r * r).val := by rw [nOA_val, ← hr]
  have hon : ∀ s : F, s * s = r * r → (-1) * s * s + y * y = 1 + toF dN * s * s * y * y := fun s hs => on_of _ _ _ _ (F_mul_inv (den_ne y)) (hs.trans hr)
  rw [e, nRoot_sq]
  by_cases h3 : T255 ≤ N
  · rw [if_pos h3]
    rw [nZero_val]
    by_cases h4 : evR r = 0
    · rw [decide_eq_true h4, if_pos rfl]
      exact .inr rfl
    · rw [decide_eq_false h4, if_neg (by decide)]
      refine .inl ⟨⟨-(evR r), y, hon _ (by rw [neg_sq, evR_sq])⟩, by rw [nSub0_val], ?_⟩
      show y.val + T255 * ((-(evR r)).val % 2) = N
      have hne : (evR r).val ≠ 0 := fun e => h4 (Fin.ext e)
      have hv : (-(evR r)).val = pP - (evR r).val := by rw [Fin.val_neg, if_neg h4]
      have := (evR r).isLt
      have he := evR_even r
      have ho := pP_odd
      have hm : N % T255 = N - T255 := by rw [Nat.mod_eq_sub_mod h3, Nat.mod_eq_of_lt (by omega)]
      rw [hv, show (pP - (evR r).val) % 2 = 1 by omega, ← hy, hm]
      omega
  · rw [if_neg h3]
    refine .inl ⟨⟨evR r, y, hon _ (evR_sq r)⟩, rfl, ?_⟩
    show y.val + T255 * ((evR r).val % 2) = N
    have hm : N % T255 = N := Nat.mod_eq_of_lt (by omega)
    rw [evR_even, ← hy, hm, Nat.mul_zero, Nat.add_zero]
/-- The number that a point's bytes are. -/
def ptN (P : EP) : Nat := P.y.val + T255 * (P.x.val % 2)
theorem ptN_lt (P : EP) : ptN P < T256 := by
  have hT : T256 = 2 * T255 := by decide +kernel
  have h1 := P.y.isLt
  have h2 := pP_255
  unfold ptN
  have : P.x.val % 2 ≤ 1 := by omega
  have : T255 * (P.x.val % 2) ≤ T255 * 1 := Nat.mul_le_mul_left _ this
  omega
theorem ptN_y (P : EP) : ptN P % T255 = P.y.val := by
  have h1 := P.y.isLt
  have h2 := pP_255
  unfold ptN
  rw [Nat.add_mul_mod_self_left, Nat.mod_eq_of_lt (Nat.lt_trans h1 h2)]
theorem ptN_x (P : EP) : T255 ≤ ptN P ↔ P.x.val % 2 = 1 := by
  have h1 := P.y.isLt
  have h2 := pP_255
  unfold ptN
  have h3 : P.x.val % 2 = 0 ∨ P.x.val % 2 = 1 := by omega
  rcases h3 with h3 | h3 <;> rw [h3]
  · rw [Nat.mul_zero]; omega
  · rw [Nat.mul_one]; omega
theorem rd_point (P : EP) : rdV (ptN P) = ⟨P.x.val, P.y.val, 0⟩ := by
  unfold rdV
  rw [show (57896044618658097711785492504343953926634992332820282019728792003956564819968 : Nat) = T255 from rfl, ptN_y, nLess_val, if_neg (by decide), oa_point, nIsSq_sq, if_neg (by decide), nRoot_sq, nZero_val]
  by_cases hx : P.x.val % 2 = 1
  · rw [if_pos ((ptN_x P).2 hx)]
    have hxe : evR P.x = -P.x := by unfold evR; rw [if_neg (by omega)]
    have hn : ¬ evR P.x = 0 := by
      rw [hxe]
      intro e
      have h0 := neg_val hx
      rw [e] at h0
      have h1 := P.x.isLt
      have h2 : ((0 : F)).val = 0 := rfl
      omega
    rw [decide_eq_false hn, if_neg (by decide), hxe, nSub0_val, neg_neg' P.x]
  · rw [if_neg fun h => hx ((ptN_x P).1 h)]
    have hxe : evR P.x = P.x := by unfold evR; rw [if_pos (by omega)]
    rw [hxe]
theorem ptN_inj {P Q : EP} (h : ptN P = ptN Q) : P = Q := by
  have h1 := rd_point P
  have h2 := rd_point Q
  rw [h, h2] at h1
  simp only [RV.mk.injEq, and_true] at h1
  exact Pt.ext (Fin.ext h1.1.symm) (Fin.ext h1.2.symm)
/-! ### Bytes -/
theorem byI_leI {l : List Int} (h : is32 l) : byI (leI l) = l := by
  have h1 := bytesOf_le (l.map Int.toNat) fun x hx => by
    obtain ⟨z, hz, rfl⟩ := List.mem_map.1 hx
    have := h.2 z hz
    omega
  rw [List.length_map, h.1] at h1
  have h2 : byI (leI l) = (Pl.bytesOf 32 (leI l)).map fun n : Nat => (n : Int) := by
    unfold byI keyL Pl.bytesOf
    rw [upTo_range, List.map_map, List.map_map, Nat.mod_eq_of_lt (leI_lt h)]
    exact List.map_congr_left fun i _ => by simp only [Function.comp_apply, Nat.zero_add]
  rw [h2, leI_eq, h1, List.map_map]
  refine (List.map_congr_left fun z hz => ?_).trans (List.map_id l)
  have := h.2 z hz
  simp only [Function.comp_apply, id_eq]
  omega
theorem leI_byI (N : Nat) : leI (byI N) = N % T256 := by
  unfold leI
  have : (byI N).map Int.toNat = Pl.bytesOf 32 (N % T256) := by
    unfold byI keyL Pl.bytesOf
    rw [upTo_range, List.map_map, List.map_map]
    exact List.map_congr_left fun i _ => by simp only [Function.comp_apply, Nat.zero_add, Int.toNat_natCast]
  rw [this, le_bytes32 (Nat.mod_lt _ (by decide +kernel))]
theorem byI_32 (N : Nat) : is32 (byI N) := ⟨by unfold byI; rw [keyL_len], isBs_keyL fun i _ => by
  have := byteAt_lt (N % T256) i
  omega⟩
theorem leI_inj {a b : List Int} (ha : is32 a) (hb : is32 b) (h : leI a = leI b) : a = b := by rw [← byI_leI ha, ← byI_leI hb, h]
theorem or128 : ∀ a : Nat, a < 128 → ior .u8 (a : Int) 128 = ((a + 128 : Nat) : Int) ∧ ior .u8 (a : Int) 0 = (a : Int) := by decide +kernel
theorem byteAt_low (y c i : Nat) (h : i < 31) : byteAt (y + 256 ^ 31 * c) i = byteAt y i := by
  unfold byteAt
  rw [show 31 = i + (30 - i + 1) by omega, Nat.pow_add, Nat.mul_assoc, Nat.add_mul_div_left _ _ (Nat.pow_pos (by decide)), Nat.pow_succ, Nat.mul_comm (256 ^ (30 - i)) 256, Nat.mul_assoc, Nat.add_mul_mod_self_left]
theorem byteAt_top (y c : Nat) (hy : y < 256 ^ 31 * 128) (hc : c < 256) : byteAt (y + 256 ^ 31 * c) 31 = (y / 256 ^ 31 + c) % 256 := by
  unfold byteAt
  rw [Nat.add_mul_div_left _ _ (Nat.pow_pos (by decide))]
theorem ptB_eq (x y : Nat) (hy : y < T255) : ptB x y = byI (y + T255 * (x % 2)) := by
  have hT : T255 = 256 ^ 31 * 128 := by decide +kernel
  have hT2 : T256 = 2 * T255 := by decide +kernel
  have hx2 : x % 2 ≤ 1 := by omega
  have hle : T255 * (x % 2) ≤ T255 * 1 := Nat.mul_le_mul_left _ hx2
  have hlt : y + T255 * (x % 2) < T256 := by omega
  have hyl : y < T256 := by omega
  have e1 : y + T255 * (x % 2) = y + 256 ^ 31 * (128 * (x % 2)) := by rw [hT, Nat.mul_assoc]
  have h31 : byteAt y 31 < 128 ∧ byteAt y 31 = y / 256 ^ 31 := by
    unfold byteAt
    rw [hT] at hy
    have : y / 256 ^ 31 < 128 := Nat.div_lt_of_lt_mul hy
    omega
  unfold ptB byI
  rw [Nat.mod_eq_of_lt hyl, Nat.mod_eq_of_lt hlt, keyL_get 32 _ 31 (by decide), keyL_set]
  refine keyL_congr fun i hi => ?_
  rw [setF_eq]
  by_cases h : i = 31
  · subst h
    rw [if_pos rfl, e1, byteAt_top _ _ (by rw [← hT]; exact hy) (by omega), ← h31.2]
    have hw : iand .u64 ((words x).getD 0 0) 1 = ((x % 2 : Nat) : Int) := by
      have hx : (words x).getD 0 0 = ((x % 18446744073709551616 : Nat) : Int) := by
        show word x 0 = _
        unfold word
        rw [Nat.pow_zero, Nat.div_one]
      have := iand_nat (x % 18446744073709551616) 1 (by omega) (by decide)
      rw [show ((1 : Nat) : Int) = 1 from rfl] at this
      rw [hx, this, Nat.and_one_is_mod]
      omega
    rw [hw]
    have h3 : x % 2 = 0 ∨ x % 2 = 1 := by omega
    have h4 := or128 (byteAt y 31) h31.1
    rcases h3 with h3 | h3 <;> rw [h3]
    · have : ishl .u8 (IntKind.wrap .u8 ((0 : Nat) : Int)) 7 = 0 := by decide +kernel
      rw [this, h4.2]
      omega
    · have : ishl .u8 (IntKind.wrap .u8 ((1 : Nat) : Int)) 7 = 128 := by decide +kernel
      rw [this, h4.1]
      omega
  · rw [if_neg h, e1, byteAt_low _ _ _ (by omega)]
theorem ptB_point (P : EP) : ptB P.x.val P.y.val = byI (ptN P) := ptB_eq _ _ (Nat.lt_trans P.y.isLt pP_255)
/-! ### The base -/
def bxN : Nat := 15112221349535400772501151409588531511454012693041857206046113283949847762202
def byN : Nat := 46316835694926478169428394003475163141307993866256225615783033603165251855960
def eB : EP := ⟨toF bxN, toF byN, by decide +kernel⟩
theorem nBy_val : nBy = eB.y.val := by
  unfold nBy
  have e4 : (4 : Nat) = (toF 4).val := val_of (by decide +kernel)
  have e5 : (5 : Nat) = (toF 5).val := val_of (by decide +kernel)
  have h5 : toF 5 ≠ 0 := fun e => absurd (congrArg Fin.val e) (by decide +kernel)
  have h : toF 4 = toF byN * toF 5 := by
    rw [← toF_mul, toF_eq]
    decide +kernel
  calc nPro [4, nInv 5] = nPro [(toF 4).val, nInv (toF 5).val] := by rw [← e4, ← e5]
    _ = (toF byN).val := by
      rw [nInv_val, nPro_val2, h]
      exact congrArg Fin.val (near_aux' _ _ _ (F_mul_inv h5))
theorem nBx_val : nBx = eB.x.val := by
  unfold nBx
  rw [nBy_val, oa_point, nRoot_sq]
  have : evR eB.x = eB.x := by
    unfold evR
    rw [if_pos (by decide +kernel)]
  rw [this]
end Go.Proofs.Ytpefomdegbmecaa.Am
/- sign's read and Good, dial's OfPublic. Conditions: none. -/
namespace Go.Proofs.Ytpefomdegbmecaa.Am
set_option linter.unusedVariables false
set_option linter.unusedSimpArgs false
open Go Go.RowKit
open Pl (pP T256)
set_option linter.unusedSectionVars false
section
variable [GT]
noncomputable def srO : List (Nat × Ent) := [(16, entB [.sl .u8] rdF), (86, vEnt vsmall)]
theorem srO_ok : OOK Try.prog srO := ook_of (l := [(16, entB [.sl .u8] rdF), (86, vEnt vsmall)]) ⟨read_ent, small8_ent, trivial⟩
noncomputable def srO3 : List (Nat × Ent) := [(16, entB [.sl .u8] rdF3)]
theorem srO3_ok : OOK Try.prog srO3 := ook_of (l := [(16, entB [.sl .u8] rdF3)]) ⟨read3_ent, trivial⟩
noncomputable abbrev fSr : Func := Try.f73
noncomputable abbrev fSgG : Func := Try.f41
def srE (x y : Nat) (e : Int) : St := { tm := tmL 20 [(2, .av (.one (.p 0 0))), (3, ofV (.int .i64 e))], hp := [(0, ⟨0, 38, [.num x, .num y]⟩)], nx := 1, gl := [] }
theorem sr_len (κ : Nat → Value) (l : List Int) : runF tyT srO3 noH [] 0 [1] [2, 3] fSr (bA [.sl .u8 l] 0 0) (bH κ [.sl .u8 l] 0 0) 1 [] = some ([.fin], srE 0 0 3, [0 + l.length ≤ l.length, (cutI l 0 l.length).length ≠ 32 ∧ (cutI l 0 l.length).length ≤ 1048576]) := by kernel_rfl
theorem sr_bad (κ : Nat → Value) (l : List Int) : runF tyT srO (atH 2 1 (isB false) noH) [] 0 [1] [2, 3] fSr (bA [.sl .u8 l] 0 0) (bH κ [.sl .u8 l] 0 0) 1 [] = some ([.fin], srE (rdV (leI (cutI l 0 l.length))).x (rdV (leI (cutI l 0 l.length))).y (rdV (leI (cutI l 0 l.length))).e, [0 + l.length ≤ l.length, is32 (cutI l 0 l.length), tB ((rdV (leI (cutI l 0 l.length))).e == 0) false]) := by kernel_rfl
theorem sr_small (κ : Nat → Value) (l : List Int) : runF tyT srO (atH 2 1 (isB true) (atH 2 4 (isB true) noH)) [] 0 [1] [2, 3] fSr (bA [.sl .u8 l] 0 0) (bH κ [.sl .u8 l] 0 0) 1 [] = some ([.fin], srE 0 0 5, [0 + l.length ≤ l.length, is32 (cutI l 0 l.length), tB ((rdV (leI (cutI l 0 l.length))).e == 0) true, tB (nSmallP (rdV (leI (cutI l 0 l.length))).x (rdV (leI (cutI l 0 l.length))).y) true]) := by kernel_rfl
theorem sr_ok (κ : Nat → Value) (l : List Int) : runF tyT srO (atH 2 1 (isB true) (atH 2 4 (isB false) noH)) [] 0 [1] [2, 3] fSr (bA [.sl .u8 l] 0 0) (bH κ [.sl .u8 l] 0 0) 1 [] = some ([.fin], srE (rdV (leI (cutI l 0 l.length))).x (rdV (leI (cutI l 0 l.length))).y (rdV (leI (cutI l 0 l.length))).e, [0 + l.length ≤ l.length, is32 (cutI l 0 l.length), tB ((rdV (leI (cutI l 0 l.length))).e == 0) true, tB (nSmallP (rdV (leI (cutI l 0 l.length))).x (rdV (leI (cutI l 0 l.length))).y) false]) := by kernel_rfl
/-- What public bytes are read as: small points are none. -/
noncomputable def srV (N : Nat) : RV := if (rdV N).e = 0 then (if nSmallP (rdV N).x (rdV N).y = true then ⟨0, 0, 5⟩ else rdV N) else rdV N
noncomputable def srF : List CB → Option BR
  | [.sl .u8 l] => some { pre := is32 l, val := .tup [.agg [.num (srV (leI l)).x, .num (srV (leI l)).y], .one (.v (.int .i64 (srV (leI l)).e))] }
  | _ => none
theorem sr_go (κ : Nat → Value) (l : List Int) (hl : is32 l) : FromK Try.prog 0 fSr (bA [.sl .u8 l] 0 0) (bH κ [.sl .u8 l] 0 0) 1 [] [.fin] (srE (srV (leI l)).x (srV (leI l)).y (srV (leI l)).e) := by
  have a1 := sr_bad κ l
  have a2 := sr_small κ l
  have a3 := sr_ok κ l
  rw [cutI_all] at a1 a2 a3
  unfold srV
  by_cases h : (rdV (leI l)).e = 0
  · rw [if_pos h]
    have hb : ((rdV (leI l)).e == 0) = true := beq_iff_eq.2 h
    cases h2 : nSmallP (rdV (leI l)).x (rdV (leI l)).y
    · rw [if_neg (by decide)]
      exact FromK.run (m0 := 0) tyT_ok srO_ok mixed_ a3 ⟨by omega, hl, tB_iff.2 hb, tB_iff.2 h2, trivial⟩
    · rw [if_pos rfl]
      dsimp only
      refine FromK.run (m0 := 0) tyT_ok srO_ok mixed_ a2 ?_
      exact ⟨by omega, hl, tB_iff.2 hb, tB_iff.2 h2, trivial⟩
  · rw [if_neg h]
    exact FromK.run (m0 := 0) tyT_ok srO_ok mixed_ a1 ⟨by omega, hl, tB_iff.2 (beq_eq_false_iff_ne.2 h), trivial⟩
theorem sr_ends (cbs : List CB) (r : BR) (hF : srF cbs = some r) (hp : r.pre) : EndsB Try.prog tyT [] fSr cbs r := by
  unfold srF at hF
  split at hF
  · rename_i l
    injection hF with hF
    subst hF
    intro κ
    have h := sr_go κ l hp
    exact ⟨[.fin], _, .tup [.agg [.num (srV (leI l)).x, .num (srV (leI l)).y], .one (.v (.int .i64 (srV (leI l)).e))], [], .inr rfl, h, by kernel_rfl, by kernel_rfl, by kernel_rfl⟩
  · cases hF
theorem sr_ends3 (cbs : List CB) (r : BR) (hF : rdF3 cbs = some r) (hp : r.pre) : EndsB Try.prog tyT [] fSr cbs r := by
  unfold rdF3 at hF
  split at hF
  · rename_i l
    injection hF with hF
    subst hF
    intro κ
    have h := FromK.run (m0 := 0) tyT_ok srO3_ok mixed_ (sr_len κ l) (by rw [cutI_all]; exact ⟨by omega, hp, trivial⟩)
    exact ⟨[.fin], _, .tup [.agg [.num 0, .num 0], .one (.v (.int .i64 3))], [], .inr rfl, h, by kernel_rfl, by kernel_rfl, by kernel_rfl⟩
  · cases hF
theorem sread_ent : EntOK Try.prog 73 (entB [.sl .u8] srF) :=
  ok_B tyT_ok Try.func73 (by kernel_rfl) (by kernel_rfl) [] (fun x hx => by cases hx) (by kernel_rfl) sr_ends
theorem sread3_ent : EntOK Try.prog 73 (entB [.sl .u8] rdF3) :=
  ok_B tyT_ok Try.func73 (by kernel_rfl) (by kernel_rfl) [] (fun x hx => by cases hx) (by kernel_rfl) sr_ends3
noncomputable def sgO : List (Nat × Ent) := [(73, entB [.sl .u8] srF)]
theorem sgO_ok : OOK Try.prog sgO := ook_of (l := [(73, entB [.sl .u8] srF)]) ⟨sread_ent, trivial⟩
noncomputable def sgO3 : List (Nat × Ent) := [(73, entB [.sl .u8] rdF3)]
theorem sgO3_ok : OOK Try.prog sgO3 := ook_of (l := [(73, entB [.sl .u8] rdF3)]) ⟨sread3_ent, trivial⟩
def sgE (e : Int) : St := { tm := tmL 11 [(2, ofV (.int .i64 e))], hp := [], nx := 0, gl := [] }
theorem sg_len (κ : Nat → Value) (l : List Int) : runF tyT sgO3 noH [] 0 [] [2] fSgG (bA [.sl .u8 l] 0 0) (bH κ [.sl .u8 l] 0 0) 1 [] = some ([.fin], sgE 3, [0 + l.length ≤ l.length, (cutI l 0 l.length).length ≠ 32 ∧ (cutI l 0 l.length).length ≤ 1048576]) := by kernel_rfl
theorem sg_run (κ : Nat → Value) (l : List Int) : runF tyT sgO noH [] 0 [] [2] fSgG (bA [.sl .u8 l] 0 0) (bH κ [.sl .u8 l] 0 0) 1 [] = some ([.fin], sgE (srV (leI (cutI l 0 l.length))).e, [0 + l.length ≤ l.length, is32 (cutI l 0 l.length)]) := by kernel_rfl
noncomputable def sgF : List CB → Option BR
  | [.sl .u8 l] => some { pre := is32 l, val := .av (.one (.v (.int .i64 (srV (leI l)).e))) }
  | _ => none
def sgF3 : List CB → Option BR
  | [.sl .u8 l] => some { pre := l.length ≠ 32 ∧ l.length ≤ 1048576, val := .av (.one (.v (.int .i64 3))) }
  | _ => none
theorem sg_ends (cbs : List CB) (r : BR) (hF : sgF cbs = some r) (hp : r.pre) : EndsB Try.prog tyT [] fSgG cbs r := by
  unfold sgF at hF
  split at hF
  · rename_i l
    injection hF with hF
    subst hF
    intro κ
    have h := FromK.run (m0 := 0) tyT_ok sgO_ok mixed_ (sg_run κ l) (by rw [cutI_all]; exact ⟨by omega, hp, trivial⟩)
    rw [cutI_all] at h
    exact ⟨[.fin], _, .av (.one (.v (.int .i64 (srV (leI l)).e))), [], .inr rfl, h, by kernel_rfl, by kernel_rfl, by kernel_rfl⟩
  · cases hF
theorem sg_ends3 (cbs : List CB) (r : BR) (hF : sgF3 cbs = some r) (hp : r.pre) : EndsB Try.prog tyT [] fSgG cbs r := by
  unfold sgF3 at hF
  split at hF
  · rename_i l
    injection hF with hF
    subst hF
    intro κ
    have h := FromK.run (m0 := 0) tyT_ok sgO3_ok mixed_ (sg_len κ l) (by rw [cutI_all]; exact ⟨by omega, hp, trivial⟩)
    exact ⟨[.fin], _, .av (.one (.v (.int .i64 3))), [], .inr rfl, h, by kernel_rfl, by kernel_rfl, by kernel_rfl⟩
  · cases hF
theorem sgood_ent : EntOK Try.prog 41 (entB [.sl .u8] sgF) :=
  ok_B tyT_ok Try.func41 (by kernel_rfl) (by kernel_rfl) [] (fun x hx => by cases hx) (by kernel_rfl) sg_ends
theorem sgood3_ent : EntOK Try.prog 41 (entB [.sl .u8] sgF3) :=
  ok_B tyT_ok Try.func41 (by kernel_rfl) (by kernel_rfl) [] (fun x hx => by cases hx) (by kernel_rfl) sg_ends3
end
end Go.Proofs.Ytpefomdegbmecaa.Am
/- The functions of dial, as the machine reckons with them. Conditions: none. -/
namespace Go.Proofs.Ytpefomdegbmecaa.Am
set_option linter.unusedVariables false
set_option linter.unusedSimpArgs false
open Go Go.RowKit
open Pl (pP T256)
set_option linter.unusedSectionVars false
section
variable [GT]
/-- The ladder: the place, and two pairs. -/
structure L5 where
  u : Nat
  lx : Nat
  lz : Nat
  hx : Nat
  hz : Nat
def lSwp (l : L5) : L5 := ⟨l.u, l.hx, l.hz, l.lx, l.lz⟩
def lStp' (u a b da cb aa bb : Nat) : L5 := ⟨u, nPro [aa, bb], nPro [nSub aa bb, nSum [aa, nPro [121665, nSub aa bb]]], nPro [nSum [da, cb], nSum [da, cb]], nPro [u, nSub da cb, nSub da cb]⟩
def lStp (l : L5) : L5 := lStp' l.u (nSum [l.lx, l.lz]) (nSub l.lx l.lz) (nPro [nSub l.hx l.hz, nSum [l.lx, l.lz]]) (nPro [nSum [l.hx, l.hz], nSub l.lx l.lz]) (nPro [nSum [l.lx, l.lz], nSum [l.lx, l.lz]]) (nPro [nSub l.lx l.lz, nSub l.lx l.lz])
noncomputable def eSwap : Ent := inl tyT [] noH [] 400 Try.f74 [0]
theorem eSwap_ok : EntOK Try.prog 74 eSwap := inl_ok tyT_ok (ook_of (l := []) trivial) mixed_ Try.func74 (by kernel_rfl) (by kernel_rfl) [0]
noncomputable def dsO : List (Nat × Ent) := [(24, e2N nSub), (26, eLN 36 nSum), (23, eLN 36 nPro), (25, e1N nInv)]
theorem dsO_ok : OOK Try.prog dsO := ook_of (l := [(24, e2N nSub), (26, eLN 36 nSum), (23, eLN 36 nPro), (25, e1N nInv)]) ⟨Sub_ent, Add_ent, Mul_ent, Inverse_ent, trivial⟩
noncomputable def eStep : Ent := inl tyT dsO noH [] 1000 Try.f75 [0]
theorem eStep_ok : EntOK Try.prog 75 eStep := inl_ok tyT_ok dsO_ok mixed_ Try.func75 (by kernel_rfl) (by kernel_rfl) [0]
noncomputable def dtO : List (Nat × Ent) := [(74, eSwap), (75, eStep), (25, e1N nInv), (23, eLN 36 nPro)]
theorem dtO_ok : OOK Try.prog dtO := ook_of (l := [(74, eSwap), (75, eStep), (25, e1N nInv), (23, eLN 36 nPro)]) ⟨eSwap_ok, eStep_ok, Inverse_ent, Mul_ent, trivial⟩
noncomputable abbrev fTi : Func := Try.f43
def tiS (n : Nat) (l : L5) (i : Int) : St := { tm := tmL 50 [(2, .av (.one (.p 0 0))), (4, .av (.one (.p 1 0))), (5, .av (.one (.p 2 0))), (6, ofV (.int .i64 i))], hp := [(0, ⟨0, 36, [.num n]⟩), (1, ⟨0, 36, [.num 0]⟩), (2, ⟨0, 90, [.num l.u, .num l.lx, .num l.lz, .num l.hx, .num l.hz]⟩)], nx := 3, gl := [] }
def tiE (r : Nat) : St := { tm := tmL 50 [(4, .av (.one (.p 0 0)))], hp := [(0, ⟨0, 36, [.num r]⟩)], nx := 1, gl := [] }
def tiB (n u : Nat) : List CB := [.av (.one (.num n)), .av (.one (.num u))]
theorem ti_start (κ : Nat → Value) (n u : Nat) : runF tyT dtO noH [] 0 [0, 2, 3] [2, 4, 5, 6] fTi (bA (tiB n u) 0 0) (bH κ (tiB n u) 0 0) 0 [] = some (toAt fTi 3 [], tiS n ⟨u, 1, 0, u, 1⟩ 254, []) := by kernel_rfl
theorem ti_one (n : Nat) (l : L5) (i k_ : Nat) : runN tyT dtO (atH 3 1 (isB true) (atH 5 1 (isI IntKind.i64 ((i / 64 : Nat) : Int)) (atH 5 2 symH (atH 5 3 symH (atH 5 5 (isI IntKind.i64 ((i % 64 : Nat) : Int)) (atH 5 7 (isI .u64 1) (atH 4 1 (isI .i64 ((i : Int) - 1)) noH))))))) [] 4000 0 [0, 1, 2] [2, 4, 5, 6] (inAt fTi 3 [] k_) (tiS n l i) = some (hdAt fTi 3 [] k_, tiS n (lSwp (lStp (lSwp l))) ((i : Int) - 1), [tB (decide (0 ≤ (i : Int))) true, tI .i64 (IntKind.wrap IntKind.i64 (Int.tdiv (i : Int) 64)) ((i / 64 : Nat) : Int), 0 ≤ ((i / 64 : Nat) : Int) ∧ i / 64 ≤ 3, i / 64 < 4, tI .i64 (Int.tmod (i : Int) 64) ((i % 64 : Nat) : Int), tI .u64 (iand IntKind.u64 (ishr IntKind.u64 ((n / 18446744073709551616 ^ (i / 64) % 18446744073709551616 : Nat) : Int) (i % 64)) 1) 1, tI .i64 (IntKind.wrap IntKind.i64 ((i : Int) - 1)) ((i : Int) - 1)]) := by kernel_rfl
theorem ti_zero (n : Nat) (l : L5) (i k_ : Nat) : runN tyT dtO (atH 3 1 (isB true) (atH 5 1 (isI IntKind.i64 ((i / 64 : Nat) : Int)) (atH 5 2 symH (atH 5 3 symH (atH 5 5 (isI IntKind.i64 ((i % 64 : Nat) : Int)) (atH 5 7 (isI .u64 0) (atH 4 1 (isI .i64 ((i : Int) - 1)) noH))))))) [] 4000 0 [0, 1, 2] [2, 4, 5, 6] (inAt fTi 3 [] k_) (tiS n l i) = some (hdAt fTi 3 [] k_, tiS n (lStp l) ((i : Int) - 1), [tB (decide (0 ≤ (i : Int))) true, tI .i64 (IntKind.wrap IntKind.i64 (Int.tdiv (i : Int) 64)) ((i / 64 : Nat) : Int), 0 ≤ ((i / 64 : Nat) : Int) ∧ i / 64 ≤ 3, i / 64 < 4, tI .i64 (Int.tmod (i : Int) 64) ((i % 64 : Nat) : Int), tI .u64 (iand IntKind.u64 (ishr IntKind.u64 ((n / 18446744073709551616 ^ (i / 64) % 18446744073709551616 : Nat) : Int) (i % 64)) 1) 0, tI .i64 (IntKind.wrap IntKind.i64 ((i : Int) - 1)) ((i : Int) - 1)]) := by kernel_rfl
theorem ti_end (n : Nat) (l : L5) (k_ : Nat) : runN tyT dtO noH [] 2000 0 [1] [4] (inAt fTi 3 [] k_) (tiS n l (-1)) = some ([.fin], tiE (nPro [l.lx, nInv l.lz]), []) := by kernel_rfl
/-- The bits of n below i, one by one from above. -/
def tiR (n : Nat) : Nat → L5 → L5
  | 0, l => l
  | i + 1, l => tiR n i (match n.testBit i with
    | true => lSwp (lStp (lSwp l))
    | false => lStp l)
def nLad (n u : Nat) : Nat := nPro [(tiR n 255 ⟨u, 1, 0, u, 1⟩).lx, nInv (tiR n 255 ⟨u, 1, 0, u, 1⟩).lz]
theorem bit_val (n i : Nat) : iand .u64 (ishr .u64 ((n / 18446744073709551616 ^ (i / 64) % 18446744073709551616 : Nat) : Int) (i % 64)) 1 = if n.testBit i = true then 1 else 0 := by
  have h := bit_eq n i true
  have hlt : n / 18446744073709551616 ^ (i / 64) % 18446744073709551616 / 2 ^ (i % 64) < 18446744073709551616 := Nat.lt_of_le_of_lt (Nat.div_le_self _ _) (Nat.mod_lt _ (by decide))
  have ha := iand_nat _ 1 hlt (by decide)
  rw [show ((1 : Nat) : Int) = 1 from rfl] at ha
  rw [ishr_nat _ _ (by omega)] at h ⊢
  rw [ha, Nat.and_one_is_mod] at h ⊢
  rw [← h]
  generalize n / 18446744073709551616 ^ (i / 64) % 18446744073709551616 / 2 ^ (i % 64) = x
  have h2 : x % 2 = 0 ∨ x % 2 = 1 := by omega
  rcases h2 with h2 | h2 <;> rw [h2] <;> rfl
theorem ti_rounds (n : Nat) : ∀ (i : Nat) (l : L5), i ≤ 256 → Reaches Try.prog 0 (hdAt fTi 3 [] (i + 1)) (tiS n l ((i : Int) - 1)) [.fin] (tiE (nPro [(tiR n i l).lx, nInv (tiR n i l).lz]))
  | 0, l, _ => Reaches.oneK (Reaches.runK tyT_ok dtO_ok mixed_ (ti_end n l 0) trivial)
  | i + 1, l, hi => by
    have e1 : ((i + 1 : Nat) : Int) - 1 = (i : Int) := by omega
    have e2 : IntKind.wrap IntKind.i64 (Int.tdiv (i : Int) 64) = ((i / 64 : Nat) : Int) := by
      rw [Int.tdiv_eq_ediv_of_nonneg (by omega), w64 (by omega) (by omega)]
      omega
    have e3 : Int.tmod (i : Int) 64 = ((i % 64 : Nat) : Int) := by
      rw [Int.tmod_eq_emod_of_nonneg (by omega)]
      omega
    have e4 : IntKind.wrap IntKind.i64 ((i : Int) - 1) = (i : Int) - 1 := w64 (by omega) (by omega)
    have h0 : decide (0 ≤ (i : Int)) = true := decide_eq_true (by omega)
    have hv := bit_val n i
    rw [e1]
    unfold tiR
    cases hb : n.testBit i with
    | true => exact (Reaches.oneK (Reaches.runK tyT_ok dtO_ok mixed_ (ti_one n l i (i + 1)) ⟨tB_iff.2 h0, tI_iff.2 e2, ⟨by omega, by omega⟩, by omega, tI_iff.2 e3, tI_iff.2 (by rw [hv, if_pos hb]), tI_iff.2 e4, trivial⟩)).trans (ti_rounds n i _ (by omega))
    | false => exact (Reaches.oneK (Reaches.runK tyT_ok dtO_ok mixed_ (ti_zero n l i (i + 1)) ⟨tB_iff.2 h0, tI_iff.2 e2, ⟨by omega, by omega⟩, by omega, tI_iff.2 e3, tI_iff.2 (by rw [hv, if_neg (by rw [hb]; decide)]), tI_iff.2 e4, trivial⟩)).trans (ti_rounds n i _ (by omega))
theorem ti_go (κ : Nat → Value) (n u : Nat) : FromK Try.prog 0 fTi (bA (tiB n u) 0 0) (bH κ (tiB n u) 0 0) 0 [] [.fin] (tiE (nLad n u)) :=
  (FromK.run (m0 := 0) tyT_ok dtO_ok mixed_ (ti_start κ n u) trivial).trans (Reaches.roundsK 256 (ti_rounds n 255 ⟨u, 1, 0, u, 1⟩ (by decide)))
def tiF : List CB → Option BR
  | [.av (.one (.num n)), .av (.one (.num u))] => some { pre := True, val := .av (.one (.num (nLad n u))) }
  | _ => none
theorem ti_ends (cbs : List CB) (r : BR) (hF : tiF cbs = some r) (hp : r.pre) : EndsB Try.prog tyT [] fTi cbs r := by
  unfold tiF at hF
  split at hF
  · rename_i n u
    injection hF with hF
    subst hF
    intro κ
    exact ⟨[.fin], _, .av (.one (.num (nLad n u))), [], .inr rfl, ti_go κ n u, by kernel_rfl, by kernel_rfl, by kernel_rfl⟩
  · cases hF
theorem dtimes_ent : EntOK Try.prog 43 (entB [.av, .av] tiF) :=
  ok_B tyT_ok Try.func43 (by kernel_rfl) (by kernel_rfl) [] (fun x hx => by cases hx) (by kernel_rfl) ti_ends
/-! ### The secret's number, and the place -/
/-- A secret's number: bits 0, 1, 2, 254 and 255 as the document has them. -/
def nClamp (N : Nat) : Nat := N % 28948022309329048855892746252171976963317496166410141009864396001978282409984 / 8 * 8 + 28948022309329048855892746252171976963317496166410141009864396001978282409984
def clW (N : Nat) : List Int := ((words N).set 0 (iandn .u64 ((words N).getD 0 0) 7)).set 3 (ior .u64 (iandn .u64 (((words N).set 0 (iandn .u64 ((words N).getD 0 0) 7)).getD 3 0) 13835058055282163712) 4611686018427387904)
noncomputable def noO : List (Nat × Ent) := [(19, entB [.sl .u8] (nE is32 leI 0)), (26, eLN 36 nSum)]
theorem noO_ok : OOK Try.prog noO := ook_of (l := [(19, entB [.sl .u8] (nE is32 leI 0)), (26, eLN 36 nSum)]) ⟨of_ent, Add_ent, trivial⟩
noncomputable def noO3 : List (Nat × Ent) := [(19, entB [.sl .u8] (nE (fun l => l.length ≠ 32 ∧ l.length ≤ 1048576) (fun _ => 0) 3)), (26, eLN 36 nSum)]
theorem noO3_ok : OOK Try.prog noO3 := ook_of (l := [(19, entB [.sl .u8] (nE (fun l => l.length ≠ 32 ∧ l.length ≤ 1048576) (fun _ => 0) 3)), (26, eLN 36 nSum)]) ⟨ofbad_ent, Add_ent, trivial⟩
noncomputable abbrev fNo : Func := Try.f42
noncomputable abbrev fPl : Func := Try.f45
def noE (r : Nat) (e : Int) : St := { tm := tmL 22 [(2, .av (.one (.p 0 0))), (3, ofV (.int .i64 e))], hp := [(0, ⟨0, 36, [.num r]⟩)], nx := 1, gl := [] }
def plE (r : Nat) (e : Int) : St := { tm := tmL 19 [(2, .av (.one (.p 0 0))), (3, ofV (.int .i64 e))], hp := [(0, ⟨0, 36, [.num r]⟩)], nx := 1, gl := [] }
theorem no_run (κ : Nat → Value) (l : List Int) : runF tyT noO (atH 4 0 (isN (nClamp (leI (cutI l 0 l.length)))) noH) [] 0 [1] [2, 3] fNo (bA [.sl .u8 l] 0 0) (bH κ [.sl .u8 l] 0 0) 1 [] = some ([.fin], noE (nClamp (leI (cutI l 0 l.length))) 0, [0 + l.length ≤ l.length, is32 (cutI l 0 l.length), tN (clW (leI (cutI l 0 l.length))) (nClamp (leI (cutI l 0 l.length)))]) := by kernel_rfl
theorem no_bad (κ : Nat → Value) (l : List Int) : runF tyT noO3 (atH 4 0 (isN (nClamp 0)) noH) [] 0 [1] [2, 3] fNo (bA [.sl .u8 l] 0 0) (bH κ [.sl .u8 l] 0 0) 1 [] = some ([.fin], noE (nClamp 0) 3, [0 + l.length ≤ l.length, (cutI l 0 l.length).length ≠ 32 ∧ (cutI l 0 l.length).length ≤ 1048576, tN (clW 0) (nClamp 0)]) := by kernel_rfl
theorem pl_run (κ : Nat → Value) (l : List Int) : runF tyT noO (atH 3 0 (isN ((leI (cutI l 0 l.length)) % T255)) noH) [] 0 [1] [2, 3] fPl (bA [.sl .u8 l] 0 0) (bH κ [.sl .u8 l] 0 0) 1 [] = some ([.fin], plE (nSum [(leI (cutI l 0 l.length)) % T255]) 0, [0 + l.length ≤ l.length, is32 (cutI l 0 l.length), tN ((words (leI (cutI l 0 l.length))).set 3 (iand .u64 ((words (leI (cutI l 0 l.length))).getD 3 0) 9223372036854775807)) ((leI (cutI l 0 l.length)) % T255)]) := by kernel_rfl
theorem pl_bad (κ : Nat → Value) (l : List Int) : runF tyT noO3 (atH 3 0 (isN 0) noH) [] 0 [1] [2, 3] fPl (bA [.sl .u8 l] 0 0) (bH κ [.sl .u8 l] 0 0) 1 [] = some ([.fin], plE (nSum [0]) 3, [0 + l.length ≤ l.length, (cutI l 0 l.length).length ≠ 32 ∧ (cutI l 0 l.length).length ≤ 1048576, tN ((words 0).set 3 (iand .u64 ((words 0).getD 3 0) 9223372036854775807)) 0]) := by kernel_rfl
end
end Go.Proofs.Ytpefomdegbmecaa.Am
/- The contracts of dial's number, place, Public and Shared. Conditions: none. -/
namespace Go.Proofs.Ytpefomdegbmecaa.Am
set_option linter.unusedVariables false
set_option linter.unusedSimpArgs false
open Go Go.RowKit
open Pl (pP T256)
set_option linter.unusedSectionVars false
/-! ### Bits of words -/
theorem V64_andn (a b : Int) : V64 (iandn .u64 a b) = V64 a &&& ~~~ V64 b := by
  show V64 (IntKind.wrap .u64 ((V64 a &&& ~~~ V64 b).toNat : Int)) = _
  rw [toNat_wU, V64_toNat]
theorem iandn_nat (X Y : Nat) (hX : X < 18446744073709551616) (hY : Y < 18446744073709551616) : iandn .u64 (X : Int) (Y : Int) = ((X &&& (18446744073709551615 - Y) : Nat) : Int) := by
  refine V64_inj (show inU _ from wU_in _) ⟨by omega, ?_⟩ ?_
  · have := Nat.and_le_left (n := X) (m := 18446744073709551615 - Y); omega
  · rw [V64_andn]
    apply BitVec.eq_of_toNat_eq
    rw [BitVec.toNat_and, BitVec.toNat_not, toNat_V64n hX, toNat_V64n hY, toNat_V64n (Nat.lt_of_le_of_lt Nat.and_le_left hX), show (2 : Nat) ^ 64 - 1 - Y = 18446744073709551615 - Y from by rw [show (2 : Nat) ^ 64 = 18446744073709551616 from by decide +kernel]]
theorem ior_nat (X Y : Nat) (hX : X < 18446744073709551616) (hY : Y < 18446744073709551616) : ior .u64 (X : Int) (Y : Int) = ((X ||| Y : Nat) : Int) := by
  have h : X ||| Y < 2 ^ 64 := Nat.or_lt_two_pow (by rw [show (2 : Nat) ^ 64 = 18446744073709551616 from by decide +kernel]; exact hX) (by rw [show (2 : Nat) ^ 64 = 18446744073709551616 from by decide +kernel]; exact hY)
  rw [show (2 : Nat) ^ 64 = 18446744073709551616 from by decide +kernel] at h
  refine V64_inj (ior_in _ _) ⟨by omega, by omega⟩ ?_
  rw [V64_or]
  apply BitVec.eq_of_toNat_eq
  rw [BitVec.toNat_or, toNat_V64n hX, toNat_V64n hY, toNat_V64n h]
theorem and_m8 (X : Nat) (h : X < 18446744073709551616) : X &&& 18446744073709551608 = X / 8 * 8 := by
  have e : X / 8 * 8 = (X >>> 3) <<< 3 := by rw [Nat.shiftLeft_eq, Nat.shiftRight_eq_div_pow]
  have m : (18446744073709551608 : Nat) = (2 ^ 61 - 1) <<< 3 := by decide +kernel
  rw [e, m]
  apply Nat.eq_of_testBit_eq
  intro i
  rw [Nat.testBit_and, Nat.testBit_shiftLeft, Nat.testBit_shiftLeft, Nat.testBit_two_pow_sub_one, Nat.testBit_shiftRight]
  by_cases h3 : 3 ≤ i
  · rw [show 3 + (i - 3) = i by omega]
    by_cases h64 : i < 64
    · have : i - 3 < 61 := by omega
      simp [h3, this]
    · have : X.testBit i = false := Nat.testBit_lt_two_pow (Nat.lt_of_lt_of_le h (by
        rw [show (18446744073709551616 : Nat) = 2 ^ 64 from by decide +kernel]
        exact Nat.pow_le_pow_right (by decide) (by omega)))
      simp [this]
  · simp [h3]
theorem clW_eq (N : Nat) (h : N < T256) : clW N = words (nClamp N) := by
  unfold T256 at h
  have e0 : (18446744073709551616 : Nat) ^ 0 = 1 := rfl
  have e1 : (18446744073709551616 : Nat) ^ 1 = 18446744073709551616 := rfl
  have e2 : (18446744073709551616 : Nat) ^ 2 = 340282366920938463463374607431768211456 := by decide +kernel
  have e3 : (18446744073709551616 : Nat) ^ 3 = 6277101735386680763835789423207666416102355444464034512896 := by decide +kernel
  have w0 : (words N).getD 0 0 = ((N % 18446744073709551616 : Nat) : Int) := by
    show word N 0 = _
    unfold word
    rw [e0, Nat.div_one]
  have w3 : ((words N).set 0 (iandn .u64 ((words N).getD 0 0) 7)).getD 3 0 = ((N / 6277101735386680763835789423207666416102355444464034512896 % 18446744073709551616 : Nat) : Int) := by
    show word N 3 = _
    unfold word
    rw [e3]
  have a0 := iandn_nat (N % 18446744073709551616) 7 (by omega) (by decide)
  have a3 := iandn_nat (N / 6277101735386680763835789423207666416102355444464034512896 % 18446744073709551616) 13835058055282163712 (by omega) (by decide)
  rw [show ((7 : Nat) : Int) = 7 from rfl, show (18446744073709551615 : Nat) - 7 = 18446744073709551608 from by decide, and_m8 _ (by omega)] at a0
  rw [show ((13835058055282163712 : Nat) : Int) = 13835058055282163712 from rfl, show (18446744073709551615 : Nat) - 13835058055282163712 = 2 ^ 62 - 1 from by decide +kernel, Nat.and_two_pow_sub_one_eq_mod] at a3
  have a4 := ior_nat (N / 6277101735386680763835789423207666416102355444464034512896 % 18446744073709551616 % 2 ^ 62) 4611686018427387904 (by rw [show (2 : Nat) ^ 62 = 4611686018427387904 from by decide +kernel]; omega) (by decide)
  have h62 : N / 6277101735386680763835789423207666416102355444464034512896 % 18446744073709551616 % 2 ^ 62 < 2 ^ 62 := Nat.mod_lt _ (by decide +kernel)
  have h5 := Nat.two_pow_add_eq_or_of_lt h62 1
  rw [show ((4611686018427387904 : Nat) : Int) = 4611686018427387904 from rfl, Nat.or_comm, show (4611686018427387904 : Nat) = 2 ^ 62 * 1 from by decide +kernel, ← h5, show (2 : Nat) ^ 62 = 4611686018427387904 from by decide +kernel] at a4
  unfold clW
  rw [w3, w0, a0, a3, show (2 : Nat) ^ 62 = 4611686018427387904 from by decide +kernel]
  have a5 : ior .u64 ((N / 6277101735386680763835789423207666416102355444464034512896 % 18446744073709551616 % 4611686018427387904 : Nat) : Int) 4611686018427387904 = ((4611686018427387904 * 1 + N / 6277101735386680763835789423207666416102355444464034512896 % 18446744073709551616 % 4611686018427387904 : Nat) : Int) := a4
  rw [a5]
  unfold words word nClamp
  rw [e0, e1, e2, e3]
  simp only [List.set_cons_succ, List.set_cons_zero, List.cons.injEq, and_true]
  refine ⟨?_, ?_, ?_, ?_⟩ <;> omega
section
variable [GT]
def noF : List CB → Option BR
  | [.sl .u8 l] => some { pre := is32 l, val := .tup [.one (.num (nClamp (leI l))), .one (.v (.int .i64 0))] }
  | _ => none
def noF3 : List CB → Option BR
  | [.sl .u8 l] => some { pre := l.length ≠ 32 ∧ l.length ≤ 1048576, val := .tup [.one (.num (nClamp 0)), .one (.v (.int .i64 3))] }
  | _ => none
def plF : List CB → Option BR
  | [.sl .u8 l] => some { pre := is32 l, val := .tup [.one (.num (nSum [leI l % T255])), .one (.v (.int .i64 0))] }
  | _ => none
def plF3 : List CB → Option BR
  | [.sl .u8 l] => some { pre := l.length ≠ 32 ∧ l.length ≤ 1048576, val := .tup [.one (.num (nSum [0])), .one (.v (.int .i64 3))] }
  | _ => none
theorem no_ends (cbs : List CB) (r : BR) (hF : noF cbs = some r) (hp : r.pre) : EndsB Try.prog tyT [] fNo cbs r := by
  unfold noF at hF
  split at hF
  · rename_i l
    injection hF with hF
    subst hF
    intro κ
    have h := no_run κ l
    rw [cutI_all] at h
    exact ⟨[.fin], _, .tup [.one (.num (nClamp (leI l))), .one (.v (.int .i64 0))], [], .inr rfl, FromK.run (m0 := 0) tyT_ok noO_ok mixed_ h ⟨by omega, hp, tN_of (clW_eq _ (leI_lt hp)), trivial⟩, by kernel_rfl, by kernel_rfl, by kernel_rfl⟩
  · cases hF
theorem no_ends3 (cbs : List CB) (r : BR) (hF : noF3 cbs = some r) (hp : r.pre) : EndsB Try.prog tyT [] fNo cbs r := by
  unfold noF3 at hF
  split at hF
  · rename_i l
    injection hF with hF
    subst hF
    intro κ
    have h := no_bad κ l
    rw [cutI_all] at h
    exact ⟨[.fin], _, .tup [.one (.num (nClamp 0)), .one (.v (.int .i64 3))], [], .inr rfl, FromK.run (m0 := 0) tyT_ok noO3_ok mixed_ h ⟨by omega, hp, tN_of (clW_eq _ (by decide +kernel)), trivial⟩, by kernel_rfl, by kernel_rfl, by kernel_rfl⟩
  · cases hF
theorem pl_ends (cbs : List CB) (r : BR) (hF : plF cbs = some r) (hp : r.pre) : EndsB Try.prog tyT [] fPl cbs r := by
  unfold plF at hF
  split at hF
  · rename_i l
    injection hF with hF
    subst hF
    intro κ
    have h := pl_run κ l
    rw [cutI_all] at h
    exact ⟨[.fin], _, .tup [.one (.num (nSum [leI l % T255])), .one (.v (.int .i64 0))], [], .inr rfl, FromK.run (m0 := 0) tyT_ok noO_ok mixed_ h ⟨by omega, hp, tN_of (cut_word _ (leI_lt hp)), trivial⟩, by kernel_rfl, by kernel_rfl, by kernel_rfl⟩
  · cases hF
theorem pl_ends3 (cbs : List CB) (r : BR) (hF : plF3 cbs = some r) (hp : r.pre) : EndsB Try.prog tyT [] fPl cbs r := by
  unfold plF3 at hF
  split at hF
  · rename_i l
    injection hF with hF
    subst hF
    intro κ
    have h := pl_bad κ l
    rw [cutI_all] at h
    exact ⟨[.fin], _, .tup [.one (.num (nSum [0])), .one (.v (.int .i64 3))], [], .inr rfl, FromK.run (m0 := 0) tyT_ok noO3_ok mixed_ h ⟨by omega, hp, tN_of (cut_word 0 (by decide +kernel)), trivial⟩, by kernel_rfl, by kernel_rfl, by kernel_rfl⟩
  · cases hF
theorem number_ent : EntOK Try.prog 42 (entB [.sl .u8] noF) :=
  ok_B tyT_ok Try.func42 (by kernel_rfl) (by kernel_rfl) [] (fun x hx => by cases hx) (by kernel_rfl) no_ends
theorem number3_ent : EntOK Try.prog 42 (entB [.sl .u8] noF3) :=
  ok_B tyT_ok Try.func42 (by kernel_rfl) (by kernel_rfl) [] (fun x hx => by cases hx) (by kernel_rfl) no_ends3
theorem place_ent : EntOK Try.prog 45 (entB [.sl .u8] plF) :=
  ok_B tyT_ok Try.func45 (by kernel_rfl) (by kernel_rfl) [] (fun x hx => by cases hx) (by kernel_rfl) pl_ends
theorem place3_ent : EntOK Try.prog 45 (entB [.sl .u8] plF3) :=
  ok_B tyT_ok Try.func45 (by kernel_rfl) (by kernel_rfl) [] (fun x hx => by cases hx) (by kernel_rfl) pl_ends3
/-! ### Public and Shared -/
noncomputable def duO : List (Nat × Ent) := [(42, entB [.sl .u8] noF), (43, entB [.av, .av] tiF), (44, eBy)]
theorem duO_ok : OOK Try.prog duO := ook_of (l := [(42, entB [.sl .u8] noF), (43, entB [.av, .av] tiF), (44, eBy)]) ⟨number_ent, dtimes_ent, by_ent, trivial⟩
noncomputable def duO3 : List (Nat × Ent) := [(42, entB [.sl .u8] noF3)]
theorem duO3_ok : OOK Try.prog duO3 := ook_of (l := [(42, entB [.sl .u8] noF3)]) ⟨number3_ent, trivial⟩
noncomputable abbrev fDu : Func := Try.f11
noncomputable abbrev fDs : Func := Try.f12
theorem du_run (κ : Nat → Value) (l : List Int) : runF tyT duO noH [] 0 [2] [2, 3] fDu (bA [.sl .u8 l] 0 0) (bH κ [.sl .u8 l] 0 0) 1 [] = some ([.fin], { tm := tmL 18 [(2, .av (.one (.r 0 0 32 0))), (3, ofV (.int .i64 0))], hp := [(0, ⟨1, 5, [.arr .u8 (byI (nLad (nClamp (leI (cutI l 0 l.length))) 9))]⟩)], nx := 1, gl := [] }, [0 + l.length ≤ l.length, is32 (cutI l 0 l.length), True]) := by kernel_rfl
theorem du_bad (κ : Nat → Value) (l : List Int) : runF tyT duO3 noH [] 0 [] [2, 3] fDu (bA [.sl .u8 l] 0 0) (bH κ [.sl .u8 l] 0 0) 1 [] = some ([.fin], { tm := tmL 18 [(2, ofV (.slice none 0 0)), (3, ofV (.int .i64 3))], hp := [], nx := 0, gl := [] }, [0 + l.length ≤ l.length, (cutI l 0 l.length).length ≠ 32 ∧ (cutI l 0 l.length).length ≤ 1048576]) := by kernel_rfl
noncomputable def dhO : List (Nat × Ent) := [(42, entB [.sl .u8] noF), (45, entB [.sl .u8] plF), (43, entB [.av, .av] tiF), (44, eBy), (28, e1B nZero)]
theorem dhO_ok : OOK Try.prog dhO := ook_of (l := [(42, entB [.sl .u8] noF), (45, entB [.sl .u8] plF), (43, entB [.av, .av] tiF), (44, eBy), (28, e1B nZero)]) ⟨number_ent, place_ent, dtimes_ent, by_ent, Zero_ent, trivial⟩
noncomputable def dhOa : List (Nat × Ent) := [(42, entB [.sl .u8] noF3), (45, entB [.sl .u8] plF)]
theorem dhOa_ok : OOK Try.prog dhOa := ook_of (l := [(42, entB [.sl .u8] noF3), (45, entB [.sl .u8] plF)]) ⟨number3_ent, place_ent, trivial⟩
noncomputable def dhOb : List (Nat × Ent) := [(42, entB [.sl .u8] noF), (45, entB [.sl .u8] plF3)]
theorem dhOb_ok : OOK Try.prog dhOb := ook_of (l := [(42, entB [.sl .u8] noF), (45, entB [.sl .u8] plF3)]) ⟨number_ent, place3_ent, trivial⟩
noncomputable def dhOc : List (Nat × Ent) := [(42, entB [.sl .u8] noF3), (45, entB [.sl .u8] plF3)]
theorem dhOc_ok : OOK Try.prog dhOc := ook_of (l := [(42, entB [.sl .u8] noF3), (45, entB [.sl .u8] plF3)]) ⟨number3_ent, place3_ent, trivial⟩
/-- What is shared, as a number. -/
def nShr (a b : List Int) : Nat := nLad (nClamp (leI a)) (nSum [leI b % T255])
def dsE (z : List Int) : St := { tm := tmL 34 [(4, .av (.one (.r 0 0 32 0))), (5, ofV (.int .i64 0))], hp := [(0, ⟨1, 5, [.arr .u8 z]⟩)], nx := 1, gl := [] }
def dsX (e : Int) : St := { tm := tmL 34 [(4, ofV (.slice none 0 0)), (5, ofV (.int .i64 e))], hp := [], nx := 0, gl := [] }
theorem ds_run (κ : Nat → Value) (a b : List Int) : runF tyT dhO (atH 6 1 (isB false) noH) [] 0 [5] [4, 5] fDs (bA [.sl .u8 a, .sl .u8 b] 0 0) (bH κ [.sl .u8 a, .sl .u8 b] 0 0) 2 [] = some ([.fin], dsE (byI (nShr (cutI a 0 a.length) (cutI b 0 b.length))), [0 + a.length ≤ a.length, is32 (cutI a 0 a.length), 0 + b.length ≤ b.length, is32 (cutI b 0 b.length), True, tB (nZero (nShr (cutI a 0 a.length) (cutI b 0 b.length))) false]) := by kernel_rfl
theorem ds_zero (κ : Nat → Value) (a b : List Int) : runF tyT dhO (atH 6 1 (isB true) noH) [] 0 [] [4, 5] fDs (bA [.sl .u8 a, .sl .u8 b] 0 0) (bH κ [.sl .u8 a, .sl .u8 b] 0 0) 2 [] = some ([.fin], dsX 5, [0 + a.length ≤ a.length, is32 (cutI a 0 a.length), 0 + b.length ≤ b.length, is32 (cutI b 0 b.length), True, tB (nZero (nShr (cutI a 0 a.length) (cutI b 0 b.length))) true]) := by kernel_rfl
def duF : List CB → Option BR
  | [.sl .u8 l] => some { pre := is32 l, val := .tup [.one (.r 0 0 32 0), .one (.v (.int .i64 0))], new := [⟨1, 5, [.arr .u8 (byI (nLad (nClamp (leI l)) 9))]⟩] }
  | _ => none
def duF3 : List CB → Option BR
  | [.sl .u8 l] => some { pre := l.length ≠ 32 ∧ l.length ≤ 1048576, val := .tup [.one (.v (.slice none 0 0)), .one (.v (.int .i64 3))] }
  | _ => none
def dsF : List CB → Option BR
  | [.sl .u8 a, .sl .u8 b] => some { pre := is32 a ∧ is32 b ∧ nZero (nShr a b) = false, val := .tup [.one (.r 0 0 32 0), .one (.v (.int .i64 0))], new := [⟨1, 5, [.arr .u8 (byI (nShr a b))]⟩] }
  | _ => none
def dsFz : List CB → Option BR
  | [.sl .u8 a, .sl .u8 b] => some { pre := is32 a ∧ is32 b ∧ nZero (nShr a b) = true, val := .tup [.one (.v (.slice none 0 0)), .one (.v (.int .i64 5))] }
  | _ => none
def okOr (l : List Int) : Prop := is32 l ∨ (l.length ≠ 32 ∧ l.length ≤ 1048576)
def dsF3 : List CB → Option BR
  | [.sl .u8 a, .sl .u8 b] => some { pre := okOr a ∧ okOr b ∧ ¬ (is32 a ∧ is32 b), val := .tup [.one (.v (.slice none 0 0)), .one (.v (.int .i64 3))] }
  | _ => none
theorem ds_a (κ : Nat → Value) (a b : List Int) : runF tyT dhOa noH [] 0 [] [4, 5] fDs (bA [.sl .u8 a, .sl .u8 b] 0 0) (bH κ [.sl .u8 a, .sl .u8 b] 0 0) 2 [] = some ([.fin], dsX 3, [0 + a.length ≤ a.length, (cutI a 0 a.length).length ≠ 32 ∧ (cutI a 0 a.length).length ≤ 1048576, 0 + b.length ≤ b.length, is32 (cutI b 0 b.length)]) := by kernel_rfl
theorem ds_b (κ : Nat → Value) (a b : List Int) : runF tyT dhOb noH [] 0 [] [4, 5] fDs (bA [.sl .u8 a, .sl .u8 b] 0 0) (bH κ [.sl .u8 a, .sl .u8 b] 0 0) 2 [] = some ([.fin], dsX 3, [0 + a.length ≤ a.length, is32 (cutI a 0 a.length), 0 + b.length ≤ b.length, (cutI b 0 b.length).length ≠ 32 ∧ (cutI b 0 b.length).length ≤ 1048576]) := by kernel_rfl
theorem ds_c (κ : Nat → Value) (a b : List Int) : runF tyT dhOc noH [] 0 [] [4, 5] fDs (bA [.sl .u8 a, .sl .u8 b] 0 0) (bH κ [.sl .u8 a, .sl .u8 b] 0 0) 2 [] = some ([.fin], dsX 3, [0 + a.length ≤ a.length, (cutI a 0 a.length).length ≠ 32 ∧ (cutI a 0 a.length).length ≤ 1048576, 0 + b.length ≤ b.length, (cutI b 0 b.length).length ≠ 32 ∧ (cutI b 0 b.length).length ≤ 1048576]) := by kernel_rfl
theorem du_ends (cbs : List CB) (r : BR) (hF : duF cbs = some r) (hp : r.pre) : EndsB Try.prog tyT [] fDu cbs r := by
  unfold duF at hF
  split at hF
  · rename_i l
    injection hF with hF
    subst hF
    intro κ
    have h := FromK.run (m0 := 0) tyT_ok duO_ok mixed_ (du_run κ l) (by rw [cutI_all]; exact ⟨by omega, hp, trivial, trivial⟩)
    rw [cutI_all] at h
    exact ⟨[.fin], _, .tup [.one (.r 0 0 32 0), .one (.v (.int .i64 0))], [0], .inr rfl, h, by kernel_rfl, by kernel_rfl, by kernel_rfl⟩
  · cases hF
theorem du_ends3 (cbs : List CB) (r : BR) (hF : duF3 cbs = some r) (hp : r.pre) : EndsB Try.prog tyT [] fDu cbs r := by
  unfold duF3 at hF
  split at hF
  · rename_i l
    injection hF with hF
    subst hF
    intro κ
    have h := FromK.run (m0 := 0) tyT_ok duO3_ok mixed_ (du_bad κ l) (by rw [cutI_all]; exact ⟨by omega, hp, trivial⟩)
    exact ⟨[.fin], _, .tup [.one (.v (.slice none 0 0)), .one (.v (.int .i64 3))], [], .inr rfl, h, by kernel_rfl, by kernel_rfl, by kernel_rfl⟩
  · cases hF
theorem ds_ends (cbs : List CB) (r : BR) (hF : dsF cbs = some r) (hp : r.pre) : EndsB Try.prog tyT [] fDs cbs r := by
  unfold dsF at hF
  split at hF
  · rename_i a b
    injection hF with hF
    subst hF
    intro κ
    have h := FromK.run (m0 := 0) tyT_ok dhO_ok mixed_ (ds_run κ a b) (by rw [cutI_all, cutI_all]; exact ⟨by omega, hp.1, by omega, hp.2.1, trivial, tB_iff.2 hp.2.2, trivial⟩)
    rw [cutI_all, cutI_all] at h
    exact ⟨[.fin], _, .tup [.one (.r 0 0 32 0), .one (.v (.int .i64 0))], [0], .inr rfl, h, by kernel_rfl, by kernel_rfl, by kernel_rfl⟩
  · cases hF
theorem ds_endsz (cbs : List CB) (r : BR) (hF : dsFz cbs = some r) (hp : r.pre) : EndsB Try.prog tyT [] fDs cbs r := by
  unfold dsFz at hF
  split at hF
  · rename_i a b
    injection hF with hF
    subst hF
    intro κ
    have h := FromK.run (m0 := 0) tyT_ok dhO_ok mixed_ (ds_zero κ a b) (by rw [cutI_all, cutI_all]; exact ⟨by omega, hp.1, by omega, hp.2.1, trivial, tB_iff.2 hp.2.2, trivial⟩)
    exact ⟨[.fin], _, .tup [.one (.v (.slice none 0 0)), .one (.v (.int .i64 5))], [], .inr rfl, h, by kernel_rfl, by kernel_rfl, by kernel_rfl⟩
  · cases hF
theorem ds_ends3 (cbs : List CB) (r : BR) (hF : dsF3 cbs = some r) (hp : r.pre) : EndsB Try.prog tyT [] fDs cbs r := by
  unfold dsF3 at hF
  split at hF
  · rename_i a b
    injection hF with hF
    subst hF
    intro κ
    have h : FromK Try.prog 0 fDs (bA [.sl .u8 a, .sl .u8 b] 0 0) (bH κ [.sl .u8 a, .sl .u8 b] 0 0) 2 [] [.fin] (dsX 3) := by
      obtain ⟨ha, hb, hn⟩ := hp
      rcases ha with ha | ha
      · rcases hb with hb | hb
        · exact absurd ⟨ha, hb⟩ hn
        · exact FromK.run (m0 := 0) tyT_ok dhOb_ok mixed_ (ds_b κ a b) (by rw [cutI_all, cutI_all]; exact ⟨by omega, ha, by omega, hb, trivial⟩)
      · rcases hb with hb | hb
        · exact FromK.run (m0 := 0) tyT_ok dhOa_ok mixed_ (ds_a κ a b) (by rw [cutI_all, cutI_all]; exact ⟨by omega, ha, by omega, hb, trivial⟩)
        · exact FromK.run (m0 := 0) tyT_ok dhOc_ok mixed_ (ds_c κ a b) (by rw [cutI_all, cutI_all]; exact ⟨by omega, ha, by omega, hb, trivial⟩)
    exact ⟨[.fin], _, .tup [.one (.v (.slice none 0 0)), .one (.v (.int .i64 3))], [], .inr rfl, h, by kernel_rfl, by kernel_rfl, by kernel_rfl⟩
  · cases hF
theorem dpublic_ent : EntOK Try.prog 11 (entB [.sl .u8] duF) :=
  ok_B tyT_ok Try.func11 (by kernel_rfl) (by kernel_rfl) [] (fun x hx => by cases hx) (by kernel_rfl) du_ends
theorem dpublic3_ent : EntOK Try.prog 11 (entB [.sl .u8] duF3) :=
  ok_B tyT_ok Try.func11 (by kernel_rfl) (by kernel_rfl) [] (fun x hx => by cases hx) (by kernel_rfl) du_ends3
theorem shared_ent : EntOK Try.prog 12 (entB [.sl .u8, .sl .u8] dsF) :=
  ok_B tyT_ok Try.func12 (by kernel_rfl) (by kernel_rfl) [] (fun x hx => by cases hx) (by kernel_rfl) ds_ends
theorem sharedz_ent : EntOK Try.prog 12 (entB [.sl .u8, .sl .u8] dsFz) :=
  ok_B tyT_ok Try.func12 (by kernel_rfl) (by kernel_rfl) [] (fun x hx => by cases hx) (by kernel_rfl) ds_endsz
theorem shared3_ent : EntOK Try.prog 12 (entB [.sl .u8, .sl .u8] dsF3) :=
  ok_B tyT_ok Try.func12 (by kernel_rfl) (by kernel_rfl) [] (fun x hx => by cases hx) (by kernel_rfl) ds_ends3
end
end Go.Proofs.Ytpefomdegbmecaa.Am
/- Law 11's awake and nine. Conditions: none. -/
namespace Go.Proofs.Ytpefomdegbmecaa.Am
set_option linter.unusedVariables false
set_option linter.unusedSimpArgs false
open Go Go.RowKit
open Pl (pP T256)
set_option linter.unusedSectionVars false
section
variable [GT]
noncomputable def awO11 : List (Nat × Ent) := [(11, entB [.sl .u8] duF3)]
theorem awO11_ok : OOK Try.prog awO11 := ook_of (l := [(11, entB [.sl .u8] duF3)]) ⟨dpublic3_ent, trivial⟩
theorem aw11_run : wholeV tyT awO11 noH [] 2000 Try.f10 [] = some (ofV (.bool true), [0 + 31 ≤ (List.replicate 31 (0 : Int)).length ∧ 31 ≤ 31, (cutI (List.replicate 31 (0 : Int)) 0 31).length ≠ 32 ∧ (cutI (List.replicate 31 (0 : Int)) 0 31).length ≤ 1048576]) := by kernel_rfl
def vaw11 : List SV → Option (SV × Asm)
  | [] => some (ofV (.bool true), .tt)
  | _ => none
theorem aw11_ent : EntOK Try.prog 10 (vEnt vaw11) := ok_V awO11_ok Try.func10 (by kernel_rfl) (by kernel_rfl) fun args v p hF hp => by
  unfold vaw11 at hF
  split at hF
  · simp only [Option.some.injEq, Prod.mk.injEq] at hF
    obtain ⟨rfl, rfl⟩ := hF
    exact ⟨_, _, _, _, aw11_run, ⟨⟨by decide, by decide⟩, ⟨by decide, by decide⟩, trivial⟩, by kernel_rfl, by kernel_rfl, by kernel_rfl⟩
  · cases hF
end
end Go.Proofs.Ytpefomdegbmecaa.Am
/- Opening arrays of bytes, and rows of them, at a law's call. Conditions: none. -/
set_option maxRecDepth 100000
namespace Go.Proofs.Ytpefomdegbmecaa
set_option linter.unusedVariables false
set_option linter.unusedSimpArgs false
open Go Go.ChangeShapes Go.WideShapes Go.ChangeAt Go.RowKit

theorem own_ : ownKnob Try.prog.godebug = none := by kernel_rfl
theorem laidOut_ : laidOutB Try.prog = true := by kernel_rfl
theorem ints_of {k : IntKind} : ∀ l : List Value, (∀ i, i < l.length → ∃ z, l[i]? = some (.int k z) ∧ (Lit.int k z).wf = true) → ∃ bs : List Int, l = bs.map (Value.int k) ∧ ∀ z ∈ bs, (Lit.int k z).wf = true
  | [], _ => ⟨[], rfl, by simp⟩
  | x :: l, h => by
    obtain ⟨z, hz, hw⟩ := h 0 (by simp)
    obtain ⟨bs, hb, hbw⟩ := ints_of l fun i hi => by
      obtain ⟨z, hz, hw⟩ := h (i + 1) (by simp; omega)
      exact ⟨z, by simpa using hz, hw⟩
    simp only [List.getElem?_cons_zero, Option.some.injEq] at hz
    subst hz
    refine ⟨z :: bs, by rw [hb]; rfl, fun y hy => ?_⟩
    rcases List.mem_cons.1 hy with rfl | hy
    · exact hw
    · exact hbw y hy
/-- An array of integers that comes in. -/
theorem open_arr {H : Type} {enc : TypeId × Value → H} {W : World} {base : Nat} {b0 : Nat} {spare : Nat → Bool} {held : Bool} {v : Value} {d : DataW H} {ps : List MemPlace} {t e : TypeId} {n : Nat} {k : IntKind}
    (ht : Try.prog.underlying t = some (.array n e)) (he : Try.prog.underlying e = some (.int k)) (hct : Try.prog.cellsOf t = n) (hce : Try.prog.cellsOf e = 1)
    (hval : Value.okWide Try.prog W .any b0 t v) (h : DataW.Trod enc Try.prog W base spare held t v d ps) :
    ∃ bs : List Int, bs.length = n ∧ (∀ z ∈ bs, (Lit.int k z).wf = true) ∧ v = .agg (bs.map (Value.int k)).toArray := by
  obtain ⟨cs, rfl, hsz, _⟩ : ∃ cs, v = .agg cs ∧ cs.size = Try.prog.cellsOf t ∧ Row.okWide Try.prog W .any b0 t cs := by
    simpa [Value.okWide, ht] using hval
  rw [hct] at hsz
  obtain ⟨fuel, hf⟩ := h
  obtain ⟨xs, m, _, _, hl, hxs, hel⟩ := DataW.trod_array ht hf
  obtain ⟨l⟩ := cs
  have hl' : l.length = n := hsz
  have hc : (Value.agg ⟨l⟩).cells.toList = l := rfl
  obtain ⟨bs, hb, hw⟩ := ints_of (k := k) l fun i hi => by
    have := hel i (by omega)
    rw [hc, hce, Nat.mul_one, List.getElem?_eq_getElem (by omega)] at this
    obtain ⟨z, hz, _, hzw⟩ := DataW.trod_int he this
    refine ⟨z, ?_, hzw⟩
    have h2 := congrArg (fun q => q[0]?) hz
    simpa [List.getElem?_take, List.getElem?_drop] using h2
  exact ⟨bs, by rw [hb] at hl'; simpa using hl', hw, by rw [hb]⟩

/-- What is known of a row of integers that came in. -/
def IsRow (k : IntKind) (w : World) (a : Option Addr) (len cap : Nat) (zs : List Int) : Prop :=
  (a = none ∧ len = 0 ∧ cap = 0 ∧ zs = []) ∨
  ∃ x, a = some x ∧ len ≤ cap ∧ cap ≤ maxLen ∧ zs.length = cap ∧ (∀ i, i < zs.length → w.cell? (x.add i) = some (.int k (zs.getD i 0))) ∧ ∀ n ∈ zs, (Lit.int k n).wf = true

end Go.Proofs.Ytpefomdegbmecaa
/- Opening slices of integers at a law's call, as the machine takes them; and a law's call. Conditions: none. -/
set_option maxRecDepth 100000
namespace Go.Proofs.Ytpefomdegbmecaa
set_option linter.unusedVariables false
set_option linter.unusedSimpArgs false
open Go Go.ChangeShapes Go.WideShapes Go.ChangeAt Go.RowKit

theorem has_lt {P : Program} {w : World} {r : Reach} {base : Nat} {a : Addr} {e : TypeId} {n : Nat} (h : w.has P r base a e n) : a.block < w.heap.size := by
  obtain ⟨_, _, row, cells, hs, _⟩ := h
  unfold World.shape? at hs
  split at hs
  · rename_i hb
    exact (Array.getElem?_eq_some_iff.1 hb).1
  all_goals first | cases hs | (rename_i hb; exact (Array.getElem?_eq_some_iff.1 hb).1)
/-- A slice of integers that comes in. -/
theorem open_sl {H : Type} {enc : TypeId × Value → H} {W : World} {base : Nat} {b0 : Nat} {spare : Nat → Bool} {held : Bool} {v : Value} {d : DataW H} {ps : List MemPlace} {t e : TypeId} {k : IntKind}
    (ht : Try.prog.underlying t = some (.slice e)) (he : Try.prog.underlying e = some (.int k)) (hce : Try.prog.cellsOf e = 1)
    (hval : Value.okWide Try.prog W .any b0 t v) (h : DataW.Trod enc Try.prog W base spare held t v d ps) :
    ∃ a cap, ∃ zs : List Int, v = .slice a zs.length cap ∧ Am.RowAt W ⟨a, cap⟩ k zs ∧ ∀ z ∈ zs, (Lit.int k z).wf = true := by
  obtain ⟨a, len, cap, rfl⟩ := okWide_slice ht hval
  have hlt : ∀ x, a = some x → x.block < W.heap.size := fun x hx => by
    subst hx
    simp only [Value.okWide, ht, Cell.okWide, Cell.ok] at hval
    exact has_lt hval.2.2
  obtain ⟨fuel, hf⟩ := h
  rcases open_ints ht he hce hf with ⟨hcs, _⟩ | ⟨x, l, c, zs, hcs, _, hl, hm, hz, _, hcell, hwz⟩
  · simp [Value.cells] at hcs
    obtain ⟨rfl, rfl, rfl⟩ := hcs
    exact ⟨none, 0, [], rfl, ⟨Nat.le_refl _, .inl rfl, fun x hx => by cases hx⟩, by simp⟩
  · simp [Value.cells] at hcs
    obtain ⟨rfl, rfl, rfl⟩ := hcs
    have hzl : len ≤ zs.length := by rw [hz]; split <;> omega
    have hlen : (zs.take len).length = len := by rw [List.length_take]; omega
    refine ⟨some x, cap, zs.take len, by rw [hlen], ⟨by rw [hlen]; exact hl, .inr ⟨x, rfl, fun j u hj => ?_⟩, hlt⟩, fun z hz' => hwz z (List.mem_of_mem_take hz')⟩
    have hjl : j < len := by
      have := (List.getElem?_eq_some_iff.1 hj).1
      rw [List.length_map, hlen] at this; exact this
    rw [List.getElem?_map, List.getElem?_take, if_pos hjl, List.getElem?_eq_getElem (by omega)] at hj
    simp only [Option.map_some, Option.some.injEq] at hj
    subst hj
    have := hcell j (by omega)
    simpa [List.getD_eq_getElem?_getD, List.getElem?_eq_getElem (show j < zs.length by omega)] using this
end Go.Proofs.Ytpefomdegbmecaa
namespace Go.Proofs.Ytpefomdegbmecaa.Am
open Go Go.RowKit
variable [GT]
omit [GT] in
/-- Rows that come in, as blocks to be read. -/
def rowsH : List (Loc × IntKind × List Int) → Nat → List (Nat × Blk)
  | [], _ => []
  | (_, k, zs) :: l, n => (n, ⟨2, 0, [.arr k zs]⟩) :: rowsH l (n + 1)
omit [GT] in
theorem rowsH_spec : ∀ (l : List (Loc × IntKind × List Int)) (n i : Nat) (b : Blk), look (rowsH l n) i = some b → n ≤ i ∧ i < n + l.length ∧ ∃ x, l[i - n]? = some x ∧ b = ⟨2, 0, [.arr x.2.1 x.2.2]⟩
  | [], n, i, b, h => by cases h
  | (g, k, zs) :: l, n, i, b, h => by
    simp only [rowsH, look_cons] at h
    by_cases hi : n = i
    · subst hi
      rw [if_pos rfl] at h
      injection h with h
      subst h
      exact ⟨Nat.le_refl _, by simp, (g, k, zs), by simp, rfl⟩
    · rw [if_neg hi] at h
      obtain ⟨h1, h2, x, hx, hb⟩ := rowsH_spec l (n + 1) i b h
      refine ⟨by omega, by simp only [List.length_cons]; omega, x, ?_, hb⟩
      rw [show i - n = (i - (n + 1)) + 1 by omega, List.getElem?_cons_succ]
      exact hx
theorem hr_rows {w : World} (l : List (Loc × IntKind × List Int)) (h : ∀ x ∈ l, RowAt w x.1 x.2.1 x.2.2) (hgw : GWok w.heap.size [] w) : HR (fun i => (l.map (·.1)).getD i ⟨none, 0⟩) (· < l.length) w.heap.size [] (look (rowsH l 0)) w := by
  have hall : ∀ i b, look (rowsH l 0) i = some b → i < l.length ∧ ∃ k zs, b = ⟨2, 0, [.arr k zs]⟩ ∧ RowAt w ((l.map (·.1)).getD i ⟨none, 0⟩) k zs := fun i b hb => by
    obtain ⟨_, h2, x, hx, rfl⟩ := rowsH_spec _ _ _ _ hb
    rw [Nat.sub_zero] at hx
    refine ⟨by omega, _, _, rfl, ?_⟩
    have e : (l.map (·.1)).getD i ⟨none, 0⟩ = x.1 := by simp [List.getD_eq_getElem?_getD, hx]
    rw [e]
    exact h x (List.mem_of_getElem? hx)
  refine ⟨Nat.le_refl _, fun i b hb => ?_, fun i b x hb hx => ?_, fun i b x hb hk hx => ?_, fun i j bi bj x y hi hj hij hk hx hy => ?_, hgw⟩
  · obtain ⟨h2, k, zs, rfl, h3, h4, _⟩ := hall i b hb
    refine ⟨h2, fun s hs => (by simp at hs; subst hs; trivial), ?_⟩
    show (segsVals _ _).length ≤ _ ∧ _
    rw [segsVals_one]
    refine ⟨by simpa [Seg.vals] using h3, ?_⟩
    rcases h4 with rfl | h4
    · exact .inl rfl
    · exact .inr h4
  · obtain ⟨_, k, zs, rfl, _, _, h5⟩ := hall i b hb
    exact h5 x hx
  · obtain ⟨_, k, zs, rfl, _⟩ := hall i b hb
    simp at hk
  · obtain ⟨_, k, zs, rfl, _⟩ := hall i bi hi
    simp at hk
/-- A law's run that ends in true. -/
theorem law_reach {f : FuncId} {fn : Func} (hf : Try.prog.funcs[f]? = some fn) {avs : List SV} {hp : List (Nat × Blk)} {k : Nat} {todo : List AI} {st : St} (hR : From Try.prog fn avs hp k [] todo st) (hfin : todo = [] ∨ todo = [.fin]) (hv : resVal tyT st fn.results.toList = some (ofV (.bool true))) (hlen : Nat.ble avs.length fn.ntmps = true) (hin : avs.all (svB fun i => Nat.blt i k) = true) {ρc : Nat → Loc} {w : World} (hG : HR ρc (· < k) w.heap.size [] (look hp) w) :
    Calls Try.prog f (avs.map (SV.conc ρc)).toArray w fun e w' => e = .returned (.bool true) ∧ Below w.heap.size w w' := by
  obtain ⟨c, hc, hRe⟩ := hR
  exact reach_val tyT_ok hf hc hfin hRe hv (by rfl) hlen (fun s hs => svB_in (f := fun i => Nat.blt i k) (fun i h => Nat.le_of_ble_eq_true h) (List.all_eq_true.1 hin s hs)) hG (fun _ => ⟨none, 0⟩)
omit [GT] in
theorem conc_s0 {ρ : Nat → Loc} {i n cap : Nat} : SV.conc ρ (.av (.one (.s i 0 n cap))) = .slice (ρ i).a n cap := by
  simp only [SV.conc, AV.conc, Seg.conc]
  cases (ρ i).a <;> simp [Addr.add]
end Go.Proofs.Ytpefomdegbmecaa.Am
/- dial's OfPublic; law 11's DialPublics. Conditions: none. -/
namespace Go.Proofs.Ytpefomdegbmecaa.Am
set_option linter.unusedVariables false
set_option linter.unusedSimpArgs false
open Go Go.RowKit
open Pl (pP T256)
set_option linter.unusedSectionVars false
section
variable [GT]
noncomputable def opO : List (Nat × Ent) := [(41, entB [.sl .u8] sgF), (16, entB [.sl .u8] rdF), (72, vEnt vmont), (44, eBy)]
theorem opO_ok : OOK Try.prog opO := ook_of (l := [(41, entB [.sl .u8] sgF), (16, entB [.sl .u8] rdF), (72, vEnt vmont), (44, eBy)]) ⟨sgood_ent, read_ent, mont_ent, by_ent, trivial⟩
noncomputable def opO3 : List (Nat × Ent) := [(41, entB [.sl .u8] sgF3)]
theorem opO3_ok : OOK Try.prog opO3 := ook_of (l := [(41, entB [.sl .u8] sgF3)]) ⟨sgood3_ent, trivial⟩
noncomputable abbrev fOp : Func := Try.f40
/-- The place of a point. -/
def nMont (y : Nat) : Nat := nPro [nSum [1, y], nInv (nSub 1 y)]
theorem op_len (κ : Nat → Value) (l : List Int) : runF tyT opO3 noH [] 0 [] [2, 3] fOp (bA [.sl .u8 l] 0 0) (bH κ [.sl .u8 l] 0 0) 1 [] = some ([.fin], { tm := tmL 20 [(2, ofV (.slice none 0 0)), (3, ofV (.int .i64 3))], hp := [], nx := 0, gl := [] }, [0 + l.length ≤ l.length, (cutI l 0 l.length).length ≠ 32 ∧ (cutI l 0 l.length).length ≤ 1048576]) := by kernel_rfl
theorem op_bad (κ : Nat → Value) (l : List Int) : runF tyT opO (atH 2 1 (isB true) noH) [] 0 [] [2, 3] fOp (bA [.sl .u8 l] 0 0) (bH κ [.sl .u8 l] 0 0) 1 [] = some ([.fin], { tm := tmL 20 [(2, ofV (.slice none 0 0)), (3, ofV (.int .i64 (srV (leI (cutI l 0 l.length))).e))], hp := [], nx := 0, gl := [] }, [0 + l.length ≤ l.length, is32 (cutI l 0 l.length), tB ((srV (leI (cutI l 0 l.length))).e != 0) true]) := by kernel_rfl
theorem op_ok (κ : Nat → Value) (l : List Int) : runF tyT opO (atH 2 1 (isB false) noH) [] 0 [2] [2, 3] fOp (bA [.sl .u8 l] 0 0) (bH κ [.sl .u8 l] 0 0) 1 [] = some ([.fin], { tm := tmL 20 [(2, .av (.one (.r 0 0 32 0))), (3, ofV (.int .i64 0))], hp := [(0, ⟨1, 5, [.arr .u8 (byI (nMont (rdV (leI (cutI l 0 l.length))).y))]⟩)], nx := 1, gl := [] }, [0 + l.length ≤ l.length, is32 (cutI l 0 l.length), tB ((srV (leI (cutI l 0 l.length))).e != 0) false, 0 + l.length ≤ l.length, is32 (cutI l 0 l.length)]) := by kernel_rfl
noncomputable def opF : List CB → Option BR
  | [.sl .u8 l] => some { pre := is32 l ∧ (srV (leI l)).e = 0, val := .tup [.one (.r 0 0 32 0), .one (.v (.int .i64 0))], new := [⟨1, 5, [.arr .u8 (byI (nMont (rdV (leI l)).y))]⟩] }
  | _ => none
noncomputable def opFb : List CB → Option BR
  | [.sl .u8 l] => some { pre := is32 l ∧ (srV (leI l)).e ≠ 0, val := .tup [.one (.v (.slice none 0 0)), .one (.v (.int .i64 (srV (leI l)).e))] }
  | _ => none
def opF3 : List CB → Option BR
  | [.sl .u8 l] => some { pre := l.length ≠ 32 ∧ l.length ≤ 1048576, val := .tup [.one (.v (.slice none 0 0)), .one (.v (.int .i64 3))] }
  | _ => none
theorem ne_t {z : Int} (h : z ≠ 0) : (z != 0) = true := by simpa using h
theorem ne_f {z : Int} (h : z = 0) : (z != 0) = false := by subst h; rfl
theorem op_ends (cbs : List CB) (r : BR) (hF : opF cbs = some r) (hp : r.pre) : EndsB Try.prog tyT [] fOp cbs r := by
  unfold opF at hF
  split at hF
  · rename_i l
    injection hF with hF
    subst hF
    intro κ
    have h := FromK.run (m0 := 0) tyT_ok opO_ok mixed_ (op_ok κ l) (by rw [cutI_all]; exact ⟨by omega, hp.1, tB_iff.2 (ne_f hp.2), by omega, hp.1, trivial⟩)
    rw [cutI_all] at h
    exact ⟨[.fin], _, .tup [.one (.r 0 0 32 0), .one (.v (.int .i64 0))], [0], .inr rfl, h, by kernel_rfl, by kernel_rfl, by kernel_rfl⟩
  · cases hF
theorem op_endsb (cbs : List CB) (r : BR) (hF : opFb cbs = some r) (hp : r.pre) : EndsB Try.prog tyT [] fOp cbs r := by
  unfold opFb at hF
  split at hF
  · rename_i l
    injection hF with hF
    subst hF
    intro κ
    have h := FromK.run (m0 := 0) tyT_ok opO_ok mixed_ (op_bad κ l) (by rw [cutI_all]; exact ⟨by omega, hp.1, tB_iff.2 (ne_t hp.2), trivial⟩)
    rw [cutI_all] at h
    exact ⟨[.fin], _, .tup [.one (.v (.slice none 0 0)), .one (.v (.int .i64 (srV (leI l)).e))], [], .inr rfl, h, by kernel_rfl, by kernel_rfl, by kernel_rfl⟩
  · cases hF
theorem op_ends3 (cbs : List CB) (r : BR) (hF : opF3 cbs = some r) (hp : r.pre) : EndsB Try.prog tyT [] fOp cbs r := by
  unfold opF3 at hF
  split at hF
  · rename_i l
    injection hF with hF
    subst hF
    intro κ
    have h := FromK.run (m0 := 0) tyT_ok opO3_ok mixed_ (op_len κ l) (by rw [cutI_all]; exact ⟨by omega, hp, trivial⟩)
    exact ⟨[.fin], _, .tup [.one (.v (.slice none 0 0)), .one (.v (.int .i64 3))], [], .inr rfl, h, by kernel_rfl, by kernel_rfl, by kernel_rfl⟩
  · cases hF
theorem ofp_ent : EntOK Try.prog 40 (entB [.sl .u8] opF) :=
  ok_B tyT_ok Try.func40 (by kernel_rfl) (by kernel_rfl) [] (fun x hx => by cases hx) (by kernel_rfl) op_ends
theorem ofpb_ent : EntOK Try.prog 40 (entB [.sl .u8] opFb) :=
  ok_B tyT_ok Try.func40 (by kernel_rfl) (by kernel_rfl) [] (fun x hx => by cases hx) (by kernel_rfl) op_endsb
theorem ofp3_ent : EntOK Try.prog 40 (entB [.sl .u8] opF3) :=
  ok_B tyT_ok Try.func40 (by kernel_rfl) (by kernel_rfl) [] (fun x hx => by cases hx) (by kernel_rfl) op_ends3
noncomputable def dpO : List (Nat × Ent) := [(10, vEnt vaw11), (40, entB [.sl .u8] opF), (41, entB [.sl .u8] sgF)]
theorem dpO_ok : OOK Try.prog dpO := ook_of (l := [(10, vEnt vaw11), (40, entB [.sl .u8] opF), (41, entB [.sl .u8] sgF)]) ⟨aw11_ent, ofp_ent, sgood_ent, trivial⟩
noncomputable def dpOb : List (Nat × Ent) := [(10, vEnt vaw11), (40, entB [.sl .u8] opFb), (41, entB [.sl .u8] sgF)]
theorem dpOb_ok : OOK Try.prog dpOb := ook_of (l := [(10, vEnt vaw11), (40, entB [.sl .u8] opFb), (41, entB [.sl .u8] sgF)]) ⟨aw11_ent, ofpb_ent, sgood_ent, trivial⟩
noncomputable def dpO3 : List (Nat × Ent) := [(10, vEnt vaw11), (40, entB [.sl .u8] opF3), (41, entB [.sl .u8] sgF3)]
theorem dpO3_ok : OOK Try.prog dpO3 := ook_of (l := [(10, vEnt vaw11), (40, entB [.sl .u8] opF3), (41, entB [.sl .u8] sgF3)]) ⟨aw11_ent, ofp3_ent, sgood3_ent, trivial⟩
noncomputable abbrev fDP : Func := Try.f9
def dpA (l : List Int) (c : Nat) : List SV := [.av (.one (.s 0 0 l.length c))]
def dpP (l : List Int) : List (Nat × Blk) := [(0, ⟨2, 0, [.arr .u8 l]⟩)]
def dpE (l : List Int) : St := { tm := tmL 38 [(2, ofV (.bool true))], hp := dpP l, nx := 1, gl := [] }
theorem dp_long (l : List Int) (c : Nat) : runF tyT dpO (atH 1 5 (isB true) noH) [] 1 [] [2] fDP (dpA l c) (dpP l) 1 [] = some ([.fin], dpE l, [tB (decide ((l.length : Int) > 100)) true]) := by kernel_rfl
theorem dp_len (l : List Int) (c : Nat) : runF tyT dpO3 (atH 1 5 (isB false) noH) [] 1 [] [2] fDP (dpA l c) (dpP l) 1 [] = some ([.fin], dpE l, [tB (decide ((l.length : Int) > 100)) false, 0 + l.length ≤ l.length ∧ l.length ≤ c, (cutI l 0 l.length).length ≠ 32 ∧ (cutI l 0 l.length).length ≤ 1048576, 0 + l.length ≤ l.length ∧ l.length ≤ c, (cutI l 0 l.length).length ≠ 32 ∧ (cutI l 0 l.length).length ≤ 1048576]) := by kernel_rfl
theorem dp_bad (l : List Int) (c : Nat) : runF tyT dpOb (atH 1 5 (isB false) (atH 5 1 (isB true) (atH 6 2 (isB true) noH))) [] 1 [] [2] fDP (dpA l c) (dpP l) 1 [] = some ([.fin], dpE l, [tB (decide ((l.length : Int) > 100)) false, 0 + l.length ≤ l.length ∧ l.length ≤ c, is32 (cutI l 0 l.length) ∧ (srV (leI (cutI l 0 l.length))).e ≠ 0, 0 + l.length ≤ l.length ∧ l.length ≤ c, is32 (cutI l 0 l.length), tB ((srV (leI (cutI l 0 l.length))).e != 0) true, tB ((srV (leI (cutI l 0 l.length))).e == (srV (leI (cutI l 0 l.length))).e) true]) := by kernel_rfl
theorem dp_ok (l : List Int) (c : Nat) : runF tyT dpO (atH 1 5 (isB false) (atH 5 1 (isB false) noH)) [] 1 [] [2] fDP (dpA l c) (dpP l) 1 [] = some ([.fin], dpE l, [tB (decide ((l.length : Int) > 100)) false, 0 + l.length ≤ l.length ∧ l.length ≤ c, is32 (cutI l 0 l.length) ∧ (srV (leI (cutI l 0 l.length))).e = 0, 0 + l.length ≤ l.length ∧ l.length ≤ c, is32 (cutI l 0 l.length), tB ((srV (leI (cutI l 0 l.length))).e != 0) false]) := by kernel_rfl
theorem wf_bs2 {bs : List Int} (hw : ∀ z ∈ bs, (Lit.int .u8 z).wf = true) : isBs bs := fun z hz => by
  have := bounds_u8 (hw z hz)
  constructor <;> omega
theorem dp_go (l : List Int) (c : Nat) (hc : l.length ≤ c) (hb : isBs l) : From Try.prog fDP (dpA l c) (dpP l) 1 [] [.fin] (dpE l) := by
  by_cases h1 : l.length ≤ 100
  · by_cases h2 : l.length = 32
    · have h32 : is32 l := ⟨h2, hb⟩
      by_cases h3 : (srV (leI l)).e = 0
      · exact From.run tyT_ok dpO_ok mixed_ (dp_ok l c) (by rw [cutI_all]; exact ⟨tB_ngt.2 (by omega), by omega, ⟨h32, h3⟩, by omega, h32, tB_iff.2 (ne_f h3), trivial⟩)
      · exact From.run tyT_ok dpOb_ok mixed_ (dp_bad l c) (by rw [cutI_all]; exact ⟨tB_ngt.2 (by omega), by omega, ⟨h32, h3⟩, by omega, h32, tB_iff.2 (ne_t h3), tB_iff.2 (beq_self_eq_true _), trivial⟩)
    · exact From.run tyT_ok dpO3_ok mixed_ (dp_len l c) (by rw [cutI_all]; exact ⟨tB_ngt.2 (by omega), by omega, ⟨h2, by omega⟩, by omega, ⟨h2, by omega⟩, trivial⟩)
  · exact From.run tyT_ok dpO_ok mixed_ (dp_long l c) ⟨tB_gt.2 (by omega), trivial⟩
theorem lawDialPublics_fact (pl : Option Addr) (c : Nat) (l : List Int) {W : World} (hgw : GWok W.heap.size [] W) (rl : RowAt W ⟨pl, c⟩ .u8 l) (wl : ∀ z ∈ l, (Lit.int .u8 z).wf = true) : Calls Try.prog 9 #[.slice pl l.length c] W fun e W' => e = .returned (.bool true) ∧ Below W.heap.size W W' := by
  have hG := hr_rows [(⟨pl, c⟩, .u8, l)] (fun x hx => by
    simp only [List.mem_cons, List.not_mem_nil, or_false] at hx
    subst hx
    exact rl) hgw
  have := law_reach Try.func9 (dp_go l c rl.1 (wf_bs2 wl)) (.inr rfl) (by kernel_rfl) (by kernel_rfl) (by kernel_rfl) hG
  simp only [dpA, List.map_cons, List.map_nil, conc_s0] at this
  exact this
end
end Go.Proofs.Ytpefomdegbmecaa.Am
/- No variable of the package is known: none is read. Conditions: none. -/
namespace Go.Proofs.Ytpefomdegbmecaa.Am
set_option linter.unusedVariables false
set_option linter.unusedSimpArgs false
open Go
instance gt0 : GT := ⟨[]⟩
theorem gw0 {N : Nat} {M : List Nat} {w : World} : GWok N M w := fun x h => by cases h
end Go.Proofs.Ytpefomdegbmecaa.Am
