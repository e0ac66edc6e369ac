/- Plain law: which numbers are a point; a point's bytes; what bytes are read as. Conditions: none. -/
import Derived.Test.YtpefomdegbmecaaZ11
import Derived.Test.YtpefomdegbmecaaRows
import Derived.WalkKit
import Derived.ProofKit
import Derived.OpenShut
import Derived.ChangeOld
import Derived.Below
import Derived.Test.YtpefomdegbmecaaZ10
import Derived.ChangeSlices
import Derived.Test.YtpefomdegbmecaaZ1
set_option linter.unusedSectionVars false
namespace Go.Proofs.Ytpefomdegbmecaa.Am
set_option linter.unusedVariables false
set_option linter.unusedSimpArgs false
open Go
open Pl
set_option linter.unusedSectionVars false
variable [GT]
abbrev T255 : Nat := 57896044618658097711785492504343953926634992332820282019728792003956564819968
theorem pP_255 : pP < T255 := by decide +kernel
theorem numEq_iff {a b : Nat} (ha : a < T256) (hb : b < T256) : numEq a b = true ↔ a = b := by
  unfold numEq
  rw [beq_iff_eq]
  refine ⟨fun h => ?_, fun h => by rw [h]⟩
  have h1 := wdV a
  have h2 := wdV b
  rw [Nat.mod_eq_of_lt ha] at h1
  rw [Nat.mod_eq_of_lt hb] at h2
  rw [← h1, ← h2]
  unfold words at h
  simp only [List.cons.injEq, and_true] at h
  obtain ⟨e0, e1, e2, e3⟩ := h
  simp only [word_wd] at e0 e1 e2 e3
  rw [show wd a 0 = wd b 0 by omega, show wd a 1 = wd b 1 by omega, show wd a 2 = wd b 2 by omega, show wd a 3 = wd b 3 by omega]
theorem numEq_val (f g : F) : numEq f.val g.val = true ↔ f = g := by
  rw [numEq_iff (Nat.lt_trans f.isLt pP_T) (Nat.lt_trans g.isLt pP_T)]
  exact ⟨Fin.ext, fun h => by rw [h]⟩
theorem numEq_self (a : Nat) : numEq a a = true := by unfold numEq; exact beq_self_eq_true _
theorem nLess_val (f : F) : nLess f.val pP = true := by
  unfold nLess
  rw [val_mod, Nat.mod_eq_of_lt pP_T]
  exact decide_eq_true f.isLt
theorem nZero_val (f : F) : nZero f.val = decide (f = 0) := by
  unfold nZero
  rw [val_mod]
  by_cases h : f = 0
  · rw [decide_eq_true h, h]; rfl
  · rw [decide_eq_false h]
    exact decide_eq_false fun e => h (Fin.ext e)
section
variable {R : Type} [Lean.Grind.CommRing R]
theorem good_eq (d x y : R) (h : (-1) * x * x + y * y = 1 + d * x * x * y * y) : y * y - x * x = 1 + d * (x * x) * (y * y) := by grind
theorem on_of (d x y i : R) (hi : (d * (y * y) + 1) * i = 1) (h : x * x = (y * y - 1) * i) : (-1) * x * x + y * y = 1 + d * x * x * y * y := by
  have e : x * x * (d * (y * y) + 1) = y * y - 1 := by
    rw [h]
    generalize d * (y * y) + 1 = u at *
    generalize y * y - 1 = v at *
    grind
  grind
theorem oa_eq (d x y i : R) (hi : (d * (y * y) + 1) * i = 1) (h : (-1) * x * x + y * y = 1 + d * x * x * y * y) : (y * y - 1) * i = x * x := by
  have e : y * y - 1 = x * x * (d * (y * y) + 1) := by grind
  rw [e]
  generalize d * (y * y) + 1 = u at *
  grind
theorem den_eq (d y i j : R) (hj : j * j = -1) (hi : y * i = 1) (h : d * (y * y) + 1 = 0) : (j * i) * (j * i) = d := by
  have e : d * (y * y) = -1 := by grind
  have e2 : (j * i) * (j * i) = (j * j) * (i * i) := by grind
  rw [e2, hj, ← e]
  have e3 : d * (y * y) * (i * i) = d * ((y * i) * (y * i)) := by grind
  rw [e3, hi]
  grind
theorem sub_zero_eq (a : R) : 0 - a = -a := by grind
theorem zero_aux (a : R) : a * (0 * 0) + 1 = 1 := by grind
theorem nn_eq (a : R) : - -a = a := by grind
theorem near_aux'' (a z i : R) (h : z * i = 1) : a * z * i = a := by grind
theorem neg_sq (a : R) : (-a) * (-a) = a * a := by grind
end
theorem neg_neg' (a : F) : - -a = a := nn_eq a
theorem near_aux' (a z i : F) (h : z * i = 1) : a * z * i = a := near_aux'' a z i h
theorem den_ne (y : F) : toF dN * (y * y) + 1 ≠ 0 := by
  intro h
  by_cases hy : y = 0
  · rw [hy] at h
    rw [zero_aux] at h
    exact F_one_ne h
  · exact dN_ns _ (den_eq _ _ _ _ iN_sq (F_mul_inv hy) h)
theorem good_val (P : EP) : nGood P.x.val P.y.val = true := by
  unfold nGood
  rw [nLess_val, nLess_val, nPro_val2, nPro_val2, nSub_val, nFac_val, nPro_val3, ← val_one, nSum_val2, Bool.true_and, Bool.true_and, numEq_val]
  exact good_eq _ _ _ P.on
theorem nOA_val (y : F) : nOA y.val = ((y * y - 1) * Pl.inv (toF dN * (y * y) + 1)).val := by
  unfold nOA
  rw [nPro_val2, nFac_val, nPro_val2, ← val_one, nSub_val, nSum_val2, nInv_val, nPro_val2]
theorem oa_point (P : EP) : nOA P.y.val = (P.x * P.x).val := by
  rw [nOA_val]
  exact congrArg Fin.val (oa_eq _ _ _ _ (F_mul_inv (den_ne P.y)) P.on)
/-! ### Roots -/
theorem nRoot_of {a r : Nat} (h : r < pP ∧ r % 2 = 0 ∧ r * r % pP = a % T256 % pP) : nRoot a = r := by
  have hex : ∃ r : Nat, r < pP ∧ r % 2 = 0 ∧ r * r % pP = a % T256 % pP := ⟨r, h⟩
  unfold nRoot
  rw [dif_pos hex]
  exact root_uni (Nat.mod_lt _ (by decide +kernel)) hex.choose_spec h
def evR (x : F) : F := if x.val % 2 = 0 then x else -x
theorem neg_val {x : F} (h : x.val % 2 = 1) : (-x).val = pP - x.val := by
  rw [Fin.val_neg, if_neg]
  intro e
  rw [e] at h
  exact absurd h (by decide +kernel)
theorem evR_even (x : F) : (evR x).val % 2 = 0 := by
  unfold evR
  split
  · assumption
  · rename_i h
    have := x.isLt
    have ho := pP_odd
    rw [neg_val (by omega)]
    omega
theorem evR_sq (x : F) : evR x * evR x = x * x := by
  unfold evR
  split
  · rfl
  · exact neg_sq x
theorem nRoot_sq (x : F) : nRoot (x * x).val = (evR x).val := nRoot_of ⟨(evR x).isLt, evR_even x, by
  rw [← Fin.val_mul, evR_sq, val_mod, val_modp]⟩
theorem nIsSq_sq (x : F) : nIsSq (x * x).val = true := by
  unfold nIsSq
  exact @decide_eq_true _ (Classical.propDecidable _) ⟨x.val, by rw [← Fin.val_mul, val_mod, val_modp]⟩
theorem nIsSq_ex {a : F} (h : nIsSq a.val = true) : ∃ x : F, x * x = a := by
  unfold nIsSq at h
  obtain ⟨x, hx⟩ := @of_decide_eq_true _ (Classical.propDecidable _) h
  refine ⟨toF x, ?_⟩
  rw [val_mod, val_modp] at hx
  rw [← toF_mul]
  exact Fin.ext (by rw [toF_val]; exact hx)
theorem nSub0_val (x : F) : nSub 0 x.val = (-x).val := by
  have h := nSub_val 0 x
  rw [sub_zero_eq] at h
  exact h
/-! ### Reading -/
theorem yv (N : Nat) (h : N % T255 < pP) : N % T255 = (toF (N % T255)).val := val_of h
theorem rd_cases (N : Nat) (hN : N < T256) : (∃ P : EP, rdV N = ⟨P.x.val, P.y.val, 0⟩ ∧ P.y.val + T255 * (P.x.val % 2) = N) ∨ rdV N = ⟨0, 0, 5⟩ := by
  have hT : T256 = 2 * T255 := by decide +kernel
  unfold rdV
  cases h1 : nLess (N % T255) pP
  · exact .inr (if_pos rfl)
  rw [if_neg (by decide)]
  have hlt : N % T255 < pP := by
    unfold nLess at h1
    have := of_decide_eq_true h1
    rw [Nat.mod_eq_of_lt pP_T, Nat.mod_eq_of_lt (show N % T255 < T256 from Nat.lt_of_le_of_lt (Nat.mod_le _ _) hN)] at this
    exact this
  have hy := yv N hlt
  generalize toF (N % T255) = y at hy
  rw [hy]
  cases h2 : nIsSq (nOA y.val)
  · exact .inr (if_pos rfl)
  rw [if_neg (by decide)]
  rw [nOA_val] at h2
  obtain ⟨r, hr⟩ := nIsSq_ex h2
  have e : nOA y.val = (r * r).val := by rw [nOA_val, ← hr]
  have hon : ∀ s : F, s * s = r * r → (-1) * s * s + y * y = 1 + toF dN * s * s * y * y := fun s hs => on_of _ _ _ _ (F_mul_inv (den_ne y)) (hs.trans hr)
  rw [e, nRoot_sq]
  by_cases h3 : T255 ≤ N
  · rw [if_pos h3]
    rw [nZero_val]
    by_cases h4 : evR r = 0
    · rw [decide_eq_true h4, if_pos rfl]
      exact .inr rfl
    · rw [decide_eq_false h4, if_neg (by decide)]
      refine .inl ⟨⟨-(evR r), y, hon _ (by rw [neg_sq, evR_sq])⟩, by rw [nSub0_val], ?_⟩
      show y.val + T255 * ((-(evR r)).val % 2) = N
      have hne : (evR r).val ≠ 0 := fun e => h4 (Fin.ext e)
      have hv : (-(evR r)).val = pP - (evR r).val := by rw [Fin.val_neg, if_neg h4]
      have := (evR r).isLt
      have he := evR_even r
      have ho := pP_odd
      have hm : N % T255 = N - T255 := by rw [Nat.mod_eq_sub_mod h3, Nat.mod_eq_of_lt (by omega)]
      rw [hv, show (pP - (evR r).val) % 2 = 1 by omega, ← hy, hm]
      omega
  · rw [if_neg h3]
    refine .inl ⟨⟨evR r, y, hon _ (evR_sq r)⟩, rfl, ?_⟩
    show y.val + T255 * ((evR r).val % 2) = N
    have hm : N % T255 = N := Nat.mod_eq_of_lt (by omega)
    rw [evR_even, ← hy, hm, Nat.mul_zero, Nat.add_zero]
/-- The number that a point's bytes are. -/
def ptN (P : EP) : Nat := P.y.val + T255 * (P.x.val % 2)
theorem ptN_lt (P : EP) : ptN P < T256 := by
  have hT : T256 = 2 * T255 := by decide +kernel
  have h1 := P.y.isLt
  have h2 := pP_255
  unfold ptN
  have : P.x.val % 2 ≤ 1 := by omega
  have : T255 * (P.x.val % 2) ≤ T255 * 1 := Nat.mul_le_mul_left _ this
  omega
theorem ptN_y (P : EP) : ptN P % T255 = P.y.val := by
  have h1 := P.y.isLt
  have h2 := pP_255
  unfold ptN
  rw [Nat.add_mul_mod_self_left, Nat.mod_eq_of_lt (Nat.lt_trans h1 h2)]
theorem ptN_x (P : EP) : T255 ≤ ptN P ↔ P.x.val % 2 = 1 := by
  have h1 := P.y.isLt
  have h2 := pP_255
  unfold ptN
  have h3 : P.x.val % 2 = 0 ∨ P.x.val % 2 = 1 := by omega
  rcases h3 with h3 | h3 <;> rw [h3]
  · rw [Nat.mul_zero]; omega
  · rw [Nat.mul_one]; omega
theorem rd_point (P : EP) : rdV (ptN P) = ⟨P.x.val, P.y.val, 0⟩ := by
  unfold rdV
  rw [show (57896044618658097711785492504343953926634992332820282019728792003956564819968 : Nat) = T255 from rfl, ptN_y, nLess_val, if_neg (by decide), oa_point, nIsSq_sq, if_neg (by decide), nRoot_sq, nZero_val]
  by_cases hx : P.x.val % 2 = 1
  · rw [if_pos ((ptN_x P).2 hx)]
    have hxe : evR P.x = -P.x := by unfold evR; rw [if_neg (by omega)]
    have hn : ¬ evR P.x = 0 := by
      rw [hxe]
      intro e
      have h0 := neg_val hx
      rw [e] at h0
      have h1 := P.x.isLt
      have h2 : ((0 : F)).val = 0 := rfl
      omega
    rw [decide_eq_false hn, if_neg (by decide), hxe, nSub0_val, neg_neg' P.x]
  · rw [if_neg fun h => hx ((ptN_x P).1 h)]
    have hxe : evR P.x = P.x := by unfold evR; rw [if_pos (by omega)]
    rw [hxe]
theorem ptN_inj {P Q : EP} (h : ptN P = ptN Q) : P = Q := by
  have h1 := rd_point P
  have h2 := rd_point Q
  rw [h, h2] at h1
  simp only [RV.mk.injEq, and_true] at h1
  exact Pt.ext (Fin.ext h1.1.symm) (Fin.ext h1.2.symm)
/-! ### Bytes -/
theorem byI_leI {l : List Int} (h : is32 l) : byI (leI l) = l := by
  have h1 := bytesOf_le (l.map Int.toNat) fun x hx => by
    obtain ⟨z, hz, rfl⟩ := List.mem_map.1 hx
    have := h.2 z hz
    omega
  rw [List.length_map, h.1] at h1
  have h2 : byI (leI l) = (Pl.bytesOf 32 (leI l)).map fun n : Nat => (n : Int) := by
    unfold byI keyL Pl.bytesOf
    rw [upTo_range, List.map_map, List.map_map, Nat.mod_eq_of_lt (leI_lt h)]
    exact List.map_congr_left fun i _ => by simp only [Function.comp_apply, Nat.zero_add]
  rw [h2, leI_eq, h1, List.map_map]
  refine (List.map_congr_left fun z hz => ?_).trans (List.map_id l)
  have := h.2 z hz
  simp only [Function.comp_apply, id_eq]
  omega
theorem leI_byI (N : Nat) : leI (byI N) = N % T256 := by
  unfold leI
  have : (byI N).map Int.toNat = Pl.bytesOf 32 (N % T256) := by
    unfold byI keyL Pl.bytesOf
    rw [upTo_range, List.map_map, List.map_map]
    exact List.map_congr_left fun i _ => by simp only [Function.comp_apply, Nat.zero_add, Int.toNat_natCast]
  rw [this, le_bytes32 (Nat.mod_lt _ (by decide +kernel))]
theorem byI_32 (N : Nat) : is32 (byI N) := ⟨by unfold byI; rw [keyL_len], isBs_keyL fun i _ => by
  have := byteAt_lt (N % T256) i
  omega⟩
theorem leI_inj {a b : List Int} (ha : is32 a) (hb : is32 b) (h : leI a = leI b) : a = b := by rw [← byI_leI ha, ← byI_leI hb, h]
theorem or128 : ∀ a : Nat, a < 128 → ior .u8 (a : Int) 128 = ((a + 128 : Nat) : Int) ∧ ior .u8 (a : Int) 0 = (a : Int) := by decide +kernel
theorem byteAt_low (y c i : Nat) (h : i < 31) : byteAt (y + 256 ^ 31 * c) i = byteAt y i := by
  unfold byteAt
  rw [show 31 = i + (30 - i + 1) by omega, Nat.pow_add, Nat.mul_assoc, Nat.add_mul_div_left _ _ (Nat.pow_pos (by decide)), Nat.pow_succ, Nat.mul_comm (256 ^ (30 - i)) 256, Nat.mul_assoc, Nat.add_mul_mod_self_left]
theorem byteAt_top (y c : Nat) (hy : y < 256 ^ 31 * 128) (hc : c < 256) : byteAt (y + 256 ^ 31 * c) 31 = (y / 256 ^ 31 + c) % 256 := by
  unfold byteAt
  rw [Nat.add_mul_div_left _ _ (Nat.pow_pos (by decide))]
theorem ptB_eq (x y : Nat) (hy : y < T255) : ptB x y = byI (y + T255 * (x % 2)) := by
  have hT : T255 = 256 ^ 31 * 128 := by decide +kernel
  have hT2 : T256 = 2 * T255 := by decide +kernel
  have hx2 : x % 2 ≤ 1 := by omega
  have hle : T255 * (x % 2) ≤ T255 * 1 := Nat.mul_le_mul_left _ hx2
  have hlt : y + T255 * (x % 2) < T256 := by omega
  have hyl : y < T256 := by omega
  have e1 : y + T255 * (x % 2) = y + 256 ^ 31 * (128 * (x % 2)) := by rw [hT, Nat.mul_assoc]
  have h31 : byteAt y 31 < 128 ∧ byteAt y 31 = y / 256 ^ 31 := by
    unfold byteAt
    rw [hT] at hy
    have : y / 256 ^ 31 < 128 := Nat.div_lt_of_lt_mul hy
    omega
  unfold ptB byI
  rw [Nat.mod_eq_of_lt hyl, Nat.mod_eq_of_lt hlt, keyL_get 32 _ 31 (by decide), keyL_set]
  refine keyL_congr fun i hi => ?_
  rw [setF_eq]
  by_cases h : i = 31
  · subst h
    rw [if_pos rfl, e1, byteAt_top _ _ (by rw [← hT]; exact hy) (by omega), ← h31.2]
    have hw : iand .u64 ((words x).getD 0 0) 1 = ((x % 2 : Nat) : Int) := by
      have hx : (words x).getD 0 0 = ((x % 18446744073709551616 : Nat) : Int) := by
        show word x 0 = _
        unfold word
        rw [Nat.pow_zero, Nat.div_one]
      have := iand_nat (x % 18446744073709551616) 1 (by omega) (by decide)
      rw [show ((1 : Nat) : Int) = 1 from rfl] at this
      rw [hx, this, Nat.and_one_is_mod]
      omega
    rw [hw]
    have h3 : x % 2 = 0 ∨ x % 2 = 1 := by omega
    have h4 := or128 (byteAt y 31) h31.1
    rcases h3 with h3 | h3 <;> rw [h3]
    · have : ishl .u8 (IntKind.wrap .u8 ((0 : Nat) : Int)) 7 = 0 := by decide +kernel
      rw [this, h4.2]
      omega
    · have : ishl .u8 (IntKind.wrap .u8 ((1 : Nat) : Int)) 7 = 128 := by decide +kernel
      rw [this, h4.1]
      omega
  · rw [if_neg h, e1, byteAt_low _ _ _ (by omega)]
theorem ptB_point (P : EP) : ptB P.x.val P.y.val = byI (ptN P) := ptB_eq _ _ (Nat.lt_trans P.y.isLt pP_255)
/-! ### The base -/
def bxN : Nat := 15112221349535400772501151409588531511454012693041857206046113283949847762202
def byN : Nat := 46316835694926478169428394003475163141307993866256225615783033603165251855960
def eB : EP := ⟨toF bxN, toF byN, by decide +kernel⟩
theorem nBy_val : nBy = eB.y.val := by
  unfold nBy
  have e4 : (4 : Nat) = (toF 4).val := val_of (by decide +kernel)
  have e5 : (5 : Nat) = (toF 5).val := val_of (by decide +kernel)
  have h5 : toF 5 ≠ 0 := fun e => absurd (congrArg Fin.val e) (by decide +kernel)
  have h : toF 4 = toF byN * toF 5 := by
    rw [← toF_mul, toF_eq]
    decide +kernel
  calc nPro [4, nInv 5] = nPro [(toF 4).val, nInv (toF 5).val] := by rw [← e4, ← e5]
    _ = (toF byN).val := by
      rw [nInv_val, nPro_val2, h]
      exact congrArg Fin.val (near_aux' _ _ _ (F_mul_inv h5))
theorem nBx_val : nBx = eB.x.val := by
  unfold nBx
  rw [nBy_val, oa_point, nRoot_sq]
  have : evR eB.x = eB.x := by
    unfold evR
    rw [if_pos (by decide +kernel)]
  rw [this]
end Go.Proofs.Ytpefomdegbmecaa.Am
/- Law 09's awake and Pick. Conditions: none. -/
namespace Go.Proofs.Ytpefomdegbmecaa.Am
set_option linter.unusedVariables false
set_option linter.unusedSimpArgs false
open Go Go.RowKit
open Pl (pP T256)
set_option linter.unusedSectionVars false
theorem on_m1' {R : Type} [Lean.Grind.CommRing R] (a d : R) : a * 0 * 0 + (-1) * (-1) = 1 + d * 0 * 0 * (-1) * (-1) := by grind
section
variable [GT]
noncomputable def awO9 : List (Nat × Ent) := [(39, vEnt vnaught), (18, eBytesP), (56, vEnt vbase), (17, vEnt vgood)]
theorem awO9_ok : OOK Try.prog awO9 := ook_of (l := [(39, vEnt vnaught), (18, eBytesP), (56, vEnt vbase), (17, vEnt vgood)]) ⟨naught_ent, eBytesP_ok, base_ent, good_ent, trivial⟩
noncomputable abbrev fAw9 : Func := Try.f15
theorem aw9_run : wholeV tyT awO9 (atH 2 17 (isB true) noH) [] 2000 fAw9 [] = some (ofV (.bool true), [tB (nGood nBx nBy) true]) := by kernel_rfl
def vaw9 : List SV → Option (SV × Asm)
  | [] => some (ofV (.bool true), .tt)
  | _ => none
theorem aw9_ent : EntOK Try.prog 15 (vEnt vaw9) := ok_V awO9_ok Try.func15 (by kernel_rfl) (by kernel_rfl) fun args v p hF hp => by
  unfold vaw9 at hF
  split at hF
  · simp only [Option.some.injEq, Prod.mk.injEq] at hF
    obtain ⟨rfl, rfl⟩ := hF
    exact ⟨_, _, _, _, aw9_run, ⟨tB_iff.2 (by rw [nBx_val, nBy_val]; exact good_val eB), trivial⟩, by kernel_rfl, by kernel_rfl, by kernel_rfl⟩
  · cases hF
noncomputable def pkO : List (Nat × Ent) := [(16, entB [.sl .u8] rdF), (24, e2N nSub), (56, vEnt vbase), (39, vEnt vnaught), (31, eTimes)]
theorem pkO_ok : OOK Try.prog pkO := ook_of (l := [(16, entB [.sl .u8] rdF), (24, e2N nSub), (56, vEnt vbase), (39, vEnt vnaught), (31, eTimes)]) ⟨read_ent, Sub_ent, base_ent, naught_ent, times_ent, trivial⟩
/-- Words that are built are a number's. -/
def tW (l : List Seg) (n : Nat) : Prop := ∀ ρ : Nat → Loc, (SV.av (normNum l)).conc ρ = (SV.av (.one (.num n))).conc ρ
theorem tW_of {l : List Seg} {n : Nat} (h : ∀ ρ, segsVals ρ l = (words n).map (Value.int .u64)) : tW l n := fun ρ => by
  rw [conc_av, normNum_conc, h]
  rfl
theorem drop2 : List.drop 1 (List.drop 1 (words 0)) = [0, 0] := by decide +kernel
theorem drop1 : List.drop 1 (words 0) = [0, 0, 0] := by decide +kernel
theorem tW_2 {a b : Int} {n : Nat} (h : [a, b, 0, 0] = words n) : tW [.v (.int .u64 a), .v (.int .u64 b), .arr .u64 (List.drop 1 (List.drop 1 (words 0)))] n := tW_of fun ρ => by
  rw [drop2, ← h]
  rfl
theorem tW_1 {a : Int} {n : Nat} (h : [a, 0, 0, 0] = words n) : tW [.v (.int .u64 a), .arr .u64 (List.drop 1 (words 0))] n := tW_of fun ρ => by
  rw [drop1, ← h]
  rfl
noncomputable abbrev fPk : Func := Try.f29
def pkE (x y : Nat) : St := { tm := tmL 48 [(2, .av (.one (.p 0 0)))], hp := [(0, ⟨0, 38, [.num x, .num y]⟩)], nx := 1, gl := [] }
theorem pk_0 (κ : Nat → Value) (bf : Nat → Int) : runF tyT pkO (atH 2 1 (isB true) noH) [] 0 [1] [2] fPk (bA [.ag .u8 (keyL 32 bf)] 0 0) (bH κ [.ag .u8 (keyL 32 bf)] 0 0) 0 [] = some ([.fin], pkE 0 1, [tB (Int.tmod (bf 31) 8 == 0) true]) := by kernel_rfl
theorem pk_1 (κ : Nat → Value) (bf : Nat → Int) : runF tyT pkO (atH 2 1 (isB false) (atH 4 1 (isB true) noH)) [] 0 [1] [2] fPk (bA [.ag .u8 (keyL 32 bf)] 0 0) (bH κ [.ag .u8 (keyL 32 bf)] 0 0) 0 [] = some ([.fin], pkE 0 (nSub 0 1), [tB (Int.tmod (bf 31) 8 == 0) false, tB (Int.tmod (bf 31) 8 == 1) true]) := by kernel_rfl
theorem pk_2 (κ : Nat → Value) (bf : Nat → Int) : runF tyT pkO (atH 2 1 (isB false) (atH 4 1 (isB false) (atH 6 1 (isB true) (atH 8 1 (isB true) noH)))) [] 0 [1] [2] fPk (bA [.ag .u8 (keyL 32 bf)] 0 0) (bH κ [.ag .u8 (keyL 32 bf)] 0 0) 0 [] = some ([.fin], pkE (rdV (leI (cutI (List.replicate 32 (0 : Int)) 0 32))).x (rdV (leI (cutI (List.replicate 32 (0 : Int)) 0 32))).y, [tB (Int.tmod (bf 31) 8 == 0) false, tB (Int.tmod (bf 31) 8 == 1) false, tB (Int.tmod (bf 31) 8 == 2) true, 0 + 32 ≤ (List.replicate 32 (0 : Int)).length ∧ 32 ≤ 32, is32 (cutI (List.replicate 32 (0 : Int)) 0 32), tB ((rdV (leI (cutI (List.replicate 32 (0 : Int)) 0 32))).e == 0) true]) := by kernel_rfl
theorem pk_2n (κ : Nat → Value) (bf : Nat → Int) : runF tyT pkO (atH 2 1 (isB false) (atH 4 1 (isB false) (atH 6 1 (isB true) (atH 8 1 (isB false) (atH 14 7 (isN ((bf 0).toNat + 18446744073709551616 * (bf 1).toNat)) noH))))) [] 0 [1] [2] fPk (bA [.ag .u8 (keyL 32 bf)] 0 0) (bH κ [.ag .u8 (keyL 32 bf)] 0 0) 0 [] = some ([.fin], pkE (tmX nBx nBy ((bf 0).toNat + 18446744073709551616 * (bf 1).toNat)) (tmY nBx nBy ((bf 0).toNat + 18446744073709551616 * (bf 1).toNat)), [tB (Int.tmod (bf 31) 8 == 0) false, tB (Int.tmod (bf 31) 8 == 1) false, tB (Int.tmod (bf 31) 8 == 2) true, 0 + 32 ≤ (List.replicate 32 (0 : Int)).length ∧ 32 ≤ 32, is32 (cutI (List.replicate 32 (0 : Int)) 0 32), tB ((rdV (leI (cutI (List.replicate 32 (0 : Int)) 0 32))).e == 0) false, tW [.v (.int .u64 (IntKind.wrap .u64 (bf 0))), .v (.int .u64 (IntKind.wrap .u64 (bf 1))), .arr .u64 (List.drop 1 (List.drop 1 (words 0)))] ((bf 0).toNat + 18446744073709551616 * (bf 1).toNat), True]) := by kernel_rfl
theorem pk_3 (κ : Nat → Value) (bf : Nat → Int) : runF tyT pkO (atH 2 1 (isB false) (atH 4 1 (isB false) (atH 6 1 (isB false) (atH 10 1 (isB true) (atH 12 1 (isB true) noH))))) [] 0 [1] [2] fPk (bA [.ag .u8 (keyL 32 bf)] 0 0) (bH κ [.ag .u8 (keyL 32 bf)] 0 0) 0 [] = some ([.fin], pkE (rdV (leI (cutI (keyL 32 bf) 0 32))).x (rdV (leI (cutI (keyL 32 bf) 0 32))).y, [tB (Int.tmod (bf 31) 8 == 0) false, tB (Int.tmod (bf 31) 8 == 1) false, tB (Int.tmod (bf 31) 8 == 2) false, tB (Int.tmod (bf 31) 8 == 3) true, 0 + 32 ≤ (keyL 32 bf).length ∧ 32 ≤ 32, is32 (cutI (keyL 32 bf) 0 32), tB ((rdV (leI (cutI (keyL 32 bf) 0 32))).e == 0) true]) := by kernel_rfl
theorem pk_3n (κ : Nat → Value) (bf : Nat → Int) : runF tyT pkO (atH 2 1 (isB false) (atH 4 1 (isB false) (atH 6 1 (isB false) (atH 10 1 (isB true) (atH 12 1 (isB false) (atH 14 7 (isN ((bf 0).toNat + 18446744073709551616 * (bf 1).toNat)) noH)))))) [] 0 [1] [2] fPk (bA [.ag .u8 (keyL 32 bf)] 0 0) (bH κ [.ag .u8 (keyL 32 bf)] 0 0) 0 [] = some ([.fin], pkE (tmX nBx nBy ((bf 0).toNat + 18446744073709551616 * (bf 1).toNat)) (tmY nBx nBy ((bf 0).toNat + 18446744073709551616 * (bf 1).toNat)), [tB (Int.tmod (bf 31) 8 == 0) false, tB (Int.tmod (bf 31) 8 == 1) false, tB (Int.tmod (bf 31) 8 == 2) false, tB (Int.tmod (bf 31) 8 == 3) true, 0 + 32 ≤ (keyL 32 bf).length ∧ 32 ≤ 32, is32 (cutI (keyL 32 bf) 0 32), tB ((rdV (leI (cutI (keyL 32 bf) 0 32))).e == 0) false, tW [.v (.int .u64 (IntKind.wrap .u64 (bf 0))), .v (.int .u64 (IntKind.wrap .u64 (bf 1))), .arr .u64 (List.drop 1 (List.drop 1 (words 0)))] ((bf 0).toNat + 18446744073709551616 * (bf 1).toNat), True]) := by kernel_rfl
theorem pk_4 (κ : Nat → Value) (bf : Nat → Int) : runF tyT pkO (atH 2 1 (isB false) (atH 4 1 (isB false) (atH 6 1 (isB false) (atH 10 1 (isB false) (atH 14 7 (isN ((bf 0).toNat + 18446744073709551616 * (bf 1).toNat)) noH))))) [] 0 [1] [2] fPk (bA [.ag .u8 (keyL 32 bf)] 0 0) (bH κ [.ag .u8 (keyL 32 bf)] 0 0) 0 [] = some ([.fin], pkE (tmX nBx nBy ((bf 0).toNat + 18446744073709551616 * (bf 1).toNat)) (tmY nBx nBy ((bf 0).toNat + 18446744073709551616 * (bf 1).toNat)), [tB (Int.tmod (bf 31) 8 == 0) false, tB (Int.tmod (bf 31) 8 == 1) false, tB (Int.tmod (bf 31) 8 == 2) false, tB (Int.tmod (bf 31) 8 == 3) false, tW [.v (.int .u64 (IntKind.wrap .u64 (bf 0))), .v (.int .u64 (IntKind.wrap .u64 (bf 1))), .arr .u64 (List.drop 1 (List.drop 1 (words 0)))] ((bf 0).toNat + 18446744073709551616 * (bf 1).toNat), True]) := by kernel_rfl
theorem on_m1 : eC.a * (0 : Pl.F) * 0 + (-1) * (-1) = 1 + eC.d * (0 : Pl.F) * 0 * (-1) * (-1) := on_m1' _ _
theorem cut_full' {l : List Int} {n : Nat} (h : l.length = n) : cutI l 0 n = l := by rw [← h, cutI_all]
/-- What is picked. -/
noncomputable def pkV (bf : Nat → Int) : Nat × Nat :=
  if Int.tmod (bf 31) 8 = 0 then (0, 1)
  else if Int.tmod (bf 31) 8 = 1 then (0, nSub 0 1)
  else if Int.tmod (bf 31) 8 = 2 ∧ (rdV (leI (List.replicate 32 (0 : Int)))).e = 0 then ((rdV (leI (List.replicate 32 (0 : Int)))).x, (rdV (leI (List.replicate 32 (0 : Int)))).y)
  else if Int.tmod (bf 31) 8 ≠ 2 ∧ Int.tmod (bf 31) 8 = 3 ∧ (rdV (leI (keyL 32 bf))).e = 0 then ((rdV (leI (keyL 32 bf))).x, (rdV (leI (keyL 32 bf))).y)
  else (tmX nBx nBy ((bf 0).toNat + 18446744073709551616 * (bf 1).toNat), tmY nBx nBy ((bf 0).toNat + 18446744073709551616 * (bf 1).toNat))
theorem is32_zero : is32 (List.replicate 32 (0 : Int)) := ⟨rfl, fun z hz => by rw [List.eq_of_mem_replicate hz]; decide⟩
theorem pk_words {bf : Nat → Int} (hb : ∀ i, i < 32 → 0 ≤ bf i ∧ bf i < 256) : [IntKind.wrap .u64 (bf 0), IntKind.wrap .u64 (bf 1), 0, 0] = words ((bf 0).toNat + 18446744073709551616 * (bf 1).toNat) := by
  have h0 := hb 0 (by decide)
  have h1 := hb 1 (by decide)
  unfold words word
  rw [show (18446744073709551616 : Nat) ^ 0 = 1 from rfl, show (18446744073709551616 : Nat) ^ 1 = 18446744073709551616 from rfl, show (18446744073709551616 : Nat) ^ 2 = 340282366920938463463374607431768211456 from by decide +kernel, show (18446744073709551616 : Nat) ^ 3 = 6277101735386680763835789423207666416102355444464034512896 from by decide +kernel, wU h0.1 (by omega), wU h1.1 (by omega)]
  simp only [List.cons.injEq, and_true]
  omega
theorem pk_go (κ : Nat → Value) (bf : Nat → Int) (hb : ∀ i, i < 32 → 0 ≤ bf i ∧ bf i < 256) : FromK Try.prog 0 fPk (bA [.ag .u8 (keyL 32 bf)] 0 0) (bH κ [.ag .u8 (keyL 32 bf)] 0 0) 0 [] [.fin] (pkE (pkV bf).1 (pkV bf).2) := by
  have k32 : is32 (keyL 32 bf) := ⟨keyL_len _ _, isBs_keyL hb⟩
  have hz : cutI (List.replicate 32 (0 : Int)) 0 32 = List.replicate 32 (0 : Int) := cut_full' rfl
  have hk : cutI (keyL 32 bf) 0 32 = keyL 32 bf := cut_full' (keyL_len _ _)
  have hw := tW_2 (pk_words hb)
  have a0 := pk_0 κ bf
  have a1 := pk_1 κ bf
  have a2 := pk_2 κ bf
  have a2n := pk_2n κ bf
  have a3 := pk_3 κ bf
  have a3n := pk_3n κ bf
  have a4 := pk_4 κ bf
  rw [hz] at a2 a2n
  rw [hk] at a3 a3n
  have l32 : 0 + 32 ≤ (List.replicate 32 (0 : Int)).length ∧ 32 ≤ 32 := ⟨by decide, by decide⟩
  have m32 : 0 + 32 ≤ (keyL 32 bf).length ∧ 32 ≤ 32 := ⟨by rw [keyL_len]; decide, by decide⟩
  unfold pkV
  by_cases c0 : Int.tmod (bf 31) 8 = 0
  · rw [if_pos c0]
    dsimp only
    refine FromK.run (m0 := 0) tyT_ok pkO_ok mixed_ a0 ?_
    exact ⟨tB_iff.2 (by rw [c0]; rfl), trivial⟩
  have b0 : (Int.tmod (bf 31) 8 == 0) = false := beq_eq_false_iff_ne.2 c0
  rw [if_neg c0]
  by_cases c1 : Int.tmod (bf 31) 8 = 1
  · rw [if_pos c1]
    dsimp only
    refine FromK.run (m0 := 0) tyT_ok pkO_ok mixed_ a1 ?_
    exact ⟨tB_iff.2 b0, tB_iff.2 (by rw [c1]; rfl), trivial⟩
  have b1 : (Int.tmod (bf 31) 8 == 1) = false := beq_eq_false_iff_ne.2 c1
  rw [if_neg c1]
  by_cases c2 : Int.tmod (bf 31) 8 = 2
  · have b2 : (Int.tmod (bf 31) 8 == 2) = true := by rw [c2]; rfl
    by_cases e2 : (rdV (leI (List.replicate 32 (0 : Int)))).e = 0
    · rw [if_pos ⟨c2, e2⟩]
      dsimp only
      refine FromK.run (m0 := 0) tyT_ok pkO_ok mixed_ a2 ?_
      exact ⟨tB_iff.2 b0, tB_iff.2 b1, tB_iff.2 b2, l32, is32_zero, tB_iff.2 (beq_iff_eq.2 e2), trivial⟩
    · rw [if_neg fun h => e2 h.2, if_neg fun h => h.1 c2]
      dsimp only
      refine FromK.run (m0 := 0) tyT_ok pkO_ok mixed_ a2n ?_
      exact ⟨tB_iff.2 b0, tB_iff.2 b1, tB_iff.2 b2, l32, is32_zero, tB_iff.2 (beq_eq_false_iff_ne.2 e2), hw, trivial, trivial⟩
  have b2 : (Int.tmod (bf 31) 8 == 2) = false := beq_eq_false_iff_ne.2 c2
  rw [if_neg fun h => c2 h.1]
  by_cases c3 : Int.tmod (bf 31) 8 = 3
  · have b3 : (Int.tmod (bf 31) 8 == 3) = true := by rw [c3]; rfl
    by_cases e3 : (rdV (leI (keyL 32 bf))).e = 0
    · rw [if_pos ⟨c2, c3, e3⟩]
      dsimp only
      refine FromK.run (m0 := 0) tyT_ok pkO_ok mixed_ a3 ?_
      exact ⟨tB_iff.2 b0, tB_iff.2 b1, tB_iff.2 b2, tB_iff.2 b3, m32, k32, tB_iff.2 (beq_iff_eq.2 e3), trivial⟩
    · rw [if_neg fun h => e3 h.2.2]
      dsimp only
      refine FromK.run (m0 := 0) tyT_ok pkO_ok mixed_ a3n ?_
      exact ⟨tB_iff.2 b0, tB_iff.2 b1, tB_iff.2 b2, tB_iff.2 b3, m32, k32, tB_iff.2 (beq_eq_false_iff_ne.2 e3), hw, trivial, trivial⟩
  · rw [if_neg fun h => c3 h.2.1]
    dsimp only
    refine FromK.run (m0 := 0) tyT_ok pkO_ok mixed_ a4 ?_
    exact ⟨tB_iff.2 b0, tB_iff.2 b1, tB_iff.2 b2, tB_iff.2 (beq_eq_false_iff_ne.2 c3), hw, trivial, trivial⟩
noncomputable def pkF : List CB → Option BR
  | [.ag .u8 l] => some { pre := is32 l, val := .av (.agg [.num (pkV (g2 l)).1, .num (pkV (g2 l)).2]) }
  | _ => none
theorem g2_32 {l : List Int} (h : is32 l) (i : Nat) (hi : i < 32) : 0 ≤ g2 l i ∧ g2 l i < 256 := by
  have hl : i < l.length := by rw [h.1]; exact hi
  have := h.2 (l[i]) (List.getElem_mem hl)
  unfold g2
  rw [List.getD_eq_getElem?_getD, List.getElem?_eq_getElem hl]
  exact this
theorem pk_ends (cbs : List CB) (r : BR) (hF : pkF cbs = some r) (hp : r.pre) : EndsB Try.prog tyT [] fPk cbs r := by
  unfold pkF at hF
  split at hF
  · rename_i l
    injection hF with hF
    subst hF
    intro κ
    have h := pk_go κ (g2 l) (g2_32 hp)
    rw [keyL_g2 hp.1] at h
    exact ⟨[.fin], _, .av (.agg [.num (pkV (g2 l)).1, .num (pkV (g2 l)).2]), [], .inr rfl, h, by kernel_rfl, by kernel_rfl, by kernel_rfl⟩
  · cases hF
noncomputable def ePick : Ent := entB [.ag .u8] pkF
theorem pick_ent : EntOK Try.prog 29 ePick :=
  ok_B tyT_ok Try.func29 (by kernel_rfl) (by kernel_rfl) [] (fun x hx => by cases hx) (by kernel_rfl) pk_ends
/-- What is picked is a point. -/
theorem pk_point (bf : Nat → Int) (hb : ∀ i, i < 32 → 0 ≤ bf i ∧ bf i < 256) : ∃ P : EP, pkV bf = vP P := by
  have hv : ∀ P : EP, ∀ N : Nat, ∃ Q : EP, (tmX P.x.val P.y.val N, tmY P.x.val P.y.val N) = vP Q := fun P N => ⟨Pl.Pt.mul (N % T256) P, by
    obtain ⟨h1, h2⟩ := tm_point P N
    rw [h1, h2]; rfl⟩
  have hr : ∀ l : List Int, is32 l → (rdV (leI l)).e = 0 → ∃ Q : EP, ((rdV (leI l)).x, (rdV (leI l)).y) = vP Q := fun l hl he => by
    rcases rd_cases (leI l) (leI_lt hl) with ⟨P, h, _⟩ | h
    · exact ⟨P, by rw [h]; rfl⟩
    · rw [h] at he; cases he
  unfold pkV
  split
  · exact ⟨Pl.Pt.O, by unfold vP; rw [show ((Pl.Pt.O : EP).y).val = 1 from val_one]; rfl⟩
  split
  · refine ⟨⟨0, -1, on_m1⟩, ?_⟩
    have h1 := nSub0_val 1
    rw [val_one] at h1
    rw [h1]; rfl
  split
  · rename_i h
    exact hr _ is32_zero h.2
  split
  · rename_i h
    exact hr _ ⟨keyL_len _ _, isBs_keyL hb⟩ h.2.2
  · rw [nBx_val, nBy_val]
    exact hv eB _
end
end Go.Proofs.Ytpefomdegbmecaa.Am
/- Law 09's CurveMinus. Conditions: none. -/
namespace Go.Proofs.Ytpefomdegbmecaa.Am
set_option linter.unusedVariables false
set_option linter.unusedSimpArgs false
open Go Go.RowKit
open Pl (pP T256)
set_option linter.unusedSectionVars false
section
variable [GT]
noncomputable def cmO : List (Nat × Ent) := [(15, vEnt vaw9), (29, ePick), (17, vEnt vgood), (38, vEnt vminusP), (31, eTimes), (35, eAddP), (39, vEnt vnaught)]
theorem cmO_ok : OOK Try.prog cmO := ook_of (l := [(15, vEnt vaw9), (29, ePick), (17, vEnt vgood), (38, vEnt vminusP), (31, eTimes), (35, eAddP), (39, vEnt vnaught)]) ⟨aw9_ent, pick_ent, good_ent, minusP_ent, times_ent, eAddP_ok, naught_ent, trivial⟩
noncomputable abbrev fCM : Func := Try.f8
theorem cm_run (bf : Nat → Int) (n : Nat) : wholeV tyT cmO (atH 5 2 (isN n) (atH 6 1 (isB true) (atH 6 6 (isB true) (atH 6 16 (isB true) (atH 6 28 (isB true) noH))))) [] 4000 fCM [.av (.one (.arr .u8 (keyL 32 bf))), .av (.one (.v (.int .u16 (n : Int))))] = some (ofV (.bool true), [is32 (keyL 32 bf), tW [.v (.int .u64 (IntKind.wrap .u64 (n : Int))), .arr .u64 (List.drop 1 (words 0))] n, tB (nGood (nSub 0 (pkV (g2 (keyL 32 bf))).1) (pkV (g2 (keyL 32 bf))).2) true, tB (numEq (nSub 0 (nSub 0 (pkV (g2 (keyL 32 bf))).1)) ((pkV (g2 (keyL 32 bf))).1) && (numEq ((pkV (g2 (keyL 32 bf))).2) ((pkV (g2 (keyL 32 bf))).2) && true)) true, True, True, tB (numEq (tmX (nSub 0 (pkV (g2 (keyL 32 bf))).1) (pkV (g2 (keyL 32 bf))).2 n) (nSub 0 (tmX (pkV (g2 (keyL 32 bf))).1 (pkV (g2 (keyL 32 bf))).2 n)) && (numEq (tmY (nSub 0 (pkV (g2 (keyL 32 bf))).1) (pkV (g2 (keyL 32 bf))).2 n) (tmY (pkV (g2 (keyL 32 bf))).1 (pkV (g2 (keyL 32 bf))).2 n) && true)) true, True, True, tB (numEq (adX [(tmX (pkV (g2 (keyL 32 bf))).1 (pkV (g2 (keyL 32 bf))).2 n, tmY (pkV (g2 (keyL 32 bf))).1 (pkV (g2 (keyL 32 bf))).2 n), (tmX (nSub 0 (pkV (g2 (keyL 32 bf))).1) (pkV (g2 (keyL 32 bf))).2 n, tmY (nSub 0 (pkV (g2 (keyL 32 bf))).1) (pkV (g2 (keyL 32 bf))).2 n)]) (0) && (numEq (adY [(tmX (pkV (g2 (keyL 32 bf))).1 (pkV (g2 (keyL 32 bf))).2 n, tmY (pkV (g2 (keyL 32 bf))).1 (pkV (g2 (keyL 32 bf))).2 n), (tmX (nSub 0 (pkV (g2 (keyL 32 bf))).1) (pkV (g2 (keyL 32 bf))).2 n, tmY (nSub 0 (pkV (g2 (keyL 32 bf))).1) (pkV (g2 (keyL 32 bf))).2 n)]) (1) && true)) true]) := by kernel_rfl
theorem eqP_self (a b : Nat) : tB (numEq a a && (numEq b b && true)) true := tB_iff.2 (by rw [numEq_self, numEq_self]; rfl)
theorem neg_vx (P : EP) : nSub 0 P.x.val = P.neg.x.val := nSub0_val P.x
theorem one_word {n : Nat} (h : n < 18446744073709551616) : [IntKind.wrap .u64 (n : Int), 0, 0, 0] = words n := by
  unfold words word
  rw [show (18446744073709551616 : Nat) ^ 0 = 1 from rfl, show (18446744073709551616 : Nat) ^ 1 = 18446744073709551616 from rfl, show (18446744073709551616 : Nat) ^ 2 = 340282366920938463463374607431768211456 from by decide +kernel, show (18446744073709551616 : Nat) ^ 3 = 6277101735386680763835789423207666416102355444464034512896 from by decide +kernel, wU (by omega) (by omega)]
  simp only [List.cons.injEq, and_true]
  omega
theorem wf_bs {bs : List Int} (hw : ∀ z ∈ bs, (Lit.int .u8 z).wf = true) : isBs bs := fun z hz => by
  have := bounds_u8 (hw z hz)
  constructor <;> omega
theorem lawCurveMinus_fact (bs : List Int) (hl : bs.length = 32) (hw : ∀ z ∈ bs, (Lit.int .u8 z).wf = true) (n : Int) (hn : (Lit.int .u16 n).wf = true) (w : World) (hgw : GWok w.heap.size [] w) : Calls Try.prog 8 #[.agg (bs.map (Value.int .u8)).toArray, .int .u16 n] w fun e w' => e = .returned (.bool true) ∧ Below w.heap.size w w' := by
  have h32 : is32 bs := ⟨hl, wf_bs hw⟩
  have hn' : 0 ≤ n ∧ n < 65536 := by
    have h := hn
    simp [Lit.wf, IntKind.min, IntKind.max, IntKind.signed, IntKind.bits] at h
    omega
  obtain ⟨m, rfl⟩ : ∃ m : Nat, n = m := ⟨n.toNat, by omega⟩
  obtain ⟨P, hP⟩ := pk_point (g2 bs) (g2_32 h32)
  have hk : m % T256 = m := Nat.mod_eq_of_lt (Nat.lt_of_lt_of_le (show m < 65536 by omega) (by decide +kernel))
  have hrun := cm_run (g2 bs) m
  rw [keyL_g2 hl, hP] at hrun
  have t1 := tm_point P m
  have t2 := tm_point P.neg m
  rw [hk] at t1 t2
  have e2 : (P.neg).y.val = P.y.val := rfl
  rw [e2] at t2
  have e3 : P.neg.neg = P := Pl.Pt.neg_neg P
  have e4 := Pl.Pt.mul_neg P m
  have hv : vP P = (P.x.val, P.y.val) := rfl
  rw [hv] at hrun
  simp only [neg_vx, t1, t2, e3, e4] at hrun
  have e5 : nSub 0 P.neg.x.val = P.x.val := by
    have := neg_vx P.neg
    rw [e3] at this
    exact this
  have e6 : nSub 0 (Pl.Pt.mul m P).x.val = (Pl.Pt.mul m P).neg.x.val := neg_vx _
  have e7 : (Pl.Pt.mul m P).neg.y.val = (Pl.Pt.mul m P).y.val := rfl
  have ha := ad_point [Pl.Pt.mul m P, (Pl.Pt.mul m P).neg]
  have hs : sumP Pl.Pt.O [Pl.Pt.mul m P, (Pl.Pt.mul m P).neg] = Pl.Pt.O := by
    rw [sum2, Pl.Pt.add_neg]
  rw [hs] at ha
  have ha1 : adX [((Pl.Pt.mul m P).x.val, (Pl.Pt.mul m P).y.val), ((Pl.Pt.mul m P).neg.x.val, (Pl.Pt.mul m P).y.val)] = 0 := ha.1
  have ha2 : adY [((Pl.Pt.mul m P).x.val, (Pl.Pt.mul m P).y.val), ((Pl.Pt.mul m P).neg.x.val, (Pl.Pt.mul m P).y.val)] = 1 := ha.2.trans val_one
  simp only [e5, e6, e7, ha1, ha2] at hrun
  have := am_val tyT_ok cmO_ok mixed_ Try.func8 (by kernel_rfl) hrun (by
    refine ⟨h32, tW_1 (one_word (by omega)), tB_iff.2 (good_val P.neg), eqP_self _ _, trivial, trivial, eqP_self _ _, trivial, trivial, eqP_self _ _, trivial⟩) (by kernel_rfl) (by kernel_rfl) (fun _ => ⟨none, 0⟩) w hgw
  exact this
end
end Go.Proofs.Ytpefomdegbmecaa.Am
/- Opening arrays of bytes, and rows of them, at a law's call. Conditions: none. -/
set_option maxRecDepth 100000
namespace Go.Proofs.Ytpefomdegbmecaa
set_option linter.unusedVariables false
set_option linter.unusedSimpArgs false
open Go Go.ChangeShapes Go.WideShapes Go.ChangeAt Go.RowKit

theorem own_ : ownKnob Try.prog.godebug = none := by kernel_rfl
theorem laidOut_ : laidOutB Try.prog = true := by kernel_rfl
theorem ints_of {k : IntKind} : ∀ l : List Value, (∀ i, i < l.length → ∃ z, l[i]? = some (.int k z) ∧ (Lit.int k z).wf = true) → ∃ bs : List Int, l = bs.map (Value.int k) ∧ ∀ z ∈ bs, (Lit.int k z).wf = true
  | [], _ => ⟨[], rfl, by simp⟩
  | x :: l, h => by
    obtain ⟨z, hz, hw⟩ := h 0 (by simp)
    obtain ⟨bs, hb, hbw⟩ := ints_of l fun i hi => by
      obtain ⟨z, hz, hw⟩ := h (i + 1) (by simp; omega)
      exact ⟨z, by simpa using hz, hw⟩
    simp only [List.getElem?_cons_zero, Option.some.injEq] at hz
    subst hz
    refine ⟨z :: bs, by rw [hb]; rfl, fun y hy => ?_⟩
    rcases List.mem_cons.1 hy with rfl | hy
    · exact hw
    · exact hbw y hy
/-- An array of integers that comes in. -/
theorem open_arr {H : Type} {enc : TypeId × Value → H} {W : World} {base : Nat} {b0 : Nat} {spare : Nat → Bool} {held : Bool} {v : Value} {d : DataW H} {ps : List MemPlace} {t e : TypeId} {n : Nat} {k : IntKind}
    (ht : Try.prog.underlying t = some (.array n e)) (he : Try.prog.underlying e = some (.int k)) (hct : Try.prog.cellsOf t = n) (hce : Try.prog.cellsOf e = 1)
    (hval : Value.okWide Try.prog W .any b0 t v) (h : DataW.Trod enc Try.prog W base spare held t v d ps) :
    ∃ bs : List Int, bs.length = n ∧ (∀ z ∈ bs, (Lit.int k z).wf = true) ∧ v = .agg (bs.map (Value.int k)).toArray := by
  obtain ⟨cs, rfl, hsz, _⟩ : ∃ cs, v = .agg cs ∧ cs.size = Try.prog.cellsOf t ∧ Row.okWide Try.prog W .any b0 t cs := by
    simpa [Value.okWide, ht] using hval
  rw [hct] at hsz
  obtain ⟨fuel, hf⟩ := h
  obtain ⟨xs, m, _, _, hl, hxs, hel⟩ := DataW.trod_array ht hf
  obtain ⟨l⟩ := cs
  have hl' : l.length = n := hsz
  have hc : (Value.agg ⟨l⟩).cells.toList = l := rfl
  obtain ⟨bs, hb, hw⟩ := ints_of (k := k) l fun i hi => by
    have := hel i (by omega)
    rw [hc, hce, Nat.mul_one, List.getElem?_eq_getElem (by omega)] at this
    obtain ⟨z, hz, _, hzw⟩ := DataW.trod_int he this
    refine ⟨z, ?_, hzw⟩
    have h2 := congrArg (fun q => q[0]?) hz
    simpa [List.getElem?_take, List.getElem?_drop] using h2
  exact ⟨bs, by rw [hb] at hl'; simpa using hl', hw, by rw [hb]⟩

/-- What is known of a row of integers that came in. -/
def IsRow (k : IntKind) (w : World) (a : Option Addr) (len cap : Nat) (zs : List Int) : Prop :=
  (a = none ∧ len = 0 ∧ cap = 0 ∧ zs = []) ∨
  ∃ x, a = some x ∧ len ≤ cap ∧ cap ≤ maxLen ∧ zs.length = cap ∧ (∀ i, i < zs.length → w.cell? (x.add i) = some (.int k (zs.getD i 0))) ∧ ∀ n ∈ zs, (Lit.int k n).wf = true

end Go.Proofs.Ytpefomdegbmecaa
/- Opening slices of integers at a law's call, as the machine takes them; and a law's call. Conditions: none. -/
set_option maxRecDepth 100000
namespace Go.Proofs.Ytpefomdegbmecaa
set_option linter.unusedVariables false
set_option linter.unusedSimpArgs false
open Go Go.ChangeShapes Go.WideShapes Go.ChangeAt Go.RowKit

theorem has_lt {P : Program} {w : World} {r : Reach} {base : Nat} {a : Addr} {e : TypeId} {n : Nat} (h : w.has P r base a e n) : a.block < w.heap.size := by
  obtain ⟨_, _, row, cells, hs, _⟩ := h
  unfold World.shape? at hs
  split at hs
  · rename_i hb
    exact (Array.getElem?_eq_some_iff.1 hb).1
  all_goals first | cases hs | (rename_i hb; exact (Array.getElem?_eq_some_iff.1 hb).1)
/-- A slice of integers that comes in. -/
theorem open_sl {H : Type} {enc : TypeId × Value → H} {W : World} {base : Nat} {b0 : Nat} {spare : Nat → Bool} {held : Bool} {v : Value} {d : DataW H} {ps : List MemPlace} {t e : TypeId} {k : IntKind}
    (ht : Try.prog.underlying t = some (.slice e)) (he : Try.prog.underlying e = some (.int k)) (hce : Try.prog.cellsOf e = 1)
    (hval : Value.okWide Try.prog W .any b0 t v) (h : DataW.Trod enc Try.prog W base spare held t v d ps) :
    ∃ a cap, ∃ zs : List Int, v = .slice a zs.length cap ∧ Am.RowAt W ⟨a, cap⟩ k zs ∧ ∀ z ∈ zs, (Lit.int k z).wf = true := by
  obtain ⟨a, len, cap, rfl⟩ := okWide_slice ht hval
  have hlt : ∀ x, a = some x → x.block < W.heap.size := fun x hx => by
    subst hx
    simp only [Value.okWide, ht, Cell.okWide, Cell.ok] at hval
    exact has_lt hval.2.2
  obtain ⟨fuel, hf⟩ := h
  rcases open_ints ht he hce hf with ⟨hcs, _⟩ | ⟨x, l, c, zs, hcs, _, hl, hm, hz, _, hcell, hwz⟩
  · simp [Value.cells] at hcs
    obtain ⟨rfl, rfl, rfl⟩ := hcs
    exact ⟨none, 0, [], rfl, ⟨Nat.le_refl _, .inl rfl, fun x hx => by cases hx⟩, by simp⟩
  · simp [Value.cells] at hcs
    obtain ⟨rfl, rfl, rfl⟩ := hcs
    have hzl : len ≤ zs.length := by rw [hz]; split <;> omega
    have hlen : (zs.take len).length = len := by rw [List.length_take]; omega
    refine ⟨some x, cap, zs.take len, by rw [hlen], ⟨by rw [hlen]; exact hl, .inr ⟨x, rfl, fun j u hj => ?_⟩, hlt⟩, fun z hz' => hwz z (List.mem_of_mem_take hz')⟩
    have hjl : j < len := by
      have := (List.getElem?_eq_some_iff.1 hj).1
      rw [List.length_map, hlen] at this; exact this
    rw [List.getElem?_map, List.getElem?_take, if_pos hjl, List.getElem?_eq_getElem (by omega)] at hj
    simp only [Option.map_some, Option.some.injEq] at hj
    subst hj
    have := hcell j (by omega)
    simpa [List.getD_eq_getElem?_getD, List.getElem?_eq_getElem (show j < zs.length by omega)] using this
end Go.Proofs.Ytpefomdegbmecaa
namespace Go.Proofs.Ytpefomdegbmecaa.Am
open Go Go.RowKit
variable [GT]
omit [GT] in
/-- Rows that come in, as blocks to be read. -/
def rowsH : List (Loc × IntKind × List Int) → Nat → List (Nat × Blk)
  | [], _ => []
  | (_, k, zs) :: l, n => (n, ⟨2, 0, [.arr k zs]⟩) :: rowsH l (n + 1)
omit [GT] in
theorem rowsH_spec : ∀ (l : List (Loc × IntKind × List Int)) (n i : Nat) (b : Blk), look (rowsH l n) i = some b → n ≤ i ∧ i < n + l.length ∧ ∃ x, l[i - n]? = some x ∧ b = ⟨2, 0, [.arr x.2.1 x.2.2]⟩
  | [], n, i, b, h => by cases h
  | (g, k, zs) :: l, n, i, b, h => by
    simp only [rowsH, look_cons] at h
    by_cases hi : n = i
    · subst hi
      rw [if_pos rfl] at h
      injection h with h
      subst h
      exact ⟨Nat.le_refl _, by simp, (g, k, zs), by simp, rfl⟩
    · rw [if_neg hi] at h
      obtain ⟨h1, h2, x, hx, hb⟩ := rowsH_spec l (n + 1) i b h
      refine ⟨by omega, by simp only [List.length_cons]; omega, x, ?_, hb⟩
      rw [show i - n = (i - (n + 1)) + 1 by omega, List.getElem?_cons_succ]
      exact hx
theorem hr_rows {w : World} (l : List (Loc × IntKind × List Int)) (h : ∀ x ∈ l, RowAt w x.1 x.2.1 x.2.2) (hgw : GWok w.heap.size [] w) : HR (fun i => (l.map (·.1)).getD i ⟨none, 0⟩) (· < l.length) w.heap.size [] (look (rowsH l 0)) w := by
  have hall : ∀ i b, look (rowsH l 0) i = some b → i < l.length ∧ ∃ k zs, b = ⟨2, 0, [.arr k zs]⟩ ∧ RowAt w ((l.map (·.1)).getD i ⟨none, 0⟩) k zs := fun i b hb => by
    obtain ⟨_, h2, x, hx, rfl⟩ := rowsH_spec _ _ _ _ hb
    rw [Nat.sub_zero] at hx
    refine ⟨by omega, _, _, rfl, ?_⟩
    have e : (l.map (·.1)).getD i ⟨none, 0⟩ = x.1 := by simp [List.getD_eq_getElem?_getD, hx]
    rw [e]
    exact h x (List.mem_of_getElem? hx)
  refine ⟨Nat.le_refl _, fun i b hb => ?_, fun i b x hb hx => ?_, fun i b x hb hk hx => ?_, fun i j bi bj x y hi hj hij hk hx hy => ?_, hgw⟩
  · obtain ⟨h2, k, zs, rfl, h3, h4, _⟩ := hall i b hb
    refine ⟨h2, fun s hs => (by simp at hs; subst hs; trivial), ?_⟩
    show (segsVals _ _).length ≤ _ ∧ _
    rw [segsVals_one]
    refine ⟨by simpa [Seg.vals] using h3, ?_⟩
    rcases h4 with rfl | h4
    · exact .inl rfl
    · exact .inr h4
  · obtain ⟨_, k, zs, rfl, _, _, h5⟩ := hall i b hb
    exact h5 x hx
  · obtain ⟨_, k, zs, rfl, _⟩ := hall i b hb
    simp at hk
  · obtain ⟨_, k, zs, rfl, _⟩ := hall i bi hi
    simp at hk
/-- A law's run that ends in true. -/
theorem law_reach {f : FuncId} {fn : Func} (hf : Try.prog.funcs[f]? = some fn) {avs : List SV} {hp : List (Nat × Blk)} {k : Nat} {todo : List AI} {st : St} (hR : From Try.prog fn avs hp k [] todo st) (hfin : todo = [] ∨ todo = [.fin]) (hv : resVal tyT st fn.results.toList = some (ofV (.bool true))) (hlen : Nat.ble avs.length fn.ntmps = true) (hin : avs.all (svB fun i => Nat.blt i k) = true) {ρc : Nat → Loc} {w : World} (hG : HR ρc (· < k) w.heap.size [] (look hp) w) :
    Calls Try.prog f (avs.map (SV.conc ρc)).toArray w fun e w' => e = .returned (.bool true) ∧ Below w.heap.size w w' := by
  obtain ⟨c, hc, hRe⟩ := hR
  exact reach_val tyT_ok hf hc hfin hRe hv (by rfl) hlen (fun s hs => svB_in (f := fun i => Nat.blt i k) (fun i h => Nat.le_of_ble_eq_true h) (List.all_eq_true.1 hin s hs)) hG (fun _ => ⟨none, 0⟩)
omit [GT] in
theorem conc_s0 {ρ : Nat → Loc} {i n cap : Nat} : SV.conc ρ (.av (.one (.s i 0 n cap))) = .slice (ρ i).a n cap := by
  simp only [SV.conc, AV.conc, Seg.conc]
  cases (ρ i).a <;> simp [Addr.add]
end Go.Proofs.Ytpefomdegbmecaa.Am
/- Strings of bytes: equal only where the bytes are (plain law). Conditions: none. -/
namespace Go.Proofs.Ytpefomdegbmecaa.Am
set_option linter.unusedVariables false
set_option linter.unusedSimpArgs false
open Go
theorem loop_eq (b : ByteArray) : ∀ (n i : Nat) (r : List UInt8), b.size - i = n → ByteArray.toList.loop b i r = r.reverse ++ b.data.toList.drop i
  | 0, i, r, h => by
    rw [ByteArray.toList.loop, if_neg (by omega), List.drop_eq_nil_of_le (by have : b.data.toList.length = b.size := rfl; omega), List.append_nil]
  | n + 1, i, r, h => by
    have hi : i < b.size := by omega
    rw [ByteArray.toList.loop, if_pos hi, loop_eq b n (i + 1) _ (by omega), List.reverse_cons, List.append_assoc]
    congr 1
    have hl : i < b.data.toList.length := hi
    rw [List.drop_eq_getElem_cons hl]
    simp [ByteArray.get!, hi]
theorem toList_eq (b : ByteArray) : b.toList = b.data.toList := by
  unfold ByteArray.toList
  rw [loop_eq b _ 0 [] rfl]
  rfl
theorem strOf_inj {a b : List Int} (ha : isBs a) (hb : isBs b) (h : (strOf a).toList = (strOf b).toList) : a = b := by
  rw [toList_eq, toList_eq] at h
  have h2 : a.map (fun z => UInt8.ofNat z.toNat) = b.map fun z => UInt8.ofNat z.toNat := h
  have h3 : ∀ {l : List Int}, isBs l → (l.map fun z => UInt8.ofNat z.toNat).map (fun u => (u.toNat : Int)) = l := fun {l} hl => by
    rw [List.map_map]
    refine (List.map_congr_left fun z hz => ?_).trans (List.map_id l)
    have := hl z hz
    show ((UInt8.ofNat z.toNat).toNat : Int) = z
    have e : (UInt8.ofNat z.toNat).toNat = z.toNat % 256 := rfl
    rw [e]
    omega
  rw [← h3 ha, h2, h3 hb]
end Go.Proofs.Ytpefomdegbmecaa.Am
/- Law 09's CurveReads. Conditions: none. -/
namespace Go.Proofs.Ytpefomdegbmecaa.Am
set_option linter.unusedVariables false
set_option linter.unusedSimpArgs false
open Go Go.RowKit
open Pl (pP T256)
set_option linter.unusedSectionVars false
open Pl (byteAt)
section
variable [GT]
noncomputable def drO : List (Nat × Ent) := [(24, e2N nSub), (23, eLN 36 nPro), (25, e1N nInv)]
theorem drO_ok : OOK Try.prog drO := ook_of (l := [(24, e2N nSub), (23, eLN 36 nPro), (25, e1N nInv)]) ⟨Sub_ent, Mul_ent, Inverse_ent, trivial⟩
noncomputable def eDd : Ent := inl tyT drO noH [] 2000 Try.f27 []
theorem eDd_ok : EntOK Try.prog 27 eDd := inl_ok tyT_ok drO_ok mixed_ Try.func27 (by kernel_rfl) (by kernel_rfl) []
noncomputable def crO3 : List (Nat × Ent) := [(15, vEnt vaw9), (16, entB [.sl .u8] rdF3)]
theorem crO3_ok : OOK Try.prog crO3 := ook_of (l := [(15, vEnt vaw9), (16, entB [.sl .u8] rdF3)]) ⟨aw9_ent, read3_ent, trivial⟩
noncomputable def crO : List (Nat × Ent) := [(15, vEnt vaw9), (16, entB [.sl .u8] rdF), (17, vEnt vgood), (18, eBytesP), (19, entB [.sl .u8] (nE is32 leI 0)), (27, eDd), (24, e2N nSub), (26, eLN 36 nSum), (23, eLN 36 nPro), (25, e1N nInv), (22, eRoot), (20, e2B nLess), (21, e0N pP), (28, e1B nZero)]
theorem crO_ok : OOK Try.prog crO := ook_of (l := [(15, vEnt vaw9), (16, entB [.sl .u8] rdF), (17, vEnt vgood), (18, eBytesP), (19, entB [.sl .u8] (nE is32 leI 0)), (27, eDd), (24, e2N nSub), (26, eLN 36 nSum), (23, eLN 36 nPro), (25, e1N nInv), (22, eRoot), (20, e2B nLess), (21, e0N pP), (28, e1B nZero)]) ⟨aw9_ent, read_ent, good_ent, eBytesP_ok, of_ent, eDd_ok, Sub_ent, Add_ent, Mul_ent, Inverse_ent, Root_ent, Less_ent, Prime_ent, Zero_ent, trivial⟩
noncomputable abbrev fCR : Func := Try.f5
def crA (l : List Int) (c : Nat) : List SV := [.av (.one (.s 0 0 l.length c))]
def crP (l : List Int) : List (Nat × Blk) := [(0, ⟨2, 0, [.arr .u8 l]⟩)]
def crA2 (c : Nat) : List SV := [.av (.one (.s 0 0 32 c))]
def crE (l : List Int) : St := { tm := tmL 104 [(2, ofV (.bool true))], hp := crP l, nx := 1, gl := [] }
/-- A hint: the value is a point's. -/
def isP (x y : Nat) : Hint := { is := some (.av (.agg [.num x, .num y])) }
def tP (a b x y : Nat) : Prop := ∀ ρ : Nat → Loc, (SV.av (.agg [.num a, .num b])).conc ρ = (SV.av (.agg [.num x, .num y])).conc ρ
theorem tP_of {a b x y : Nat} (h : a = x) (k : b = y) : tP a b x y := fun ρ => by rw [h, k]
theorem cr_long (l : List Int) (c : Nat) : runF tyT crO3 (atH 1 6 (isB true) noH) [] 1 [] [2] fCR (crA l c) (crP l) 1 [] = some ([.fin], crE l, [tB (decide ((l.length : Int) > 100)) true]) := by kernel_rfl
theorem cr_len (l : List Int) (c : Nat) : runF tyT crO3 (atH 1 6 (isB false) (atH 4 2 (isB true) noH)) [] 1 [] [2] fCR (crA l c) (crP l) 1 [] = some ([.fin], crE l, [tB (decide ((l.length : Int) > 100)) false, 0 + l.length ≤ l.length ∧ l.length ≤ c, (cutI l 0 l.length).length ≠ 32 ∧ (cutI l 0 l.length).length ≤ 1048576, tB ((l.length : Int) != 32) true]) := by kernel_rfl
theorem cr_ok (bf : Nat → Int) (c : Nat) : runF tyT crO (atH 3 4 (isI .i64 0) (atH 7 2 (isB true) (atH 7 8 (isB true) noH))) [] 1 [] [2] fCR (crA2 c) (crP (keyL 32 bf)) 1 [] = some ([.fin], crE (keyL 32 bf), [0 + 32 ≤ (keyL 32 bf).length ∧ 32 ≤ c, is32 (cutI (keyL 32 bf) 0 32), tI .i64 (rdV (leI (cutI (keyL 32 bf) 0 32))).e 0, tB (nGood (rdV (leI (cutI (keyL 32 bf) 0 32))).x (rdV (leI (cutI (keyL 32 bf) 0 32))).y) true, tB ((strOf (ptB (rdV (leI (cutI (keyL 32 bf) 0 32))).x (rdV (leI (cutI (keyL 32 bf) 0 32))).y ++ [])).toList == (strOf (keyL 32 bf ++ [])).toList) true]) := by kernel_rfl
theorem cr_big (bf : Nat → Int) (c : Nat) : runF tyT crO (atH 3 3 (isP 0 0) (atH 3 4 (isI .i64 5) (atH 14 3 (isB true) noH))) [] 1 [] [2] fCR (crA2 c) (crP (keyL 32 bf)) 1 [] = some ([.fin], crE (keyL 32 bf), [0 + 32 ≤ (keyL 32 bf).length ∧ 32 ≤ c, is32 (cutI (keyL 32 bf) 0 32), tP (rdV (leI (cutI (keyL 32 bf) 0 32))).x (rdV (leI (cutI (keyL 32 bf) 0 32))).y 0 0, tI .i64 (rdV (leI (cutI (keyL 32 bf) 0 32))).e 5, 0 + 32 ≤ ((keyL 32 bf).set 31 (Int.tmod (bf 31) 128)).length, is32 (cutI ((keyL 32 bf).set 31 (Int.tmod (bf 31) 128)) 0 32), tB (!nLess (leI (cutI ((keyL 32 bf).set 31 (Int.tmod (bf 31) 128)) 0 32)) pP) true]) := by kernel_rfl
theorem cr_none (bf : Nat → Int) (c : Nat) : runF tyT crO (atH 3 3 (isP 0 0) (atH 3 4 (isI .i64 5) (atH 14 3 (isB false) (atH 17 2 (isB true) noH)))) [] 1 [] [2] fCR (crA2 c) (crP (keyL 32 bf)) 1 [] = some ([.fin], crE (keyL 32 bf), [0 + 32 ≤ (keyL 32 bf).length ∧ 32 ≤ c, is32 (cutI (keyL 32 bf) 0 32), tP (rdV (leI (cutI (keyL 32 bf) 0 32))).x (rdV (leI (cutI (keyL 32 bf) 0 32))).y 0 0, tI .i64 (rdV (leI (cutI (keyL 32 bf) 0 32))).e 5, 0 + 32 ≤ ((keyL 32 bf).set 31 (Int.tmod (bf 31) 128)).length, is32 (cutI ((keyL 32 bf).set 31 (Int.tmod (bf 31) 128)) 0 32), tB (!nLess (leI (cutI ((keyL 32 bf).set 31 (Int.tmod (bf 31) 128)) 0 32)) pP) false, tB (!nIsSq (nPro [nSub (nPro [(leI (cutI ((keyL 32 bf).set 31 (Int.tmod (bf 31) 128)) 0 32)), (leI (cutI ((keyL 32 bf).set 31 (Int.tmod (bf 31) 128)) 0 32))]) 1, nInv (nSum [nPro [nFac, (leI (cutI ((keyL 32 bf).set 31 (Int.tmod (bf 31) 128)) 0 32)), (leI (cutI ((keyL 32 bf).set 31 (Int.tmod (bf 31) 128)) 0 32))], 1])])) true]) := by kernel_rfl
theorem cr_zero (bf : Nat → Int) (c : Nat) : runF tyT crO (atH 3 3 (isP 0 0) (atH 3 4 (isI .i64 5) (atH 9 3 (isB true) (atH 14 3 (isB false) (atH 17 2 (isB false) (atH 17 6 (isB true) noH)))))) [] 1 [] [2] fCR (crA2 c) (crP (keyL 32 bf)) 1 [] = some ([.fin], crE (keyL 32 bf), [0 + 32 ≤ (keyL 32 bf).length ∧ 32 ≤ c, is32 (cutI (keyL 32 bf) 0 32), tP (rdV (leI (cutI (keyL 32 bf) 0 32))).x (rdV (leI (cutI (keyL 32 bf) 0 32))).y 0 0, tI .i64 (rdV (leI (cutI (keyL 32 bf) 0 32))).e 5, tB (decide (bf 31 > 127)) true, 0 + 32 ≤ ((keyL 32 bf).set 31 (Int.tmod (bf 31) 128)).length, is32 (cutI ((keyL 32 bf).set 31 (Int.tmod (bf 31) 128)) 0 32), tB (!nLess (leI (cutI ((keyL 32 bf).set 31 (Int.tmod (bf 31) 128)) 0 32)) pP) false, tB (!nIsSq (nPro [nSub (nPro [(leI (cutI ((keyL 32 bf).set 31 (Int.tmod (bf 31) 128)) 0 32)), (leI (cutI ((keyL 32 bf).set 31 (Int.tmod (bf 31) 128)) 0 32))]) 1, nInv (nSum [nPro [nFac, (leI (cutI ((keyL 32 bf).set 31 (Int.tmod (bf 31) 128)) 0 32)), (leI (cutI ((keyL 32 bf).set 31 (Int.tmod (bf 31) 128)) 0 32))], 1])])) false, tB (nZero (nRoot (nPro [nSub (nPro [(leI (cutI ((keyL 32 bf).set 31 (Int.tmod (bf 31) 128)) 0 32)), (leI (cutI ((keyL 32 bf).set 31 (Int.tmod (bf 31) 128)) 0 32))]) 1, nInv (nSum [nPro [nFac, (leI (cutI ((keyL 32 bf).set 31 (Int.tmod (bf 31) 128)) 0 32)), (leI (cutI ((keyL 32 bf).set 31 (Int.tmod (bf 31) 128)) 0 32))], 1])]))) true]) := by kernel_rfl
theorem nPro3 (a b : Nat) : nPro [a, b, b] = nPro [a, nPro [b, b]] := by
  show a % T256 * (b % T256) * (b % T256) % pP = a % T256 * ((b % T256 * (b % T256) % pP) % T256) % pP
  rw [Nat.mod_eq_of_lt (Nat.lt_trans (Nat.mod_lt (b % T256 * (b % T256)) (by decide +kernel)) pP_T), Nat.mul_mod_mod, Nat.mul_assoc]
theorem nOA_eq (n : Nat) : nPro [nSub (nPro [n, n]) 1, nInv (nSum [nPro [nFac, n, n], 1])] = nOA n := by
  unfold nOA
  rw [nPro3]
theorem rd_fail {N : Nat} (h : rdV N = ⟨0, 0, 5⟩) : nLess (N % T255) pP = false ∨ nIsSq (nOA (N % T255)) = false ∨ (T255 ≤ N ∧ nZero (nRoot (nOA (N % T255))) = true) := by
  have he := congrArg RV.e h
  unfold rdV at he
  split at he
  · rename_i h1
    exact .inl h1
  split at he
  · rename_i h1
    exact .inr (.inl h1)
  split at he
  · rename_i h1
    split at he
    · rename_i h2
      exact .inr (.inr ⟨h1, h2⟩)
    · cases he
  · cases he
theorem low_byte {l : List Int} (h : is32 l) : l.set 31 (Int.tmod (g2 l 31) 128) = byI (leI l % T255) ∧ (g2 l 31 > 127 ↔ T255 ≤ leI l) := by
  have hN := leI_lt h
  have hl := byI_leI h
  have hT : T255 = 256 ^ 31 * 128 := by decide +kernel
  have hT2 : T256 = 256 ^ 31 * 256 := by decide +kernel
  generalize leI l = N at *
  subst hl
  have hg : g2 (byI N) 31 = (byteAt N 31 : Nat) := by
    unfold g2 byI
    rw [keyL_get 32 _ 31 (by decide), Nat.mod_eq_of_lt hN]
  have h31 : byteAt N 31 = N / 256 ^ 31 ∧ N / 256 ^ 31 < 256 := by
    have : N / 256 ^ 31 < 256 := Nat.div_lt_of_lt_mul (by rw [← hT2]; exact hN)
    unfold byteAt
    omega
  constructor
  · rw [hg]
    unfold byI
    rw [Nat.mod_eq_of_lt hN, Nat.mod_eq_of_lt (Nat.lt_of_le_of_lt (Nat.mod_le _ _) hN), keyL_set]
    refine keyL_congr fun i hi => ?_
    rw [setF_eq]
    by_cases h : i = 31
    · subst h
      rw [if_pos rfl]
      have e : byteAt (N % T255) 31 = N / 256 ^ 31 % 128 % 256 := by
        unfold byteAt
        rw [hT, Nat.mod_mul_right_div_self]
      rw [e, h31.1, Int.tmod_eq_emod_of_nonneg (by omega)]
      omega
    · rw [if_neg h]
      have e := byteAt_low (N % T255) (128 * (N / T255)) i (by omega)
      rw [← Nat.mul_assoc, ← hT, Nat.mod_add_div] at e
      rw [e]
  · rw [hg, h31.1, hT, gt_iff_lt]
    constructor
    · intro h
      have h2 : 128 ≤ N / 256 ^ 31 := by omega
      have := (Nat.le_div_iff_mul_le (Nat.pow_pos (by decide))).1 h2
      omega
    · intro h
      have := (Nat.le_div_iff_mul_le (x := 128) (y := N) (k := 256 ^ 31) (Nat.pow_pos (by decide))).2 (by omega)
      omega
theorem cr_go (l : List Int) (c : Nat) (hc : l.length ≤ c) (hb : isBs l) : From Try.prog fCR (crA l c) (crP l) 1 [] [.fin] (crE l) := by
  by_cases h1 : l.length ≤ 100
  · by_cases h2 : l.length = 32
    · have h32 : is32 l := ⟨h2, hb⟩
      have hN := leI_lt h32
      obtain ⟨hy, ho⟩ := low_byte h32
      have hk := keyL_g2 h2
      have ea : crA l c = crA2 c := by unfold crA crA2; rw [h2]
      have cf : cutI l 0 32 = l := cut_full' h2
      have a0 : 0 + 32 ≤ l.length ∧ 32 ≤ c := by omega
      rw [ea]
      rcases rd_cases (leI l) hN with ⟨P, hP, hn⟩ | hP
      · have hrun := cr_ok (g2 l) c
        rw [hk, cf, hP] at hrun
        refine From.run tyT_ok crO_ok mixed_ hrun ⟨a0, h32, tI_iff.2 rfl, tB_iff.2 (good_val P), tB_iff.2 ?_, trivial⟩
        have e : ptB P.x.val P.y.val = l := by
          rw [ptB_point, show ptN P = leI l from hn, byI_leI h32]
        dsimp only
        rw [e]
        exact beq_self_eq_true _
      · have r1 := cr_big (g2 l) c
        have r2 := cr_none (g2 l) c
        have r3 := cr_zero (g2 l) c
        have hyl : 0 + 32 ≤ (byI (leI l % T255)).length := by rw [(byI_32 _).1]; decide
        have cy : cutI (byI (leI l % T255)) 0 32 = byI (leI l % T255) := cut_full' (byI_32 _).1
        have hlN : leI (byI (leI l % T255)) = leI l % T255 := by rw [leI_byI, Nat.mod_eq_of_lt (Nat.lt_of_le_of_lt (Nat.mod_le _ _) hN)]
        rw [hk, cf, hP, hy, cy, hlN] at r1
        rw [hk, cf, hP, hy, cy, hlN, nOA_eq] at r2
        rw [hk, cf, hP, hy, cy, hlN, nOA_eq] at r3
        have hf := rd_fail hP
        cases c1 : nLess (leI l % T255) pP
        · exact From.run tyT_ok crO_ok mixed_ r1 ⟨a0, h32, tP_of rfl rfl, tI_iff.2 rfl, hyl, byI_32 _, tB_iff.2 (by rw [c1]; rfl), trivial⟩
        · cases c2 : nIsSq (nOA (leI l % T255))
          · exact From.run tyT_ok crO_ok mixed_ r2 ⟨a0, h32, tP_of rfl rfl, tI_iff.2 rfl, hyl, byI_32 _, tB_iff.2 (by rw [c1]; rfl), tB_iff.2 (by rw [c2]; rfl), trivial⟩
          · rw [c1, c2] at hf
            have hz := (hf.resolve_left (by decide)).resolve_left (by decide)
            exact From.run tyT_ok crO_ok mixed_ r3 ⟨a0, h32, tP_of rfl rfl, tI_iff.2 rfl, tB_iff.2 (decide_eq_true (ho.2 hz.1)), hyl, byI_32 _, tB_iff.2 (by rw [c1]; rfl), tB_iff.2 (by rw [c2]; rfl), tB_iff.2 hz.2, trivial⟩
    · have hrun := cr_len l c
      rw [cutI_all] at hrun
      exact From.run tyT_ok crO3_ok mixed_ hrun ⟨tB_ngt.2 (by omega), by omega, ⟨h2, by omega⟩, tB_iff.2 (by
        simp only [bne_iff_ne, ne_eq]
        omega), trivial⟩
  · exact From.run tyT_ok crO3_ok mixed_ (cr_long l c) ⟨tB_gt.2 (by omega), trivial⟩
theorem lawCurveReads_fact (pl : Option Addr) (c : Nat) (l : List Int) {W : World} (hgw : GWok W.heap.size [] W) (rl : RowAt W ⟨pl, c⟩ .u8 l) (wl : ∀ z ∈ l, (Lit.int .u8 z).wf = true) : Calls Try.prog 5 #[.slice pl l.length c] W fun e W' => e = .returned (.bool true) ∧ Below W.heap.size W W' := by
  have hG := hr_rows [(⟨pl, c⟩, .u8, l)] (fun x hx => by
    simp only [List.mem_cons, List.not_mem_nil, or_false] at hx
    subst hx
    exact rl) hgw
  have := law_reach Try.func5 (cr_go l c rl.1 (wf_bs wl)) (.inr rfl) (by kernel_rfl) (by kernel_rfl) (by kernel_rfl) hG
  simp only [crA, List.map_cons, List.map_nil, conc_s0] at this
  exact this
end
end Go.Proofs.Ytpefomdegbmecaa.Am
/- No variable of the package is known: none is read. Conditions: none. -/
namespace Go.Proofs.Ytpefomdegbmecaa.Am
set_option linter.unusedVariables false
set_option linter.unusedSimpArgs false
open Go
instance gt0 : GT := ⟨[]⟩
theorem gw0 {N : Nat} {M : List Nat} {w : World} : GWok N M w := fun x h => by cases h
end Go.Proofs.Ytpefomdegbmecaa.Am
