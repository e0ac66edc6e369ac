/- Law 09's awake and Pick. Conditions: none. -/
import Derived.Test.YtgeldhdijochdaaZ11
import Derived.Test.YtgeldhdijochdaaZ1
import Derived.Test.YtgeldhdijochdaaRows
import Derived.WalkKit
import Derived.ProofKit
import Derived.OpenShut
import Derived.ChangeOld
import Derived.Below
import Derived.Test.YtgeldhdijochdaaZ10
import Derived.ChangeSlices
set_option linter.unusedSectionVars false
namespace Go.Proofs.Ytgeldhdijochdaa.Am
set_option linter.unusedVariables false
set_option linter.unusedSimpArgs false
open Go Go.RowKit
open Pl (pP T256)
set_option linter.unusedSectionVars false
theorem on_m1' {R : Type} [Lean.Grind.CommRing R] (a d : R) : a * 0 * 0 + (-1) * (-1) = 1 + d * 0 * 0 * (-1) * (-1) := by grind
section
variable [GT]
noncomputable def awO9 : List (Nat × Ent) := [(19, vEnt vnaught), (14, eBytesP), (20, vEnt vbase), (30, vEnt vgood)]
theorem awO9_ok : OOK Try.prog awO9 := ook_of (l := [(19, vEnt vnaught), (14, eBytesP), (20, vEnt vbase), (30, vEnt vgood)]) ⟨naught_ent, eBytesP_ok, base_ent, good_ent, trivial⟩
noncomputable abbrev fAw9 : Func := Try.f10
theorem aw9_run : wholeV tyT awO9 (atH 2 17 (isB true) noH) [] 2000 fAw9 [] = some (ofV (.bool true), [tB (nGood nBx nBy) true]) := by kernel_rfl
def vaw9 : List SV → Option (SV × Asm)
  | [] => some (ofV (.bool true), .tt)
  | _ => none
theorem aw9_ent : EntOK Try.prog 10 (vEnt vaw9) := ok_V awO9_ok Try.func10 (by kernel_rfl) (by kernel_rfl) fun args v p hF hp => by
  unfold vaw9 at hF
  split at hF
  · simp only [Option.some.injEq, Prod.mk.injEq] at hF
    obtain ⟨rfl, rfl⟩ := hF
    exact ⟨_, _, _, _, aw9_run, ⟨tB_iff.2 (by rw [nBx_val, nBy_val]; exact good_val eB), trivial⟩, by kernel_rfl, by kernel_rfl, by kernel_rfl⟩
  · cases hF
noncomputable def pkO : List (Nat × Ent) := [(15, entB [.sl .u8] rdF), (23, e2N nSub), (20, vEnt vbase), (19, vEnt vnaught), (13, eTimes)]
theorem pkO_ok : OOK Try.prog pkO := ook_of (l := [(15, entB [.sl .u8] rdF), (23, e2N nSub), (20, vEnt vbase), (19, vEnt vnaught), (13, eTimes)]) ⟨read_ent, Sub_ent, base_ent, naught_ent, times_ent, trivial⟩
/-- Words that are built are a number's. -/
def tW (l : List Seg) (n : Nat) : Prop := ∀ ρ : Nat → Loc, (SV.av (normNum l)).conc ρ = (SV.av (.one (.num n))).conc ρ
theorem tW_of {l : List Seg} {n : Nat} (h : ∀ ρ, segsVals ρ l = (words n).map (Value.int .u64)) : tW l n := fun ρ => by
  rw [conc_av, normNum_conc, h]
  rfl
theorem drop2 : List.drop 1 (List.drop 1 (words 0)) = [0, 0] := by decide +kernel
theorem drop1 : List.drop 1 (words 0) = [0, 0, 0] := by decide +kernel
theorem tW_2 {a b : Int} {n : Nat} (h : [a, b, 0, 0] = words n) : tW [.v (.int .u64 a), .v (.int .u64 b), .arr .u64 (List.drop 1 (List.drop 1 (words 0)))] n := tW_of fun ρ => by
  rw [drop2, ← h]
  rfl
theorem tW_1 {a : Int} {n : Nat} (h : [a, 0, 0, 0] = words n) : tW [.v (.int .u64 a), .arr .u64 (List.drop 1 (words 0))] n := tW_of fun ρ => by
  rw [drop1, ← h]
  rfl
noncomputable abbrev fPk : Func := Try.f11
def pkE (x y : Nat) : St := { tm := tmL 48 [(2, .av (.one (.p 0 0)))], hp := [(0, ⟨0, 28, [.num x, .num y]⟩)], nx := 1, gl := [] }
theorem pk_0 (κ : Nat → Value) (bf : Nat → Int) : runF tyT pkO (atH 2 1 (isB true) noH) [] 0 [1] [2] fPk (bA [.ag .u8 (keyL 32 bf)] 0 0) (bH κ [.ag .u8 (keyL 32 bf)] 0 0) 0 [] = some ([.fin], pkE 0 1, [tB (Int.tmod (bf 31) 8 == 0) true]) := by kernel_rfl
theorem pk_1 (κ : Nat → Value) (bf : Nat → Int) : runF tyT pkO (atH 2 1 (isB false) (atH 4 1 (isB true) noH)) [] 0 [1] [2] fPk (bA [.ag .u8 (keyL 32 bf)] 0 0) (bH κ [.ag .u8 (keyL 32 bf)] 0 0) 0 [] = some ([.fin], pkE 0 (nSub 0 1), [tB (Int.tmod (bf 31) 8 == 0) false, tB (Int.tmod (bf 31) 8 == 1) true]) := by kernel_rfl
theorem pk_2 (κ : Nat → Value) (bf : Nat → Int) : runF tyT pkO (atH 2 1 (isB false) (atH 4 1 (isB false) (atH 6 1 (isB true) (atH 8 1 (isB true) noH)))) [] 0 [1] [2] fPk (bA [.ag .u8 (keyL 32 bf)] 0 0) (bH κ [.ag .u8 (keyL 32 bf)] 0 0) 0 [] = some ([.fin], pkE (rdV (leI (cutI (List.replicate 32 (0 : Int)) 0 32))).x (rdV (leI (cutI (List.replicate 32 (0 : Int)) 0 32))).y, [tB (Int.tmod (bf 31) 8 == 0) false, tB (Int.tmod (bf 31) 8 == 1) false, tB (Int.tmod (bf 31) 8 == 2) true, 0 + 32 ≤ (List.replicate 32 (0 : Int)).length ∧ 32 ≤ 32, is32 (cutI (List.replicate 32 (0 : Int)) 0 32), tB ((rdV (leI (cutI (List.replicate 32 (0 : Int)) 0 32))).e == 0) true]) := by kernel_rfl
theorem pk_2n (κ : Nat → Value) (bf : Nat → Int) : runF tyT pkO (atH 2 1 (isB false) (atH 4 1 (isB false) (atH 6 1 (isB true) (atH 8 1 (isB false) (atH 14 7 (isN ((bf 0).toNat + 18446744073709551616 * (bf 1).toNat)) noH))))) [] 0 [1] [2] fPk (bA [.ag .u8 (keyL 32 bf)] 0 0) (bH κ [.ag .u8 (keyL 32 bf)] 0 0) 0 [] = some ([.fin], pkE (tmX nBx nBy ((bf 0).toNat + 18446744073709551616 * (bf 1).toNat)) (tmY nBx nBy ((bf 0).toNat + 18446744073709551616 * (bf 1).toNat)), [tB (Int.tmod (bf 31) 8 == 0) false, tB (Int.tmod (bf 31) 8 == 1) false, tB (Int.tmod (bf 31) 8 == 2) true, 0 + 32 ≤ (List.replicate 32 (0 : Int)).length ∧ 32 ≤ 32, is32 (cutI (List.replicate 32 (0 : Int)) 0 32), tB ((rdV (leI (cutI (List.replicate 32 (0 : Int)) 0 32))).e == 0) false, tW [.v (.int .u64 (IntKind.wrap .u64 (bf 0))), .v (.int .u64 (IntKind.wrap .u64 (bf 1))), .arr .u64 (List.drop 1 (List.drop 1 (words 0)))] ((bf 0).toNat + 18446744073709551616 * (bf 1).toNat), True]) := by kernel_rfl
theorem pk_3 (κ : Nat → Value) (bf : Nat → Int) : runF tyT pkO (atH 2 1 (isB false) (atH 4 1 (isB false) (atH 6 1 (isB false) (atH 10 1 (isB true) (atH 12 1 (isB true) noH))))) [] 0 [1] [2] fPk (bA [.ag .u8 (keyL 32 bf)] 0 0) (bH κ [.ag .u8 (keyL 32 bf)] 0 0) 0 [] = some ([.fin], pkE (rdV (leI (cutI (keyL 32 bf) 0 32))).x (rdV (leI (cutI (keyL 32 bf) 0 32))).y, [tB (Int.tmod (bf 31) 8 == 0) false, tB (Int.tmod (bf 31) 8 == 1) false, tB (Int.tmod (bf 31) 8 == 2) false, tB (Int.tmod (bf 31) 8 == 3) true, 0 + 32 ≤ (keyL 32 bf).length ∧ 32 ≤ 32, is32 (cutI (keyL 32 bf) 0 32), tB ((rdV (leI (cutI (keyL 32 bf) 0 32))).e == 0) true]) := by kernel_rfl
theorem pk_3n (κ : Nat → Value) (bf : Nat → Int) : runF tyT pkO (atH 2 1 (isB false) (atH 4 1 (isB false) (atH 6 1 (isB false) (atH 10 1 (isB true) (atH 12 1 (isB false) (atH 14 7 (isN ((bf 0).toNat + 18446744073709551616 * (bf 1).toNat)) noH)))))) [] 0 [1] [2] fPk (bA [.ag .u8 (keyL 32 bf)] 0 0) (bH κ [.ag .u8 (keyL 32 bf)] 0 0) 0 [] = some ([.fin], pkE (tmX nBx nBy ((bf 0).toNat + 18446744073709551616 * (bf 1).toNat)) (tmY nBx nBy ((bf 0).toNat + 18446744073709551616 * (bf 1).toNat)), [tB (Int.tmod (bf 31) 8 == 0) false, tB (Int.tmod (bf 31) 8 == 1) false, tB (Int.tmod (bf 31) 8 == 2) false, tB (Int.tmod (bf 31) 8 == 3) true, 0 + 32 ≤ (keyL 32 bf).length ∧ 32 ≤ 32, is32 (cutI (keyL 32 bf) 0 32), tB ((rdV (leI (cutI (keyL 32 bf) 0 32))).e == 0) false, tW [.v (.int .u64 (IntKind.wrap .u64 (bf 0))), .v (.int .u64 (IntKind.wrap .u64 (bf 1))), .arr .u64 (List.drop 1 (List.drop 1 (words 0)))] ((bf 0).toNat + 18446744073709551616 * (bf 1).toNat), True]) := by kernel_rfl
theorem pk_4 (κ : Nat → Value) (bf : Nat → Int) : runF tyT pkO (atH 2 1 (isB false) (atH 4 1 (isB false) (atH 6 1 (isB false) (atH 10 1 (isB false) (atH 14 7 (isN ((bf 0).toNat + 18446744073709551616 * (bf 1).toNat)) noH))))) [] 0 [1] [2] fPk (bA [.ag .u8 (keyL 32 bf)] 0 0) (bH κ [.ag .u8 (keyL 32 bf)] 0 0) 0 [] = some ([.fin], pkE (tmX nBx nBy ((bf 0).toNat + 18446744073709551616 * (bf 1).toNat)) (tmY nBx nBy ((bf 0).toNat + 18446744073709551616 * (bf 1).toNat)), [tB (Int.tmod (bf 31) 8 == 0) false, tB (Int.tmod (bf 31) 8 == 1) false, tB (Int.tmod (bf 31) 8 == 2) false, tB (Int.tmod (bf 31) 8 == 3) false, tW [.v (.int .u64 (IntKind.wrap .u64 (bf 0))), .v (.int .u64 (IntKind.wrap .u64 (bf 1))), .arr .u64 (List.drop 1 (List.drop 1 (words 0)))] ((bf 0).toNat + 18446744073709551616 * (bf 1).toNat), True]) := by kernel_rfl
theorem on_m1 : eC.a * (0 : Pl.F) * 0 + (-1) * (-1) = 1 + eC.d * (0 : Pl.F) * 0 * (-1) * (-1) := on_m1' _ _
theorem cut_full' {l : List Int} {n : Nat} (h : l.length = n) : cutI l 0 n = l := by rw [← h, cutI_all]
/-- What is picked. -/
noncomputable def pkV (bf : Nat → Int) : Nat × Nat :=
  if Int.tmod (bf 31) 8 = 0 then (0, 1)
  else if Int.tmod (bf 31) 8 = 1 then (0, nSub 0 1)
  else if Int.tmod (bf 31) 8 = 2 ∧ (rdV (leI (List.replicate 32 (0 : Int)))).e = 0 then ((rdV (leI (List.replicate 32 (0 : Int)))).x, (rdV (leI (List.replicate 32 (0 : Int)))).y)
  else if Int.tmod (bf 31) 8 ≠ 2 ∧ Int.tmod (bf 31) 8 = 3 ∧ (rdV (leI (keyL 32 bf))).e = 0 then ((rdV (leI (keyL 32 bf))).x, (rdV (leI (keyL 32 bf))).y)
  else (tmX nBx nBy ((bf 0).toNat + 18446744073709551616 * (bf 1).toNat), tmY nBx nBy ((bf 0).toNat + 18446744073709551616 * (bf 1).toNat))
theorem is32_zero : is32 (List.replicate 32 (0 : Int)) := ⟨rfl, fun z hz => by rw [List.eq_of_mem_replicate hz]; decide⟩
theorem pk_words {bf : Nat → Int} (hb : ∀ i, i < 32 → 0 ≤ bf i ∧ bf i < 256) : [IntKind.wrap .u64 (bf 0), IntKind.wrap .u64 (bf 1), 0, 0] = words ((bf 0).toNat + 18446744073709551616 * (bf 1).toNat) := by
  have h0 := hb 0 (by decide)
  have h1 := hb 1 (by decide)
  unfold words word
  rw [show (18446744073709551616 : Nat) ^ 0 = 1 from rfl, show (18446744073709551616 : Nat) ^ 1 = 18446744073709551616 from rfl, show (18446744073709551616 : Nat) ^ 2 = 340282366920938463463374607431768211456 from by decide +kernel, show (18446744073709551616 : Nat) ^ 3 = 6277101735386680763835789423207666416102355444464034512896 from by decide +kernel, wU h0.1 (by omega), wU h1.1 (by omega)]
  simp only [List.cons.injEq, and_true]
  omega
theorem pk_go (κ : Nat → Value) (bf : Nat → Int) (hb : ∀ i, i < 32 → 0 ≤ bf i ∧ bf i < 256) : FromK Try.prog 0 fPk (bA [.ag .u8 (keyL 32 bf)] 0 0) (bH κ [.ag .u8 (keyL 32 bf)] 0 0) 0 [] [.fin] (pkE (pkV bf).1 (pkV bf).2) := by
  have k32 : is32 (keyL 32 bf) := ⟨keyL_len _ _, isBs_keyL hb⟩
  have hz : cutI (List.replicate 32 (0 : Int)) 0 32 = List.replicate 32 (0 : Int) := cut_full' rfl
  have hk : cutI (keyL 32 bf) 0 32 = keyL 32 bf := cut_full' (keyL_len _ _)
  have hw := tW_2 (pk_words hb)
  have a0 := pk_0 κ bf
  have a1 := pk_1 κ bf
  have a2 := pk_2 κ bf
  have a2n := pk_2n κ bf
  have a3 := pk_3 κ bf
  have a3n := pk_3n κ bf
  have a4 := pk_4 κ bf
  rw [hz] at a2 a2n
  rw [hk] at a3 a3n
  have l32 : 0 + 32 ≤ (List.replicate 32 (0 : Int)).length ∧ 32 ≤ 32 := ⟨by decide, by decide⟩
  have m32 : 0 + 32 ≤ (keyL 32 bf).length ∧ 32 ≤ 32 := ⟨by rw [keyL_len]; decide, by decide⟩
  unfold pkV
  by_cases c0 : Int.tmod (bf 31) 8 = 0
  · rw [if_pos c0]
    dsimp only
    refine FromK.run (m0 := 0) tyT_ok pkO_ok mixed_ a0 ?_
    exact ⟨tB_iff.2 (by rw [c0]; rfl), trivial⟩
  have b0 : (Int.tmod (bf 31) 8 == 0) = false := beq_eq_false_iff_ne.2 c0
  rw [if_neg c0]
  by_cases c1 : Int.tmod (bf 31) 8 = 1
  · rw [if_pos c1]
    dsimp only
    refine FromK.run (m0 := 0) tyT_ok pkO_ok mixed_ a1 ?_
    exact ⟨tB_iff.2 b0, tB_iff.2 (by rw [c1]; rfl), trivial⟩
  have b1 : (Int.tmod (bf 31) 8 == 1) = false := beq_eq_false_iff_ne.2 c1
  rw [if_neg c1]
  by_cases c2 : Int.tmod (bf 31) 8 = 2
  · have b2 : (Int.tmod (bf 31) 8 == 2) = true := by rw [c2]; rfl
    by_cases e2 : (rdV (leI (List.replicate 32 (0 : Int)))).e = 0
    · rw [if_pos ⟨c2, e2⟩]
      dsimp only
      refine FromK.run (m0 := 0) tyT_ok pkO_ok mixed_ a2 ?_
      exact ⟨tB_iff.2 b0, tB_iff.2 b1, tB_iff.2 b2, l32, is32_zero, tB_iff.2 (beq_iff_eq.2 e2), trivial⟩
    · rw [if_neg fun h => e2 h.2, if_neg fun h => h.1 c2]
      dsimp only
      refine FromK.run (m0 := 0) tyT_ok pkO_ok mixed_ a2n ?_
      exact ⟨tB_iff.2 b0, tB_iff.2 b1, tB_iff.2 b2, l32, is32_zero, tB_iff.2 (beq_eq_false_iff_ne.2 e2), hw, trivial, trivial⟩
  have b2 : (Int.tmod (bf 31) 8 == 2) = false := beq_eq_false_iff_ne.2 c2
  rw [if_neg fun h => c2 h.1]
  by_cases c3 : Int.tmod (bf 31) 8 = 3
  · have b3 : (Int.tmod (bf 31) 8 == 3) = true := by rw [c3]; rfl
    by_cases e3 : (rdV (leI (keyL 32 bf))).e = 0
    · rw [if_pos ⟨c2, c3, e3⟩]
      dsimp only
      refine FromK.run (m0 := 0) tyT_ok pkO_ok mixed_ a3 ?_
      exact ⟨tB_iff.2 b0, tB_iff.2 b1, tB_iff.2 b2, tB_iff.2 b3, m32, k32, tB_iff.2 (beq_iff_eq.2 e3), trivial⟩
    · rw [if_neg fun h => e3 h.2.2]
      dsimp only
      refine FromK.run (m0 := 0) tyT_ok pkO_ok mixed_ a3n ?_
      exact ⟨tB_iff.2 b0, tB_iff.2 b1, tB_iff.2 b2, tB_iff.2 b3, m32, k32, tB_iff.2 (beq_eq_false_iff_ne.2 e3), hw, trivial, trivial⟩
  · rw [if_neg fun h => c3 h.2.1]
    dsimp only
    refine FromK.run (m0 := 0) tyT_ok pkO_ok mixed_ a4 ?_
    exact ⟨tB_iff.2 b0, tB_iff.2 b1, tB_iff.2 b2, tB_iff.2 (beq_eq_false_iff_ne.2 c3), hw, trivial, trivial⟩
noncomputable def pkF : List CB → Option BR
  | [.ag .u8 l] => some { pre := is32 l, val := .av (.agg [.num (pkV (g2 l)).1, .num (pkV (g2 l)).2]) }
  | _ => none
theorem g2_32 {l : List Int} (h : is32 l) (i : Nat) (hi : i < 32) : 0 ≤ g2 l i ∧ g2 l i < 256 := by
  have hl : i < l.length := by rw [h.1]; exact hi
  have := h.2 (l[i]) (List.getElem_mem hl)
  unfold g2
  rw [List.getD_eq_getElem?_getD, List.getElem?_eq_getElem hl]
  exact this
theorem pk_ends (cbs : List CB) (r : BR) (hF : pkF cbs = some r) (hp : r.pre) : EndsB Try.prog tyT [] fPk cbs r := by
  unfold pkF at hF
  split at hF
  · rename_i l
    injection hF with hF
    subst hF
    intro κ
    have h := pk_go κ (g2 l) (g2_32 hp)
    rw [keyL_g2 hp.1] at h
    exact ⟨[.fin], _, .av (.agg [.num (pkV (g2 l)).1, .num (pkV (g2 l)).2]), [], .inr rfl, h, by kernel_rfl, by kernel_rfl, by kernel_rfl⟩
  · cases hF
noncomputable def ePick : Ent := entB [.ag .u8] pkF
theorem pick_ent : EntOK Try.prog 11 ePick :=
  ok_B tyT_ok Try.func11 (by kernel_rfl) (by kernel_rfl) [] (fun x hx => by cases hx) (by kernel_rfl) pk_ends
/-- What is picked is a point. -/
theorem pk_point (bf : Nat → Int) (hb : ∀ i, i < 32 → 0 ≤ bf i ∧ bf i < 256) : ∃ P : EP, pkV bf = vP P := by
  have hv : ∀ P : EP, ∀ N : Nat, ∃ Q : EP, (tmX P.x.val P.y.val N, tmY P.x.val P.y.val N) = vP Q := fun P N => ⟨Pl.Pt.mul (N % T256) P, by
    obtain ⟨h1, h2⟩ := tm_point P N
    rw [h1, h2]; rfl⟩
  have hr : ∀ l : List Int, is32 l → (rdV (leI l)).e = 0 → ∃ Q : EP, ((rdV (leI l)).x, (rdV (leI l)).y) = vP Q := fun l hl he => by
    rcases rd_cases (leI l) (leI_lt hl) with ⟨P, h, _⟩ | h
    · exact ⟨P, by rw [h]; rfl⟩
    · rw [h] at he; cases he
  unfold pkV
  split
  · exact ⟨Pl.Pt.O, by unfold vP; rw [show ((Pl.Pt.O : EP).y).val = 1 from val_one]; rfl⟩
  split
  · refine ⟨⟨0, -1, on_m1⟩, ?_⟩
    have h1 := nSub0_val 1
    rw [val_one] at h1
    rw [h1]; rfl
  split
  · rename_i h
    exact hr _ is32_zero h.2
  split
  · rename_i h
    exact hr _ ⟨keyL_len _ _, isBs_keyL hb⟩ h.2.2
  · rw [nBx_val, nBy_val]
    exact hv eB _
end
end Go.Proofs.Ytgeldhdijochdaa.Am
/- Law 09's CurveTwice and CurveOrders. Conditions: none. -/
namespace Go.Proofs.Ytgeldhdijochdaa.Am
set_option linter.unusedVariables false
set_option linter.unusedSimpArgs false
open Go Go.RowKit
open Pl (pP T256)
set_option linter.unusedSectionVars false
section
variable [GT]
theorem eqP_self (a b : Nat) : tB (numEq a a && (numEq b b && true)) true := tB_iff.2 (by rw [numEq_self, numEq_self]; rfl)
theorem neP_self (a b : Nat) : tB (!(numEq a a && (numEq b b && true))) false := tB_iff.2 (by rw [numEq_self, numEq_self]; rfl)
theorem one_word {n : Nat} (h : n < 18446744073709551616) : [IntKind.wrap .u64 (n : Int), 0, 0, 0] = words n := by
  unfold words word
  rw [show (18446744073709551616 : Nat) ^ 0 = 1 from rfl, show (18446744073709551616 : Nat) ^ 1 = 18446744073709551616 from rfl, show (18446744073709551616 : Nat) ^ 2 = 340282366920938463463374607431768211456 from by decide +kernel, show (18446744073709551616 : Nat) ^ 3 = 6277101735386680763835789423207666416102355444464034512896 from by decide +kernel, wU (by omega) (by omega)]
  simp only [List.cons.injEq, and_true]
  omega
theorem wf_bs {bs : List Int} (hw : ∀ z ∈ bs, (Lit.int .u8 z).wf = true) : isBs bs := fun z hz => by
  have := bounds_u8 (hw z hz)
  constructor <;> omega
theorem wf_u16 {n : Int} (hn : (Lit.int .u16 n).wf = true) : 0 ≤ n ∧ n < 65536 := by
  have h := hn
  simp [Lit.wf, IntKind.min, IntKind.max, IntKind.signed, IntKind.bits] at h
  omega
theorem ad2 (P Q : EP) : adX [(P.x.val, P.y.val), (Q.x.val, Q.y.val)] = (P + Q).x.val ∧ adY [(P.x.val, P.y.val), (Q.x.val, Q.y.val)] = (P + Q).y.val := by
  have h := ad_point [P, Q]
  rw [sum2] at h
  exact h
theorem ad3 (P Q S : EP) : adX [(P.x.val, P.y.val), (Q.x.val, Q.y.val), (S.x.val, S.y.val)] = (P + Q + S).x.val ∧ adY [(P.x.val, P.y.val), (Q.x.val, Q.y.val), (S.x.val, S.y.val)] = (P + Q + S).y.val := by
  have h := ad_point [P, Q, S]
  rw [sum3] at h
  exact h
theorem tmp (P : EP) {n : Nat} (h : n < T256) : tmX P.x.val P.y.val n = (Pl.Pt.mul n P).x.val ∧ tmY P.x.val P.y.val n = (Pl.Pt.mul n P).y.val := by
  have := tm_point P n
  rw [Nat.mod_eq_of_lt h] at this
  exact this
noncomputable def ctO : List (Nat × Ent) := [(10, vEnt vaw9), (11, ePick), (13, eTimes)]
theorem ctO_ok : OOK Try.prog ctO := ook_of (l := [(10, vEnt vaw9), (11, ePick), (13, eTimes)]) ⟨aw9_ent, pick_ent, times_ent, trivial⟩
noncomputable abbrev fCT : Func := Try.f4
theorem ct_run (bf : Nat → Int) (n m : Nat) : wholeV tyT ctO (atH 4 3 (isN n) (atH 4 7 (isN m) (atH 4 15 (isN (n * m)) (atH 4 17 (isB true) noH)))) [] 4000 fCT [.av (.one (.arr .u8 (keyL 32 bf))), .av (.one (.v (.int .u16 (n : Int)))), .av (.one (.v (.int .u16 (m : Int))))] = some (ofV (.bool true), [is32 (keyL 32 bf), tW [.v (.int .u64 (IntKind.wrap .u64 (n : Int))), .arr .u64 (List.drop 1 (words 0))] (n), True, tW [.v (.int .u64 (IntKind.wrap .u64 (m : Int))), .arr .u64 (List.drop 1 (words 0))] (m), True, tW [.v (.int .u64 (IntKind.wrap .u64 (IntKind.wrap .u64 (n : Int) * IntKind.wrap .u64 (m : Int)))), .arr .u64 (List.drop 1 (words 0))] (n * m), True, tB (numEq (tmX (tmX ((pkV (g2 (keyL 32 bf))).1) ((pkV (g2 (keyL 32 bf))).2) (n)) (tmY ((pkV (g2 (keyL 32 bf))).1) ((pkV (g2 (keyL 32 bf))).2) (n)) (m)) (tmX ((pkV (g2 (keyL 32 bf))).1) ((pkV (g2 (keyL 32 bf))).2) (n * m)) && (numEq (tmY (tmX ((pkV (g2 (keyL 32 bf))).1) ((pkV (g2 (keyL 32 bf))).2) (n)) (tmY ((pkV (g2 (keyL 32 bf))).1) ((pkV (g2 (keyL 32 bf))).2) (n)) (m)) (tmY ((pkV (g2 (keyL 32 bf))).1) ((pkV (g2 (keyL 32 bf))).2) (n * m)) && true)) true]) := by kernel_rfl
theorem lawCurveTwice_fact (bs : List Int) (hl : bs.length = 32) (hw : ∀ z ∈ bs, (Lit.int .u8 z).wf = true) (n : Int) (hn : (Lit.int .u16 n).wf = true) (m : Int) (hm : (Lit.int .u16 m).wf = true) (w : World) (hgw : GWok w.heap.size [] w) : Calls Try.prog 4 #[.agg (bs.map (Value.int .u8)).toArray, .int .u16 n, .int .u16 m] w fun e w' => e = .returned (.bool true) ∧ Below w.heap.size w w' := by
  have h32 : is32 bs := ⟨hl, wf_bs hw⟩
  have hn' := wf_u16 hn
  have hm' := wf_u16 hm
  obtain ⟨n, rfl⟩ : ∃ k : Nat, n = k := ⟨n.toNat, by omega⟩
  obtain ⟨m, rfl⟩ : ∃ k : Nat, m = k := ⟨m.toNat, by omega⟩
  obtain ⟨P, hP⟩ := pk_point (g2 bs) (g2_32 h32)
  have hn2 : n < 65536 := by omega
  have hm2 : m < 65536 := by omega
  have hnm : n * m < 4294967296 := Nat.lt_of_le_of_lt (Nat.mul_le_mul (Nat.le_of_lt_succ hn2) (Nat.le_of_lt_succ hm2)) (by decide)
  have hT : 4294967296 < T256 := by decide +kernel
  have hrun := ct_run (g2 bs) n m
  rw [keyL_g2 hl, hP] at hrun
  have t1 := fun P : EP => tmp P (n := n) (by omega)
  have t2 := fun P : EP => tmp P (n := m) (by omega)
  have t3 := fun P : EP => tmp P (n := n * m) (by omega)
  have hv : vP P = (P.x.val, P.y.val) := rfl
  rw [hv] at hrun
  have em : Pl.Pt.mul (n * m) P = Pl.Pt.mul m (Pl.Pt.mul n P) := by rw [Nat.mul_comm, Pl.Pt.mul_mul]
  simp only [(t1 _).1, (t1 _).2, (t2 _).1, (t2 _).2, (t3 _).1, (t3 _).2, em] at hrun
  have hw3 : IntKind.wrap .u64 (IntKind.wrap .u64 (n : Int) * IntKind.wrap .u64 (m : Int)) = IntKind.wrap .u64 ((n * m : Nat) : Int) := by
    rw [wU (z := (n : Int)) (by omega) (by omega), wU (z := (m : Int)) (by omega) (by omega), Int.natCast_mul]
  rw [hw3] at hrun
  exact am_val tyT_ok ctO_ok mixed_ Try.func4 (by kernel_rfl) hrun ⟨h32, tW_1 (one_word (by omega)), trivial, tW_1 (one_word (by omega)), trivial, tW_1 (one_word (by omega)), trivial, eqP_self _ _, trivial⟩ (by kernel_rfl) (by kernel_rfl) (fun _ => ⟨none, 0⟩) w hgw
noncomputable def coO : List (Nat × Ent) := [(10, vEnt vaw9), (11, ePick), (13, eTimes), (12, eAddP)]
theorem coO_ok : OOK Try.prog coO := ook_of (l := [(10, vEnt vaw9), (11, ePick), (13, eTimes), (12, eAddP)]) ⟨aw9_ent, pick_ent, times_ent, eAddP_ok, trivial⟩
noncomputable abbrev fCO : Func := Try.f3
theorem co_run (bf cf df : Nat → Int) : wholeV tyT coO (atH 5 8 (isB false) (atH 5 24 (isB false) (atH 5 37 (isB false) (atH 7 2 (isN ((bf 5).toNat + 1)) (atH 7 6 (isN (cf 5).toNat) (atH 7 14 (isN (((bf 5).toNat + 1) + (cf 5).toNat)) (atH 7 16 (isB true) noH))))))) [] 4000 fCO [.av (.one (.arr .u8 (keyL 32 bf))), .av (.one (.arr .u8 (keyL 32 cf))), .av (.one (.arr .u8 (keyL 32 df)))] = some (ofV (.bool true), [is32 (keyL 32 bf), is32 (keyL 32 cf), is32 (keyL 32 df), tB (!(numEq (adX [((pkV (g2 (keyL 32 bf))).1, (pkV (g2 (keyL 32 bf))).2), ((pkV (g2 (keyL 32 cf))).1, (pkV (g2 (keyL 32 cf))).2)]) (adX [((pkV (g2 (keyL 32 cf))).1, (pkV (g2 (keyL 32 cf))).2), ((pkV (g2 (keyL 32 bf))).1, (pkV (g2 (keyL 32 bf))).2)]) && (numEq (adY [((pkV (g2 (keyL 32 bf))).1, (pkV (g2 (keyL 32 bf))).2), ((pkV (g2 (keyL 32 cf))).1, (pkV (g2 (keyL 32 cf))).2)]) (adY [((pkV (g2 (keyL 32 cf))).1, (pkV (g2 (keyL 32 cf))).2), ((pkV (g2 (keyL 32 bf))).1, (pkV (g2 (keyL 32 bf))).2)]) && true))) false, tB (!(numEq (adX [(adX [((pkV (g2 (keyL 32 bf))).1, (pkV (g2 (keyL 32 bf))).2), ((pkV (g2 (keyL 32 cf))).1, (pkV (g2 (keyL 32 cf))).2)], adY [((pkV (g2 (keyL 32 bf))).1, (pkV (g2 (keyL 32 bf))).2), ((pkV (g2 (keyL 32 cf))).1, (pkV (g2 (keyL 32 cf))).2)]), ((pkV (g2 (keyL 32 df))).1, (pkV (g2 (keyL 32 df))).2)]) (adX [((pkV (g2 (keyL 32 bf))).1, (pkV (g2 (keyL 32 bf))).2), (adX [((pkV (g2 (keyL 32 cf))).1, (pkV (g2 (keyL 32 cf))).2), ((pkV (g2 (keyL 32 df))).1, (pkV (g2 (keyL 32 df))).2)], adY [((pkV (g2 (keyL 32 cf))).1, (pkV (g2 (keyL 32 cf))).2), ((pkV (g2 (keyL 32 df))).1, (pkV (g2 (keyL 32 df))).2)])]) && (numEq (adY [(adX [((pkV (g2 (keyL 32 bf))).1, (pkV (g2 (keyL 32 bf))).2), ((pkV (g2 (keyL 32 cf))).1, (pkV (g2 (keyL 32 cf))).2)], adY [((pkV (g2 (keyL 32 bf))).1, (pkV (g2 (keyL 32 bf))).2), ((pkV (g2 (keyL 32 cf))).1, (pkV (g2 (keyL 32 cf))).2)]), ((pkV (g2 (keyL 32 df))).1, (pkV (g2 (keyL 32 df))).2)]) (adY [((pkV (g2 (keyL 32 bf))).1, (pkV (g2 (keyL 32 bf))).2), (adX [((pkV (g2 (keyL 32 cf))).1, (pkV (g2 (keyL 32 cf))).2), ((pkV (g2 (keyL 32 df))).1, (pkV (g2 (keyL 32 df))).2)], adY [((pkV (g2 (keyL 32 cf))).1, (pkV (g2 (keyL 32 cf))).2), ((pkV (g2 (keyL 32 df))).1, (pkV (g2 (keyL 32 df))).2)])]) && true))) false, tB (!(numEq (adX [((pkV (g2 (keyL 32 bf))).1, (pkV (g2 (keyL 32 bf))).2), ((pkV (g2 (keyL 32 cf))).1, (pkV (g2 (keyL 32 cf))).2), ((pkV (g2 (keyL 32 df))).1, (pkV (g2 (keyL 32 df))).2)]) (adX [((pkV (g2 (keyL 32 df))).1, (pkV (g2 (keyL 32 df))).2), ((pkV (g2 (keyL 32 cf))).1, (pkV (g2 (keyL 32 cf))).2), ((pkV (g2 (keyL 32 bf))).1, (pkV (g2 (keyL 32 bf))).2)]) && (numEq (adY [((pkV (g2 (keyL 32 bf))).1, (pkV (g2 (keyL 32 bf))).2), ((pkV (g2 (keyL 32 cf))).1, (pkV (g2 (keyL 32 cf))).2), ((pkV (g2 (keyL 32 df))).1, (pkV (g2 (keyL 32 df))).2)]) (adY [((pkV (g2 (keyL 32 df))).1, (pkV (g2 (keyL 32 df))).2), ((pkV (g2 (keyL 32 cf))).1, (pkV (g2 (keyL 32 cf))).2), ((pkV (g2 (keyL 32 bf))).1, (pkV (g2 (keyL 32 bf))).2)]) && true))) false, tW [.v (.int .u64 (IntKind.wrap .u64 (IntKind.wrap .u64 (bf 5) + 1))), .arr .u64 (List.drop 1 (words 0))] (((bf 5).toNat + 1)), True, tW [.v (.int .u64 (IntKind.wrap .u64 (cf 5))), .arr .u64 (List.drop 1 (words 0))] ((cf 5).toNat), True, tW [.v (.int .u64 (IntKind.wrap .u64 (IntKind.wrap .u64 (IntKind.wrap .u64 (bf 5) + 1) + IntKind.wrap .u64 (cf 5)))), .arr .u64 (List.drop 1 (words 0))] (((bf 5).toNat + 1) + (cf 5).toNat), True, tB (numEq (adX [(tmX ((pkV (g2 (keyL 32 bf))).1) ((pkV (g2 (keyL 32 bf))).2) (((bf 5).toNat + 1)), tmY ((pkV (g2 (keyL 32 bf))).1) ((pkV (g2 (keyL 32 bf))).2) (((bf 5).toNat + 1))), (tmX ((pkV (g2 (keyL 32 bf))).1) ((pkV (g2 (keyL 32 bf))).2) ((cf 5).toNat), tmY ((pkV (g2 (keyL 32 bf))).1) ((pkV (g2 (keyL 32 bf))).2) ((cf 5).toNat))]) (tmX ((pkV (g2 (keyL 32 bf))).1) ((pkV (g2 (keyL 32 bf))).2) (((bf 5).toNat + 1) + (cf 5).toNat)) && (numEq (adY [(tmX ((pkV (g2 (keyL 32 bf))).1) ((pkV (g2 (keyL 32 bf))).2) (((bf 5).toNat + 1)), tmY ((pkV (g2 (keyL 32 bf))).1) ((pkV (g2 (keyL 32 bf))).2) (((bf 5).toNat + 1))), (tmX ((pkV (g2 (keyL 32 bf))).1) ((pkV (g2 (keyL 32 bf))).2) ((cf 5).toNat), tmY ((pkV (g2 (keyL 32 bf))).1) ((pkV (g2 (keyL 32 bf))).2) ((cf 5).toNat))]) (tmY ((pkV (g2 (keyL 32 bf))).1) ((pkV (g2 (keyL 32 bf))).2) (((bf 5).toNat + 1) + (cf 5).toNat)) && true)) true]) := by kernel_rfl
theorem lawCurveOrders_fact (xs : List Int) (hl : xs.length = 32) (hw : ∀ z ∈ xs, (Lit.int .u8 z).wf = true) (ys : List Int) (hl2 : ys.length = 32) (hw2 : ∀ z ∈ ys, (Lit.int .u8 z).wf = true) (zs : List Int) (hl3 : zs.length = 32) (hw3 : ∀ z ∈ zs, (Lit.int .u8 z).wf = true) (w : World) (hgw : GWok w.heap.size [] w) : Calls Try.prog 3 #[.agg (xs.map (Value.int .u8)).toArray, .agg (ys.map (Value.int .u8)).toArray, .agg (zs.map (Value.int .u8)).toArray] w fun e w' => e = .returned (.bool true) ∧ Below w.heap.size w w' := by
  have h1 : is32 xs := ⟨hl, wf_bs hw⟩
  have h2 : is32 ys := ⟨hl2, wf_bs hw2⟩
  have h3 : is32 zs := ⟨hl3, wf_bs hw3⟩
  obtain ⟨P, hP⟩ := pk_point (g2 xs) (g2_32 h1)
  obtain ⟨Q, hQ⟩ := pk_point (g2 ys) (g2_32 h2)
  obtain ⟨S, hS⟩ := pk_point (g2 zs) (g2_32 h3)
  have b5 := g2_32 h1 5 (by decide)
  have c5 := g2_32 h2 5 (by decide)
  have hT : 4294967296 < T256 := by decide +kernel
  have hrun := co_run (g2 xs) (g2 ys) (g2 zs)
  rw [keyL_g2 hl, keyL_g2 hl2, keyL_g2 hl3, hP, hQ, hS] at hrun
  have e1 : IntKind.wrap .u64 (IntKind.wrap .u64 (g2 xs 5) + 1) = IntKind.wrap .u64 (((g2 xs 5).toNat + 1 : Nat) : Int) := by
    rw [wU (z := g2 xs 5) (by omega) (by omega)]
    congr 1
    omega
  have e2 : IntKind.wrap .u64 (g2 ys 5) = IntKind.wrap .u64 (((g2 ys 5).toNat : Nat) : Int) := by
    congr 1
    omega
  generalize hN : (g2 xs 5).toNat + 1 = N at *
  generalize hM : (g2 ys 5).toNat = M at *
  have hN2 : N < 1000 := by omega
  have hM2 : M < 1000 := by omega
  have e3 : IntKind.wrap .u64 (IntKind.wrap .u64 (N : Int) + IntKind.wrap .u64 (M : Int)) = IntKind.wrap .u64 ((N + M : Nat) : Int) := by
    rw [wU (z := (N : Int)) (by omega) (by omega), wU (z := (M : Int)) (by omega) (by omega), Int.natCast_add]
  rw [e1, e2, e3] at hrun
  have t1 := tmp P (n := N) (by omega)
  have t2 := tmp P (n := M) (by omega)
  have t3 := tmp P (n := N + M) (by omega)
  simp only [vP] at hrun
  have c1 : Q + P = P + Q := Pl.Pt.add_comm Q P
  have c2 : S + Q + P = P + Q + S := by rw [Pl.Pt.add_comm (S + Q) P, Pl.Pt.add_comm S Q, Pl.Pt.add_assoc]
  have c3 : P + (Q + S) = P + Q + S := (Pl.Pt.add_assoc P Q S).symm
  have c4 : Pl.Pt.mul N P + Pl.Pt.mul M P = Pl.Pt.mul (N + M) P := (Pl.Pt.add_mul P N M).symm
  simp only [t1, t2, t3, (ad2 _ _).1, (ad2 _ _).2, (ad3 _ _ _).1, (ad3 _ _ _).2, c1, c2, c3, c4] at hrun
  exact am_val tyT_ok coO_ok mixed_ Try.func3 (by kernel_rfl) hrun ⟨h1, h2, h3, neP_self _ _, neP_self _ _, neP_self _ _, tW_1 (one_word (by omega)), trivial, tW_1 (one_word (by omega)), trivial, tW_1 (one_word (by omega)), trivial, eqP_self _ _, trivial⟩ (by kernel_rfl) (by kernel_rfl) (fun _ => ⟨none, 0⟩) w hgw
end
end Go.Proofs.Ytgeldhdijochdaa.Am
/- No variable of the package is known: none is read. Conditions: none. -/
namespace Go.Proofs.Ytgeldhdijochdaa.Am
set_option linter.unusedVariables false
set_option linter.unusedSimpArgs false
open Go
instance gt0 : GT := ⟨[]⟩
theorem gw0 {N : Nat} {M : List Nat} {w : World} : GWok N M w := fun x h => by cases h
end Go.Proofs.Ytgeldhdijochdaa.Am
/- Opening arrays of bytes, and rows of them, at a law's call. Conditions: none. -/
set_option maxRecDepth 100000
namespace Go.Proofs.Ytgeldhdijochdaa
set_option linter.unusedVariables false
set_option linter.unusedSimpArgs false
open Go Go.ChangeShapes Go.WideShapes Go.ChangeAt Go.RowKit

theorem own_ : ownKnob Try.prog.godebug = none := by kernel_rfl
theorem laidOut_ : laidOutB Try.prog = true := by kernel_rfl
theorem ints_of {k : IntKind} : ∀ l : List Value, (∀ i, i < l.length → ∃ z, l[i]? = some (.int k z) ∧ (Lit.int k z).wf = true) → ∃ bs : List Int, l = bs.map (Value.int k) ∧ ∀ z ∈ bs, (Lit.int k z).wf = true
  | [], _ => ⟨[], rfl, by simp⟩
  | x :: l, h => by
    obtain ⟨z, hz, hw⟩ := h 0 (by simp)
    obtain ⟨bs, hb, hbw⟩ := ints_of l fun i hi => by
      obtain ⟨z, hz, hw⟩ := h (i + 1) (by simp; omega)
      exact ⟨z, by simpa using hz, hw⟩
    simp only [List.getElem?_cons_zero, Option.some.injEq] at hz
    subst hz
    refine ⟨z :: bs, by rw [hb]; rfl, fun y hy => ?_⟩
    rcases List.mem_cons.1 hy with rfl | hy
    · exact hw
    · exact hbw y hy
/-- An array of integers that comes in. -/
theorem open_arr {H : Type} {enc : TypeId × Value → H} {W : World} {base : Nat} {b0 : Nat} {spare : Nat → Bool} {held : Bool} {v : Value} {d : DataW H} {ps : List MemPlace} {t e : TypeId} {n : Nat} {k : IntKind}
    (ht : Try.prog.underlying t = some (.array n e)) (he : Try.prog.underlying e = some (.int k)) (hct : Try.prog.cellsOf t = n) (hce : Try.prog.cellsOf e = 1)
    (hval : Value.okWide Try.prog W .any b0 t v) (h : DataW.Trod enc Try.prog W base spare held t v d ps) :
    ∃ bs : List Int, bs.length = n ∧ (∀ z ∈ bs, (Lit.int k z).wf = true) ∧ v = .agg (bs.map (Value.int k)).toArray := by
  obtain ⟨cs, rfl, hsz, _⟩ : ∃ cs, v = .agg cs ∧ cs.size = Try.prog.cellsOf t ∧ Row.okWide Try.prog W .any b0 t cs := by
    simpa [Value.okWide, ht] using hval
  rw [hct] at hsz
  obtain ⟨fuel, hf⟩ := h
  obtain ⟨xs, m, _, _, hl, hxs, hel⟩ := DataW.trod_array ht hf
  obtain ⟨l⟩ := cs
  have hl' : l.length = n := hsz
  have hc : (Value.agg ⟨l⟩).cells.toList = l := rfl
  obtain ⟨bs, hb, hw⟩ := ints_of (k := k) l fun i hi => by
    have := hel i (by omega)
    rw [hc, hce, Nat.mul_one, List.getElem?_eq_getElem (by omega)] at this
    obtain ⟨z, hz, _, hzw⟩ := DataW.trod_int he this
    refine ⟨z, ?_, hzw⟩
    have h2 := congrArg (fun q => q[0]?) hz
    simpa [List.getElem?_take, List.getElem?_drop] using h2
  exact ⟨bs, by rw [hb] at hl'; simpa using hl', hw, by rw [hb]⟩

/-- What is known of a row of integers that came in. -/
def IsRow (k : IntKind) (w : World) (a : Option Addr) (len cap : Nat) (zs : List Int) : Prop :=
  (a = none ∧ len = 0 ∧ cap = 0 ∧ zs = []) ∨
  ∃ x, a = some x ∧ len ≤ cap ∧ cap ≤ maxLen ∧ zs.length = cap ∧ (∀ i, i < zs.length → w.cell? (x.add i) = some (.int k (zs.getD i 0))) ∧ ∀ n ∈ zs, (Lit.int k n).wf = true

end Go.Proofs.Ytgeldhdijochdaa
/- Opening slices of integers at a law's call, as the machine takes them; and a law's call. Conditions: none. -/
set_option maxRecDepth 100000
namespace Go.Proofs.Ytgeldhdijochdaa
set_option linter.unusedVariables false
set_option linter.unusedSimpArgs false
open Go Go.ChangeShapes Go.WideShapes Go.ChangeAt Go.RowKit

theorem has_lt {P : Program} {w : World} {r : Reach} {base : Nat} {a : Addr} {e : TypeId} {n : Nat} (h : w.has P r base a e n) : a.block < w.heap.size := by
  obtain ⟨_, _, row, cells, hs, _⟩ := h
  unfold World.shape? at hs
  split at hs
  · rename_i hb
    exact (Array.getElem?_eq_some_iff.1 hb).1
  all_goals first | cases hs | (rename_i hb; exact (Array.getElem?_eq_some_iff.1 hb).1)
/-- A slice of integers that comes in. -/
theorem open_sl {H : Type} {enc : TypeId × Value → H} {W : World} {base : Nat} {b0 : Nat} {spare : Nat → Bool} {held : Bool} {v : Value} {d : DataW H} {ps : List MemPlace} {t e : TypeId} {k : IntKind}
    (ht : Try.prog.underlying t = some (.slice e)) (he : Try.prog.underlying e = some (.int k)) (hce : Try.prog.cellsOf e = 1)
    (hval : Value.okWide Try.prog W .any b0 t v) (h : DataW.Trod enc Try.prog W base spare held t v d ps) :
    ∃ a cap, ∃ zs : List Int, v = .slice a zs.length cap ∧ Am.RowAt W ⟨a, cap⟩ k zs ∧ ∀ z ∈ zs, (Lit.int k z).wf = true := by
  obtain ⟨a, len, cap, rfl⟩ := okWide_slice ht hval
  have hlt : ∀ x, a = some x → x.block < W.heap.size := fun x hx => by
    subst hx
    simp only [Value.okWide, ht, Cell.okWide, Cell.ok] at hval
    exact has_lt hval.2.2
  obtain ⟨fuel, hf⟩ := h
  rcases open_ints ht he hce hf with ⟨hcs, _⟩ | ⟨x, l, c, zs, hcs, _, hl, hm, hz, _, hcell, hwz⟩
  · simp [Value.cells] at hcs
    obtain ⟨rfl, rfl, rfl⟩ := hcs
    exact ⟨none, 0, [], rfl, ⟨Nat.le_refl _, .inl rfl, fun x hx => by cases hx⟩, by simp⟩
  · simp [Value.cells] at hcs
    obtain ⟨rfl, rfl, rfl⟩ := hcs
    have hzl : len ≤ zs.length := by rw [hz]; split <;> omega
    have hlen : (zs.take len).length = len := by rw [List.length_take]; omega
    refine ⟨some x, cap, zs.take len, by rw [hlen], ⟨by rw [hlen]; exact hl, .inr ⟨x, rfl, fun j u hj => ?_⟩, hlt⟩, fun z hz' => hwz z (List.mem_of_mem_take hz')⟩
    have hjl : j < len := by
      have := (List.getElem?_eq_some_iff.1 hj).1
      rw [List.length_map, hlen] at this; exact this
    rw [List.getElem?_map, List.getElem?_take, if_pos hjl, List.getElem?_eq_getElem (by omega)] at hj
    simp only [Option.map_some, Option.some.injEq] at hj
    subst hj
    have := hcell j (by omega)
    simpa [List.getD_eq_getElem?_getD, List.getElem?_eq_getElem (show j < zs.length by omega)] using this
end Go.Proofs.Ytgeldhdijochdaa
namespace Go.Proofs.Ytgeldhdijochdaa.Am
open Go Go.RowKit
variable [GT]
omit [GT] in
/-- Rows that come in, as blocks to be read. -/
def rowsH : List (Loc × IntKind × List Int) → Nat → List (Nat × Blk)
  | [], _ => []
  | (_, k, zs) :: l, n => (n, ⟨2, 0, [.arr k zs]⟩) :: rowsH l (n + 1)
omit [GT] in
theorem rowsH_spec : ∀ (l : List (Loc × IntKind × List Int)) (n i : Nat) (b : Blk), look (rowsH l n) i = some b → n ≤ i ∧ i < n + l.length ∧ ∃ x, l[i - n]? = some x ∧ b = ⟨2, 0, [.arr x.2.1 x.2.2]⟩
  | [], n, i, b, h => by cases h
  | (g, k, zs) :: l, n, i, b, h => by
    simp only [rowsH, look_cons] at h
    by_cases hi : n = i
    · subst hi
      rw [if_pos rfl] at h
      injection h with h
      subst h
      exact ⟨Nat.le_refl _, by simp, (g, k, zs), by simp, rfl⟩
    · rw [if_neg hi] at h
      obtain ⟨h1, h2, x, hx, hb⟩ := rowsH_spec l (n + 1) i b h
      refine ⟨by omega, by simp only [List.length_cons]; omega, x, ?_, hb⟩
      rw [show i - n = (i - (n + 1)) + 1 by omega, List.getElem?_cons_succ]
      exact hx
theorem hr_rows {w : World} (l : List (Loc × IntKind × List Int)) (h : ∀ x ∈ l, RowAt w x.1 x.2.1 x.2.2) (hgw : GWok w.heap.size [] w) : HR (fun i => (l.map (·.1)).getD i ⟨none, 0⟩) (· < l.length) w.heap.size [] (look (rowsH l 0)) w := by
  have hall : ∀ i b, look (rowsH l 0) i = some b → i < l.length ∧ ∃ k zs, b = ⟨2, 0, [.arr k zs]⟩ ∧ RowAt w ((l.map (·.1)).getD i ⟨none, 0⟩) k zs := fun i b hb => by
    obtain ⟨_, h2, x, hx, rfl⟩ := rowsH_spec _ _ _ _ hb
    rw [Nat.sub_zero] at hx
    refine ⟨by omega, _, _, rfl, ?_⟩
    have e : (l.map (·.1)).getD i ⟨none, 0⟩ = x.1 := by simp [List.getD_eq_getElem?_getD, hx]
    rw [e]
    exact h x (List.mem_of_getElem? hx)
  refine ⟨Nat.le_refl _, fun i b hb => ?_, fun i b x hb hx => ?_, fun i b x hb hk hx => ?_, fun i j bi bj x y hi hj hij hk hx hy => ?_, hgw⟩
  · obtain ⟨h2, k, zs, rfl, h3, h4, _⟩ := hall i b hb
    refine ⟨h2, fun s hs => (by simp at hs; subst hs; trivial), ?_⟩
    show (segsVals _ _).length ≤ _ ∧ _
    rw [segsVals_one]
    refine ⟨by simpa [Seg.vals] using h3, ?_⟩
    rcases h4 with rfl | h4
    · exact .inl rfl
    · exact .inr h4
  · obtain ⟨_, k, zs, rfl, _, _, h5⟩ := hall i b hb
    exact h5 x hx
  · obtain ⟨_, k, zs, rfl, _⟩ := hall i b hb
    simp at hk
  · obtain ⟨_, k, zs, rfl, _⟩ := hall i bi hi
    simp at hk
/-- A law's run that ends in true. -/
theorem law_reach {f : FuncId} {fn : Func} (hf : Try.prog.funcs[f]? = some fn) {avs : List SV} {hp : List (Nat × Blk)} {k : Nat} {todo : List AI} {st : St} (hR : From Try.prog fn avs hp k [] todo st) (hfin : todo = [] ∨ todo = [.fin]) (hv : resVal tyT st fn.results.toList = some (ofV (.bool true))) (hlen : Nat.ble avs.length fn.ntmps = true) (hin : avs.all (svB fun i => Nat.blt i k) = true) {ρc : Nat → Loc} {w : World} (hG : HR ρc (· < k) w.heap.size [] (look hp) w) :
    Calls Try.prog f (avs.map (SV.conc ρc)).toArray w fun e w' => e = .returned (.bool true) ∧ Below w.heap.size w w' := by
  obtain ⟨c, hc, hRe⟩ := hR
  exact reach_val tyT_ok hf hc hfin hRe hv (by rfl) hlen (fun s hs => svB_in (f := fun i => Nat.blt i k) (fun i h => Nat.le_of_ble_eq_true h) (List.all_eq_true.1 hin s hs)) hG (fun _ => ⟨none, 0⟩)
omit [GT] in
theorem conc_s0 {ρ : Nat → Loc} {i n cap : Nat} : SV.conc ρ (.av (.one (.s i 0 n cap))) = .slice (ρ i).a n cap := by
  simp only [SV.conc, AV.conc, Seg.conc]
  cases (ρ i).a <;> simp [Addr.add]
end Go.Proofs.Ytgeldhdijochdaa.Am
