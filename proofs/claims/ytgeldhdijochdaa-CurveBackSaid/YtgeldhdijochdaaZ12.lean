/- Law 09's awake and Pick. Conditions: none. -/
import Derived.Test.YtgeldhdijochdaaZ11
import Derived.Test.YtgeldhdijochdaaZ10
import Derived.Test.YtgeldhdijochdaaZ6
import Derived.WalkSmall
import Derived.RangeFuncBox
import Derived.RangeFuncLeaves
import Derived.RangeFuncNested
import Derived.RangeFuncBound
import Derived.RangeFuncCalls
import Derived.Shelf.Abstract
import Derived.Shelf.RegionOpen
import Derived.WalkKit
import Derived.OwnWalkIn
import Derived.TacticsInMore
import Derived.LoopNIn
import Derived.LoopIn
set_option linter.unusedSectionVars false
namespace Go.Proofs.Ytgeldhdijochdaa.Am
set_option linter.unusedVariables false
set_option linter.unusedSimpArgs false
open Go Go.RowKit
open Pl (pP T256)
set_option linter.unusedSectionVars false
theorem on_m1' {R : Type} [Lean.Grind.CommRing R] (a d : R) : a * 0 * 0 + (-1) * (-1) = 1 + d * 0 * 0 * (-1) * (-1) := by grind
section
variable [GT]
noncomputable def awO9 : List (Nat × Ent) := [(19, vEnt vnaught), (14, eBytesP), (20, vEnt vbase), (30, vEnt vgood)]
theorem awO9_ok : OOK Try.prog awO9 := ook_of (l := [(19, vEnt vnaught), (14, eBytesP), (20, vEnt vbase), (30, vEnt vgood)]) ⟨naught_ent, eBytesP_ok, base_ent, good_ent, trivial⟩
noncomputable abbrev fAw9 : Func := Try.f10
theorem aw9_run : wholeV tyT awO9 (atH 2 17 (isB true) noH) [] 2000 fAw9 [] = some (ofV (.bool true), [tB (nGood nBx nBy) true]) := by kernel_rfl
def vaw9 : List SV → Option (SV × Asm)
  | [] => some (ofV (.bool true), .tt)
  | _ => none
theorem aw9_ent : EntOK Try.prog 10 (vEnt vaw9) := ok_V awO9_ok Try.func10 (by kernel_rfl) (by kernel_rfl) fun args v p hF hp => by
  unfold vaw9 at hF
  split at hF
  · simp only [Option.some.injEq, Prod.mk.injEq] at hF
    obtain ⟨rfl, rfl⟩ := hF
    exact ⟨_, _, _, _, aw9_run, ⟨tB_iff.2 (by rw [nBx_val, nBy_val]; exact good_val eB), trivial⟩, by kernel_rfl, by kernel_rfl, by kernel_rfl⟩
  · cases hF
noncomputable def pkO : List (Nat × Ent) := [(15, entB [.sl .u8] rdF), (23, e2N nSub), (20, vEnt vbase), (19, vEnt vnaught), (13, eTimes)]
theorem pkO_ok : OOK Try.prog pkO := ook_of (l := [(15, entB [.sl .u8] rdF), (23, e2N nSub), (20, vEnt vbase), (19, vEnt vnaught), (13, eTimes)]) ⟨read_ent, Sub_ent, base_ent, naught_ent, times_ent, trivial⟩
/-- Words that are built are a number's. -/
def tW (l : List Seg) (n : Nat) : Prop := ∀ ρ : Nat → Loc, (SV.av (normNum l)).conc ρ = (SV.av (.one (.num n))).conc ρ
theorem tW_of {l : List Seg} {n : Nat} (h : ∀ ρ, segsVals ρ l = (words n).map (Value.int .u64)) : tW l n := fun ρ => by
  rw [conc_av, normNum_conc, h]
  rfl
theorem drop2 : List.drop 1 (List.drop 1 (words 0)) = [0, 0] := by decide +kernel
theorem drop1 : List.drop 1 (words 0) = [0, 0, 0] := by decide +kernel
theorem tW_2 {a b : Int} {n : Nat} (h : [a, b, 0, 0] = words n) : tW [.v (.int .u64 a), .v (.int .u64 b), .arr .u64 (List.drop 1 (List.drop 1 (words 0)))] n := tW_of fun ρ => by
  rw [drop2, ← h]
  rfl
theorem tW_1 {a : Int} {n : Nat} (h : [a, 0, 0, 0] = words n) : tW [.v (.int .u64 a), .arr .u64 (List.drop 1 (words 0))] n := tW_of fun ρ => by
  rw [drop1, ← h]
  rfl
noncomputable abbrev fPk : Func := Try.f11
def pkE (x y : Nat) : St := { tm := tmL 48 [(2, .av (.one (.p 0 0)))], hp := [(0, ⟨0, 28, [.num x, .num y]⟩)], nx := 1, gl := [] }
theorem pk_0 (κ : Nat → Value) (bf : Nat → Int) : runF tyT pkO (atH 2 1 (isB true) noH) [] 0 [1] [2] fPk (bA [.ag .u8 (keyL 32 bf)] 0 0) (bH κ [.ag .u8 (keyL 32 bf)] 0 0) 0 [] = some ([.fin], pkE 0 1, [tB (Int.tmod (bf 31) 8 == 0) true]) := by kernel_rfl
theorem pk_1 (κ : Nat → Value) (bf : Nat → Int) : runF tyT pkO (atH 2 1 (isB false) (atH 4 1 (isB true) noH)) [] 0 [1] [2] fPk (bA [.ag .u8 (keyL 32 bf)] 0 0) (bH κ [.ag .u8 (keyL 32 bf)] 0 0) 0 [] = some ([.fin], pkE 0 (nSub 0 1), [tB (Int.tmod (bf 31) 8 == 0) false, tB (Int.tmod (bf 31) 8 == 1) true]) := by kernel_rfl
theorem pk_2 (κ : Nat → Value) (bf : Nat → Int) : runF tyT pkO (atH 2 1 (isB false) (atH 4 1 (isB false) (atH 6 1 (isB true) (atH 8 1 (isB true) noH)))) [] 0 [1] [2] fPk (bA [.ag .u8 (keyL 32 bf)] 0 0) (bH κ [.ag .u8 (keyL 32 bf)] 0 0) 0 [] = some ([.fin], pkE (rdV (leI (cutI (List.replicate 32 (0 : Int)) 0 32))).x (rdV (leI (cutI (List.replicate 32 (0 : Int)) 0 32))).y, [tB (Int.tmod (bf 31) 8 == 0) false, tB (Int.tmod (bf 31) 8 == 1) false, tB (Int.tmod (bf 31) 8 == 2) true, 0 + 32 ≤ (List.replicate 32 (0 : Int)).length ∧ 32 ≤ 32, is32 (cutI (List.replicate 32 (0 : Int)) 0 32), tB ((rdV (leI (cutI (List.replicate 32 (0 : Int)) 0 32))).e == 0) true]) := by kernel_rfl
theorem pk_2n (κ : Nat → Value) (bf : Nat → Int) : runF tyT pkO (atH 2 1 (isB false) (atH 4 1 (isB false) (atH 6 1 (isB true) (atH 8 1 (isB false) (atH 14 7 (isN ((bf 0).toNat + 18446744073709551616 * (bf 1).toNat)) noH))))) [] 0 [1] [2] fPk (bA [.ag .u8 (keyL 32 bf)] 0 0) (bH κ [.ag .u8 (keyL 32 bf)] 0 0) 0 [] = some ([.fin], pkE (tmX nBx nBy ((bf 0).toNat + 18446744073709551616 * (bf 1).toNat)) (tmY nBx nBy ((bf 0).toNat + 18446744073709551616 * (bf 1).toNat)), [tB (Int.tmod (bf 31) 8 == 0) false, tB (Int.tmod (bf 31) 8 == 1) false, tB (Int.tmod (bf 31) 8 == 2) true, 0 + 32 ≤ (List.replicate 32 (0 : Int)).length ∧ 32 ≤ 32, is32 (cutI (List.replicate 32 (0 : Int)) 0 32), tB ((rdV (leI (cutI (List.replicate 32 (0 : Int)) 0 32))).e == 0) false, tW [.v (.int .u64 (IntKind.wrap .u64 (bf 0))), .v (.int .u64 (IntKind.wrap .u64 (bf 1))), .arr .u64 (List.drop 1 (List.drop 1 (words 0)))] ((bf 0).toNat + 18446744073709551616 * (bf 1).toNat), True]) := by kernel_rfl
theorem pk_3 (κ : Nat → Value) (bf : Nat → Int) : runF tyT pkO (atH 2 1 (isB false) (atH 4 1 (isB false) (atH 6 1 (isB false) (atH 10 1 (isB true) (atH 12 1 (isB true) noH))))) [] 0 [1] [2] fPk (bA [.ag .u8 (keyL 32 bf)] 0 0) (bH κ [.ag .u8 (keyL 32 bf)] 0 0) 0 [] = some ([.fin], pkE (rdV (leI (cutI (keyL 32 bf) 0 32))).x (rdV (leI (cutI (keyL 32 bf) 0 32))).y, [tB (Int.tmod (bf 31) 8 == 0) false, tB (Int.tmod (bf 31) 8 == 1) false, tB (Int.tmod (bf 31) 8 == 2) false, tB (Int.tmod (bf 31) 8 == 3) true, 0 + 32 ≤ (keyL 32 bf).length ∧ 32 ≤ 32, is32 (cutI (keyL 32 bf) 0 32), tB ((rdV (leI (cutI (keyL 32 bf) 0 32))).e == 0) true]) := by kernel_rfl
theorem pk_3n (κ : Nat → Value) (bf : Nat → Int) : runF tyT pkO (atH 2 1 (isB false) (atH 4 1 (isB false) (atH 6 1 (isB false) (atH 10 1 (isB true) (atH 12 1 (isB false) (atH 14 7 (isN ((bf 0).toNat + 18446744073709551616 * (bf 1).toNat)) noH)))))) [] 0 [1] [2] fPk (bA [.ag .u8 (keyL 32 bf)] 0 0) (bH κ [.ag .u8 (keyL 32 bf)] 0 0) 0 [] = some ([.fin], pkE (tmX nBx nBy ((bf 0).toNat + 18446744073709551616 * (bf 1).toNat)) (tmY nBx nBy ((bf 0).toNat + 18446744073709551616 * (bf 1).toNat)), [tB (Int.tmod (bf 31) 8 == 0) false, tB (Int.tmod (bf 31) 8 == 1) false, tB (Int.tmod (bf 31) 8 == 2) false, tB (Int.tmod (bf 31) 8 == 3) true, 0 + 32 ≤ (keyL 32 bf).length ∧ 32 ≤ 32, is32 (cutI (keyL 32 bf) 0 32), tB ((rdV (leI (cutI (keyL 32 bf) 0 32))).e == 0) false, tW [.v (.int .u64 (IntKind.wrap .u64 (bf 0))), .v (.int .u64 (IntKind.wrap .u64 (bf 1))), .arr .u64 (List.drop 1 (List.drop 1 (words 0)))] ((bf 0).toNat + 18446744073709551616 * (bf 1).toNat), True]) := by kernel_rfl
theorem pk_4 (κ : Nat → Value) (bf : Nat → Int) : runF tyT pkO (atH 2 1 (isB false) (atH 4 1 (isB false) (atH 6 1 (isB false) (atH 10 1 (isB false) (atH 14 7 (isN ((bf 0).toNat + 18446744073709551616 * (bf 1).toNat)) noH))))) [] 0 [1] [2] fPk (bA [.ag .u8 (keyL 32 bf)] 0 0) (bH κ [.ag .u8 (keyL 32 bf)] 0 0) 0 [] = some ([.fin], pkE (tmX nBx nBy ((bf 0).toNat + 18446744073709551616 * (bf 1).toNat)) (tmY nBx nBy ((bf 0).toNat + 18446744073709551616 * (bf 1).toNat)), [tB (Int.tmod (bf 31) 8 == 0) false, tB (Int.tmod (bf 31) 8 == 1) false, tB (Int.tmod (bf 31) 8 == 2) false, tB (Int.tmod (bf 31) 8 == 3) false, tW [.v (.int .u64 (IntKind.wrap .u64 (bf 0))), .v (.int .u64 (IntKind.wrap .u64 (bf 1))), .arr .u64 (List.drop 1 (List.drop 1 (words 0)))] ((bf 0).toNat + 18446744073709551616 * (bf 1).toNat), True]) := by kernel_rfl
theorem on_m1 : eC.a * (0 : Pl.F) * 0 + (-1) * (-1) = 1 + eC.d * (0 : Pl.F) * 0 * (-1) * (-1) := on_m1' _ _
theorem cut_full' {l : List Int} {n : Nat} (h : l.length = n) : cutI l 0 n = l := by rw [← h, cutI_all]
/-- What is picked. -/
noncomputable def pkV (bf : Nat → Int) : Nat × Nat :=
  if Int.tmod (bf 31) 8 = 0 then (0, 1)
  else if Int.tmod (bf 31) 8 = 1 then (0, nSub 0 1)
  else if Int.tmod (bf 31) 8 = 2 ∧ (rdV (leI (List.replicate 32 (0 : Int)))).e = 0 then ((rdV (leI (List.replicate 32 (0 : Int)))).x, (rdV (leI (List.replicate 32 (0 : Int)))).y)
  else if Int.tmod (bf 31) 8 ≠ 2 ∧ Int.tmod (bf 31) 8 = 3 ∧ (rdV (leI (keyL 32 bf))).e = 0 then ((rdV (leI (keyL 32 bf))).x, (rdV (leI (keyL 32 bf))).y)
  else (tmX nBx nBy ((bf 0).toNat + 18446744073709551616 * (bf 1).toNat), tmY nBx nBy ((bf 0).toNat + 18446744073709551616 * (bf 1).toNat))
theorem is32_zero : is32 (List.replicate 32 (0 : Int)) := ⟨rfl, fun z hz => by rw [List.eq_of_mem_replicate hz]; decide⟩
theorem pk_words {bf : Nat → Int} (hb : ∀ i, i < 32 → 0 ≤ bf i ∧ bf i < 256) : [IntKind.wrap .u64 (bf 0), IntKind.wrap .u64 (bf 1), 0, 0] = words ((bf 0).toNat + 18446744073709551616 * (bf 1).toNat) := by
  have h0 := hb 0 (by decide)
  have h1 := hb 1 (by decide)
  unfold words word
  rw [show (18446744073709551616 : Nat) ^ 0 = 1 from rfl, show (18446744073709551616 : Nat) ^ 1 = 18446744073709551616 from rfl, show (18446744073709551616 : Nat) ^ 2 = 340282366920938463463374607431768211456 from by decide +kernel, show (18446744073709551616 : Nat) ^ 3 = 6277101735386680763835789423207666416102355444464034512896 from by decide +kernel, wU h0.1 (by omega), wU h1.1 (by omega)]
  simp only [List.cons.injEq, and_true]
  omega
theorem pk_go (κ : Nat → Value) (bf : Nat → Int) (hb : ∀ i, i < 32 → 0 ≤ bf i ∧ bf i < 256) : FromK Try.prog 0 fPk (bA [.ag .u8 (keyL 32 bf)] 0 0) (bH κ [.ag .u8 (keyL 32 bf)] 0 0) 0 [] [.fin] (pkE (pkV bf).1 (pkV bf).2) := by
  have k32 : is32 (keyL 32 bf) := ⟨keyL_len _ _, isBs_keyL hb⟩
  have hz : cutI (List.replicate 32 (0 : Int)) 0 32 = List.replicate 32 (0 : Int) := cut_full' rfl
  have hk : cutI (keyL 32 bf) 0 32 = keyL 32 bf := cut_full' (keyL_len _ _)
  have hw := tW_2 (pk_words hb)
  have a0 := pk_0 κ bf
  have a1 := pk_1 κ bf
  have a2 := pk_2 κ bf
  have a2n := pk_2n κ bf
  have a3 := pk_3 κ bf
  have a3n := pk_3n κ bf
  have a4 := pk_4 κ bf
  rw [hz] at a2 a2n
  rw [hk] at a3 a3n
  have l32 : 0 + 32 ≤ (List.replicate 32 (0 : Int)).length ∧ 32 ≤ 32 := ⟨by decide, by decide⟩
  have m32 : 0 + 32 ≤ (keyL 32 bf).length ∧ 32 ≤ 32 := ⟨by rw [keyL_len]; decide, by decide⟩
  unfold pkV
  by_cases c0 : Int.tmod (bf 31) 8 = 0
  · rw [if_pos c0]
    dsimp only
    refine FromK.run (m0 := 0) tyT_ok pkO_ok mixed_ a0 ?_
    exact ⟨tB_iff.2 (by rw [c0]; rfl), trivial⟩
  have b0 : (Int.tmod (bf 31) 8 == 0) = false := beq_eq_false_iff_ne.2 c0
  rw [if_neg c0]
  by_cases c1 : Int.tmod (bf 31) 8 = 1
  · rw [if_pos c1]
    dsimp only
    refine FromK.run (m0 := 0) tyT_ok pkO_ok mixed_ a1 ?_
    exact ⟨tB_iff.2 b0, tB_iff.2 (by rw [c1]; rfl), trivial⟩
  have b1 : (Int.tmod (bf 31) 8 == 1) = false := beq_eq_false_iff_ne.2 c1
  rw [if_neg c1]
  by_cases c2 : Int.tmod (bf 31) 8 = 2
  · have b2 : (Int.tmod (bf 31) 8 == 2) = true := by rw [c2]; rfl
    by_cases e2 : (rdV (leI (List.replicate 32 (0 : Int)))).e = 0
    · rw [if_pos ⟨c2, e2⟩]
      dsimp only
      refine FromK.run (m0 := 0) tyT_ok pkO_ok mixed_ a2 ?_
      exact ⟨tB_iff.2 b0, tB_iff.2 b1, tB_iff.2 b2, l32, is32_zero, tB_iff.2 (beq_iff_eq.2 e2), trivial⟩
    · rw [if_neg fun h => e2 h.2, if_neg fun h => h.1 c2]
      dsimp only
      refine FromK.run (m0 := 0) tyT_ok pkO_ok mixed_ a2n ?_
      exact ⟨tB_iff.2 b0, tB_iff.2 b1, tB_iff.2 b2, l32, is32_zero, tB_iff.2 (beq_eq_false_iff_ne.2 e2), hw, trivial, trivial⟩
  have b2 : (Int.tmod (bf 31) 8 == 2) = false := beq_eq_false_iff_ne.2 c2
  rw [if_neg fun h => c2 h.1]
  by_cases c3 : Int.tmod (bf 31) 8 = 3
  · have b3 : (Int.tmod (bf 31) 8 == 3) = true := by rw [c3]; rfl
    by_cases e3 : (rdV (leI (keyL 32 bf))).e = 0
    · rw [if_pos ⟨c2, c3, e3⟩]
      dsimp only
      refine FromK.run (m0 := 0) tyT_ok pkO_ok mixed_ a3 ?_
      exact ⟨tB_iff.2 b0, tB_iff.2 b1, tB_iff.2 b2, tB_iff.2 b3, m32, k32, tB_iff.2 (beq_iff_eq.2 e3), trivial⟩
    · rw [if_neg fun h => e3 h.2.2]
      dsimp only
      refine FromK.run (m0 := 0) tyT_ok pkO_ok mixed_ a3n ?_
      exact ⟨tB_iff.2 b0, tB_iff.2 b1, tB_iff.2 b2, tB_iff.2 b3, m32, k32, tB_iff.2 (beq_eq_false_iff_ne.2 e3), hw, trivial, trivial⟩
  · rw [if_neg fun h => c3 h.2.1]
    dsimp only
    refine FromK.run (m0 := 0) tyT_ok pkO_ok mixed_ a4 ?_
    exact ⟨tB_iff.2 b0, tB_iff.2 b1, tB_iff.2 b2, tB_iff.2 (beq_eq_false_iff_ne.2 c3), hw, trivial, trivial⟩
noncomputable def pkF : List CB → Option BR
  | [.ag .u8 l] => some { pre := is32 l, val := .av (.agg [.num (pkV (g2 l)).1, .num (pkV (g2 l)).2]) }
  | _ => none
theorem g2_32 {l : List Int} (h : is32 l) (i : Nat) (hi : i < 32) : 0 ≤ g2 l i ∧ g2 l i < 256 := by
  have hl : i < l.length := by rw [h.1]; exact hi
  have := h.2 (l[i]) (List.getElem_mem hl)
  unfold g2
  rw [List.getD_eq_getElem?_getD, List.getElem?_eq_getElem hl]
  exact this
theorem pk_ends (cbs : List CB) (r : BR) (hF : pkF cbs = some r) (hp : r.pre) : EndsB Try.prog tyT [] fPk cbs r := by
  unfold pkF at hF
  split at hF
  · rename_i l
    injection hF with hF
    subst hF
    intro κ
    have h := pk_go κ (g2 l) (g2_32 hp)
    rw [keyL_g2 hp.1] at h
    exact ⟨[.fin], _, .av (.agg [.num (pkV (g2 l)).1, .num (pkV (g2 l)).2]), [], .inr rfl, h, by kernel_rfl, by kernel_rfl, by kernel_rfl⟩
  · cases hF
noncomputable def ePick : Ent := entB [.ag .u8] pkF
theorem pick_ent : EntOK Try.prog 11 ePick :=
  ok_B tyT_ok Try.func11 (by kernel_rfl) (by kernel_rfl) [] (fun x hx => by cases hx) (by kernel_rfl) pk_ends
/-- What is picked is a point. -/
theorem pk_point (bf : Nat → Int) (hb : ∀ i, i < 32 → 0 ≤ bf i ∧ bf i < 256) : ∃ P : EP, pkV bf = vP P := by
  have hv : ∀ P : EP, ∀ N : Nat, ∃ Q : EP, (tmX P.x.val P.y.val N, tmY P.x.val P.y.val N) = vP Q := fun P N => ⟨Pl.Pt.mul (N % T256) P, by
    obtain ⟨h1, h2⟩ := tm_point P N
    rw [h1, h2]; rfl⟩
  have hr : ∀ l : List Int, is32 l → (rdV (leI l)).e = 0 → ∃ Q : EP, ((rdV (leI l)).x, (rdV (leI l)).y) = vP Q := fun l hl he => by
    rcases rd_cases (leI l) (leI_lt hl) with ⟨P, h, _⟩ | h
    · exact ⟨P, by rw [h]; rfl⟩
    · rw [h] at he; cases he
  unfold pkV
  split
  · exact ⟨Pl.Pt.O, by unfold vP; rw [show ((Pl.Pt.O : EP).y).val = 1 from val_one]; rfl⟩
  split
  · refine ⟨⟨0, -1, on_m1⟩, ?_⟩
    have h1 := nSub0_val 1
    rw [val_one] at h1
    rw [h1]; rfl
  split
  · rename_i h
    exact hr _ is32_zero h.2
  split
  · rename_i h
    exact hr _ ⟨keyL_len _ _, isBs_keyL hb⟩ h.2.2
  · rw [nBx_val, nBy_val]
    exact hv eB _
end
end Go.Proofs.Ytgeldhdijochdaa.Am
/- Law 09's CurveTwice and CurveOrders. Conditions: none. -/
namespace Go.Proofs.Ytgeldhdijochdaa.Am
set_option linter.unusedVariables false
set_option linter.unusedSimpArgs false
open Go Go.RowKit
open Pl (pP T256)
set_option linter.unusedSectionVars false
section
variable [GT]
theorem eqP_self (a b : Nat) : tB (numEq a a && (numEq b b && true)) true := tB_iff.2 (by rw [numEq_self, numEq_self]; rfl)
theorem neP_self (a b : Nat) : tB (!(numEq a a && (numEq b b && true))) false := tB_iff.2 (by rw [numEq_self, numEq_self]; rfl)
theorem one_word {n : Nat} (h : n < 18446744073709551616) : [IntKind.wrap .u64 (n : Int), 0, 0, 0] = words n := by
  unfold words word
  rw [show (18446744073709551616 : Nat) ^ 0 = 1 from rfl, show (18446744073709551616 : Nat) ^ 1 = 18446744073709551616 from rfl, show (18446744073709551616 : Nat) ^ 2 = 340282366920938463463374607431768211456 from by decide +kernel, show (18446744073709551616 : Nat) ^ 3 = 6277101735386680763835789423207666416102355444464034512896 from by decide +kernel, wU (by omega) (by omega)]
  simp only [List.cons.injEq, and_true]
  omega
theorem wf_bs {bs : List Int} (hw : ∀ z ∈ bs, (Lit.int .u8 z).wf = true) : isBs bs := fun z hz => by
  have := bounds_u8 (hw z hz)
  constructor <;> omega
theorem wf_u16 {n : Int} (hn : (Lit.int .u16 n).wf = true) : 0 ≤ n ∧ n < 65536 := by
  have h := hn
  simp [Lit.wf, IntKind.min, IntKind.max, IntKind.signed, IntKind.bits] at h
  omega
theorem ad2 (P Q : EP) : adX [(P.x.val, P.y.val), (Q.x.val, Q.y.val)] = (P + Q).x.val ∧ adY [(P.x.val, P.y.val), (Q.x.val, Q.y.val)] = (P + Q).y.val := by
  have h := ad_point [P, Q]
  rw [sum2] at h
  exact h
theorem ad3 (P Q S : EP) : adX [(P.x.val, P.y.val), (Q.x.val, Q.y.val), (S.x.val, S.y.val)] = (P + Q + S).x.val ∧ adY [(P.x.val, P.y.val), (Q.x.val, Q.y.val), (S.x.val, S.y.val)] = (P + Q + S).y.val := by
  have h := ad_point [P, Q, S]
  rw [sum3] at h
  exact h
theorem tmp (P : EP) {n : Nat} (h : n < T256) : tmX P.x.val P.y.val n = (Pl.Pt.mul n P).x.val ∧ tmY P.x.val P.y.val n = (Pl.Pt.mul n P).y.val := by
  have := tm_point P n
  rw [Nat.mod_eq_of_lt h] at this
  exact this
noncomputable def ctO : List (Nat × Ent) := [(10, vEnt vaw9), (11, ePick), (13, eTimes)]
theorem ctO_ok : OOK Try.prog ctO := ook_of (l := [(10, vEnt vaw9), (11, ePick), (13, eTimes)]) ⟨aw9_ent, pick_ent, times_ent, trivial⟩
noncomputable abbrev fCT : Func := Try.f4
theorem ct_run (bf : Nat → Int) (n m : Nat) : wholeV tyT ctO (atH 4 3 (isN n) (atH 4 7 (isN m) (atH 4 15 (isN (n * m)) (atH 4 17 (isB true) noH)))) [] 4000 fCT [.av (.one (.arr .u8 (keyL 32 bf))), .av (.one (.v (.int .u16 (n : Int)))), .av (.one (.v (.int .u16 (m : Int))))] = some (ofV (.bool true), [is32 (keyL 32 bf), tW [.v (.int .u64 (IntKind.wrap .u64 (n : Int))), .arr .u64 (List.drop 1 (words 0))] (n), True, tW [.v (.int .u64 (IntKind.wrap .u64 (m : Int))), .arr .u64 (List.drop 1 (words 0))] (m), True, tW [.v (.int .u64 (IntKind.wrap .u64 (IntKind.wrap .u64 (n : Int) * IntKind.wrap .u64 (m : Int)))), .arr .u64 (List.drop 1 (words 0))] (n * m), True, tB (numEq (tmX (tmX ((pkV (g2 (keyL 32 bf))).1) ((pkV (g2 (keyL 32 bf))).2) (n)) (tmY ((pkV (g2 (keyL 32 bf))).1) ((pkV (g2 (keyL 32 bf))).2) (n)) (m)) (tmX ((pkV (g2 (keyL 32 bf))).1) ((pkV (g2 (keyL 32 bf))).2) (n * m)) && (numEq (tmY (tmX ((pkV (g2 (keyL 32 bf))).1) ((pkV (g2 (keyL 32 bf))).2) (n)) (tmY ((pkV (g2 (keyL 32 bf))).1) ((pkV (g2 (keyL 32 bf))).2) (n)) (m)) (tmY ((pkV (g2 (keyL 32 bf))).1) ((pkV (g2 (keyL 32 bf))).2) (n * m)) && true)) true]) := by kernel_rfl
theorem lawCurveTwice_fact (bs : List Int) (hl : bs.length = 32) (hw : ∀ z ∈ bs, (Lit.int .u8 z).wf = true) (n : Int) (hn : (Lit.int .u16 n).wf = true) (m : Int) (hm : (Lit.int .u16 m).wf = true) (w : World) (hgw : GWok w.heap.size [] w) : Calls Try.prog 4 #[.agg (bs.map (Value.int .u8)).toArray, .int .u16 n, .int .u16 m] w fun e w' => e = .returned (.bool true) ∧ Below w.heap.size w w' := by
  have h32 : is32 bs := ⟨hl, wf_bs hw⟩
  have hn' := wf_u16 hn
  have hm' := wf_u16 hm
  obtain ⟨n, rfl⟩ : ∃ k : Nat, n = k := ⟨n.toNat, by omega⟩
  obtain ⟨m, rfl⟩ : ∃ k : Nat, m = k := ⟨m.toNat, by omega⟩
  obtain ⟨P, hP⟩ := pk_point (g2 bs) (g2_32 h32)
  have hn2 : n < 65536 := by omega
  have hm2 : m < 65536 := by omega
  have hnm : n * m < 4294967296 := Nat.lt_of_le_of_lt (Nat.mul_le_mul (Nat.le_of_lt_succ hn2) (Nat.le_of_lt_succ hm2)) (by decide)
  have hT : 4294967296 < T256 := by decide +kernel
  have hrun := ct_run (g2 bs) n m
  rw [keyL_g2 hl, hP] at hrun
  have t1 := fun P : EP => tmp P (n := n) (by omega)
  have t2 := fun P : EP => tmp P (n := m) (by omega)
  have t3 := fun P : EP => tmp P (n := n * m) (by omega)
  have hv : vP P = (P.x.val, P.y.val) := rfl
  rw [hv] at hrun
  have em : Pl.Pt.mul (n * m) P = Pl.Pt.mul m (Pl.Pt.mul n P) := by rw [Nat.mul_comm, Pl.Pt.mul_mul]
  simp only [(t1 _).1, (t1 _).2, (t2 _).1, (t2 _).2, (t3 _).1, (t3 _).2, em] at hrun
  have hw3 : IntKind.wrap .u64 (IntKind.wrap .u64 (n : Int) * IntKind.wrap .u64 (m : Int)) = IntKind.wrap .u64 ((n * m : Nat) : Int) := by
    rw [wU (z := (n : Int)) (by omega) (by omega), wU (z := (m : Int)) (by omega) (by omega), Int.natCast_mul]
  rw [hw3] at hrun
  exact am_val tyT_ok ctO_ok mixed_ Try.func4 (by kernel_rfl) hrun ⟨h32, tW_1 (one_word (by omega)), trivial, tW_1 (one_word (by omega)), trivial, tW_1 (one_word (by omega)), trivial, eqP_self _ _, trivial⟩ (by kernel_rfl) (by kernel_rfl) (fun _ => ⟨none, 0⟩) w hgw
noncomputable def coO : List (Nat × Ent) := [(10, vEnt vaw9), (11, ePick), (13, eTimes), (12, eAddP)]
theorem coO_ok : OOK Try.prog coO := ook_of (l := [(10, vEnt vaw9), (11, ePick), (13, eTimes), (12, eAddP)]) ⟨aw9_ent, pick_ent, times_ent, eAddP_ok, trivial⟩
noncomputable abbrev fCO : Func := Try.f3
theorem co_run (bf cf df : Nat → Int) : wholeV tyT coO (atH 5 8 (isB false) (atH 5 24 (isB false) (atH 5 37 (isB false) (atH 7 2 (isN ((bf 5).toNat + 1)) (atH 7 6 (isN (cf 5).toNat) (atH 7 14 (isN (((bf 5).toNat + 1) + (cf 5).toNat)) (atH 7 16 (isB true) noH))))))) [] 4000 fCO [.av (.one (.arr .u8 (keyL 32 bf))), .av (.one (.arr .u8 (keyL 32 cf))), .av (.one (.arr .u8 (keyL 32 df)))] = some (ofV (.bool true), [is32 (keyL 32 bf), is32 (keyL 32 cf), is32 (keyL 32 df), tB (!(numEq (adX [((pkV (g2 (keyL 32 bf))).1, (pkV (g2 (keyL 32 bf))).2), ((pkV (g2 (keyL 32 cf))).1, (pkV (g2 (keyL 32 cf))).2)]) (adX [((pkV (g2 (keyL 32 cf))).1, (pkV (g2 (keyL 32 cf))).2), ((pkV (g2 (keyL 32 bf))).1, (pkV (g2 (keyL 32 bf))).2)]) && (numEq (adY [((pkV (g2 (keyL 32 bf))).1, (pkV (g2 (keyL 32 bf))).2), ((pkV (g2 (keyL 32 cf))).1, (pkV (g2 (keyL 32 cf))).2)]) (adY [((pkV (g2 (keyL 32 cf))).1, (pkV (g2 (keyL 32 cf))).2), ((pkV (g2 (keyL 32 bf))).1, (pkV (g2 (keyL 32 bf))).2)]) && true))) false, tB (!(numEq (adX [(adX [((pkV (g2 (keyL 32 bf))).1, (pkV (g2 (keyL 32 bf))).2), ((pkV (g2 (keyL 32 cf))).1, (pkV (g2 (keyL 32 cf))).2)], adY [((pkV (g2 (keyL 32 bf))).1, (pkV (g2 (keyL 32 bf))).2), ((pkV (g2 (keyL 32 cf))).1, (pkV (g2 (keyL 32 cf))).2)]), ((pkV (g2 (keyL 32 df))).1, (pkV (g2 (keyL 32 df))).2)]) (adX [((pkV (g2 (keyL 32 bf))).1, (pkV (g2 (keyL 32 bf))).2), (adX [((pkV (g2 (keyL 32 cf))).1, (pkV (g2 (keyL 32 cf))).2), ((pkV (g2 (keyL 32 df))).1, (pkV (g2 (keyL 32 df))).2)], adY [((pkV (g2 (keyL 32 cf))).1, (pkV (g2 (keyL 32 cf))).2), ((pkV (g2 (keyL 32 df))).1, (pkV (g2 (keyL 32 df))).2)])]) && (numEq (adY [(adX [((pkV (g2 (keyL 32 bf))).1, (pkV (g2 (keyL 32 bf))).2), ((pkV (g2 (keyL 32 cf))).1, (pkV (g2 (keyL 32 cf))).2)], adY [((pkV (g2 (keyL 32 bf))).1, (pkV (g2 (keyL 32 bf))).2), ((pkV (g2 (keyL 32 cf))).1, (pkV (g2 (keyL 32 cf))).2)]), ((pkV (g2 (keyL 32 df))).1, (pkV (g2 (keyL 32 df))).2)]) (adY [((pkV (g2 (keyL 32 bf))).1, (pkV (g2 (keyL 32 bf))).2), (adX [((pkV (g2 (keyL 32 cf))).1, (pkV (g2 (keyL 32 cf))).2), ((pkV (g2 (keyL 32 df))).1, (pkV (g2 (keyL 32 df))).2)], adY [((pkV (g2 (keyL 32 cf))).1, (pkV (g2 (keyL 32 cf))).2), ((pkV (g2 (keyL 32 df))).1, (pkV (g2 (keyL 32 df))).2)])]) && true))) false, tB (!(numEq (adX [((pkV (g2 (keyL 32 bf))).1, (pkV (g2 (keyL 32 bf))).2), ((pkV (g2 (keyL 32 cf))).1, (pkV (g2 (keyL 32 cf))).2), ((pkV (g2 (keyL 32 df))).1, (pkV (g2 (keyL 32 df))).2)]) (adX [((pkV (g2 (keyL 32 df))).1, (pkV (g2 (keyL 32 df))).2), ((pkV (g2 (keyL 32 cf))).1, (pkV (g2 (keyL 32 cf))).2), ((pkV (g2 (keyL 32 bf))).1, (pkV (g2 (keyL 32 bf))).2)]) && (numEq (adY [((pkV (g2 (keyL 32 bf))).1, (pkV (g2 (keyL 32 bf))).2), ((pkV (g2 (keyL 32 cf))).1, (pkV (g2 (keyL 32 cf))).2), ((pkV (g2 (keyL 32 df))).1, (pkV (g2 (keyL 32 df))).2)]) (adY [((pkV (g2 (keyL 32 df))).1, (pkV (g2 (keyL 32 df))).2), ((pkV (g2 (keyL 32 cf))).1, (pkV (g2 (keyL 32 cf))).2), ((pkV (g2 (keyL 32 bf))).1, (pkV (g2 (keyL 32 bf))).2)]) && true))) false, tW [.v (.int .u64 (IntKind.wrap .u64 (IntKind.wrap .u64 (bf 5) + 1))), .arr .u64 (List.drop 1 (words 0))] (((bf 5).toNat + 1)), True, tW [.v (.int .u64 (IntKind.wrap .u64 (cf 5))), .arr .u64 (List.drop 1 (words 0))] ((cf 5).toNat), True, tW [.v (.int .u64 (IntKind.wrap .u64 (IntKind.wrap .u64 (IntKind.wrap .u64 (bf 5) + 1) + IntKind.wrap .u64 (cf 5)))), .arr .u64 (List.drop 1 (words 0))] (((bf 5).toNat + 1) + (cf 5).toNat), True, tB (numEq (adX [(tmX ((pkV (g2 (keyL 32 bf))).1) ((pkV (g2 (keyL 32 bf))).2) (((bf 5).toNat + 1)), tmY ((pkV (g2 (keyL 32 bf))).1) ((pkV (g2 (keyL 32 bf))).2) (((bf 5).toNat + 1))), (tmX ((pkV (g2 (keyL 32 bf))).1) ((pkV (g2 (keyL 32 bf))).2) ((cf 5).toNat), tmY ((pkV (g2 (keyL 32 bf))).1) ((pkV (g2 (keyL 32 bf))).2) ((cf 5).toNat))]) (tmX ((pkV (g2 (keyL 32 bf))).1) ((pkV (g2 (keyL 32 bf))).2) (((bf 5).toNat + 1) + (cf 5).toNat)) && (numEq (adY [(tmX ((pkV (g2 (keyL 32 bf))).1) ((pkV (g2 (keyL 32 bf))).2) (((bf 5).toNat + 1)), tmY ((pkV (g2 (keyL 32 bf))).1) ((pkV (g2 (keyL 32 bf))).2) (((bf 5).toNat + 1))), (tmX ((pkV (g2 (keyL 32 bf))).1) ((pkV (g2 (keyL 32 bf))).2) ((cf 5).toNat), tmY ((pkV (g2 (keyL 32 bf))).1) ((pkV (g2 (keyL 32 bf))).2) ((cf 5).toNat))]) (tmY ((pkV (g2 (keyL 32 bf))).1) ((pkV (g2 (keyL 32 bf))).2) (((bf 5).toNat + 1) + (cf 5).toNat)) && true)) true]) := by kernel_rfl
theorem lawCurveOrders_fact (xs : List Int) (hl : xs.length = 32) (hw : ∀ z ∈ xs, (Lit.int .u8 z).wf = true) (ys : List Int) (hl2 : ys.length = 32) (hw2 : ∀ z ∈ ys, (Lit.int .u8 z).wf = true) (zs : List Int) (hl3 : zs.length = 32) (hw3 : ∀ z ∈ zs, (Lit.int .u8 z).wf = true) (w : World) (hgw : GWok w.heap.size [] w) : Calls Try.prog 3 #[.agg (xs.map (Value.int .u8)).toArray, .agg (ys.map (Value.int .u8)).toArray, .agg (zs.map (Value.int .u8)).toArray] w fun e w' => e = .returned (.bool true) ∧ Below w.heap.size w w' := by
  have h1 : is32 xs := ⟨hl, wf_bs hw⟩
  have h2 : is32 ys := ⟨hl2, wf_bs hw2⟩
  have h3 : is32 zs := ⟨hl3, wf_bs hw3⟩
  obtain ⟨P, hP⟩ := pk_point (g2 xs) (g2_32 h1)
  obtain ⟨Q, hQ⟩ := pk_point (g2 ys) (g2_32 h2)
  obtain ⟨S, hS⟩ := pk_point (g2 zs) (g2_32 h3)
  have b5 := g2_32 h1 5 (by decide)
  have c5 := g2_32 h2 5 (by decide)
  have hT : 4294967296 < T256 := by decide +kernel
  have hrun := co_run (g2 xs) (g2 ys) (g2 zs)
  rw [keyL_g2 hl, keyL_g2 hl2, keyL_g2 hl3, hP, hQ, hS] at hrun
  have e1 : IntKind.wrap .u64 (IntKind.wrap .u64 (g2 xs 5) + 1) = IntKind.wrap .u64 (((g2 xs 5).toNat + 1 : Nat) : Int) := by
    rw [wU (z := g2 xs 5) (by omega) (by omega)]
    congr 1
    omega
  have e2 : IntKind.wrap .u64 (g2 ys 5) = IntKind.wrap .u64 (((g2 ys 5).toNat : Nat) : Int) := by
    congr 1
    omega
  generalize hN : (g2 xs 5).toNat + 1 = N at *
  generalize hM : (g2 ys 5).toNat = M at *
  have hN2 : N < 1000 := by omega
  have hM2 : M < 1000 := by omega
  have e3 : IntKind.wrap .u64 (IntKind.wrap .u64 (N : Int) + IntKind.wrap .u64 (M : Int)) = IntKind.wrap .u64 ((N + M : Nat) : Int) := by
    rw [wU (z := (N : Int)) (by omega) (by omega), wU (z := (M : Int)) (by omega) (by omega), Int.natCast_add]
  rw [e1, e2, e3] at hrun
  have t1 := tmp P (n := N) (by omega)
  have t2 := tmp P (n := M) (by omega)
  have t3 := tmp P (n := N + M) (by omega)
  simp only [vP] at hrun
  have c1 : Q + P = P + Q := Pl.Pt.add_comm Q P
  have c2 : S + Q + P = P + Q + S := by rw [Pl.Pt.add_comm (S + Q) P, Pl.Pt.add_comm S Q, Pl.Pt.add_assoc]
  have c3 : P + (Q + S) = P + Q + S := (Pl.Pt.add_assoc P Q S).symm
  have c4 : Pl.Pt.mul N P + Pl.Pt.mul M P = Pl.Pt.mul (N + M) P := (Pl.Pt.add_mul P N M).symm
  simp only [t1, t2, t3, (ad2 _ _).1, (ad2 _ _).2, (ad3 _ _ _).1, (ad3 _ _ _).2, c1, c2, c3, c4] at hrun
  exact am_val tyT_ok coO_ok mixed_ Try.func3 (by kernel_rfl) hrun ⟨h1, h2, h3, neP_self _ _, neP_self _ _, neP_self _ _, tW_1 (one_word (by omega)), trivial, tW_1 (one_word (by omega)), trivial, tW_1 (one_word (by omega)), trivial, eqP_self _ _, trivial⟩ (by kernel_rfl) (by kernel_rfl) (fun _ => ⟨none, 0⟩) w hgw
end
end Go.Proofs.Ytgeldhdijochdaa.Am
/- Plain law: the base's order. Conditions: none. -/
namespace Go.Proofs.Ytgeldhdijochdaa.Am
set_option linter.unusedVariables false
set_option linter.unusedSimpArgs false
open Go
open Pl (pP pL T256)
set_option linter.unusedSectionVars false
variable [GT]
/-- The bits of n below i, one by one from above, with a parameter told. -/
def tmRd (d n : Nat) (f : P4) : Nat → P4 → P4
  | 0, o => o
  | i + 1, o => tmRd d n f i (match n.testBit i with
    | true => pAdd d (pAdd d o o) f
    | false => pAdd d o o)
theorem tmR_d (n : Nat) (f : P4) : ∀ (i : Nat) (o : P4), tmR n f i o = tmRd nTwice n f i o
  | 0, _ => rfl
  | i + 1, o => by
    rw [tmR, tmRd, tmR_d n f i]
    cases n.testBit i <;> rfl
def d2N : Nat := 16295367250680780974490674513165176452449235426866156013048779062215315747161
theorem nTwice_lit : nTwice = d2N := by
  rw [nTwice_val]
  decide +kernel
def fBa : P4 := ⟨bxN, byN, 1, bxN * byN % pP⟩
theorem fBa_v : (fFar eB).v = fBa := by
  rw [← far_v]
  unfold pFar fBa
  rw [show eB.x.val = bxN from by decide +kernel, show eB.y.val = byN from by decide +kernel]
  congr 1
def fO : P4 := ⟨0, 1, 1, 0⟩
theorem fO_v : (fFar (Pl.Pt.O : EP)).v = fO := by
  unfold fFar F4.v fO
  rw [P4.mk.injEq]
  refine ⟨by decide +kernel, by decide +kernel, by decide +kernel, by decide +kernel⟩
theorem base_mul (n : Nat) (h : n < 2 ^ 256) : ∃ o : F4, tmRd d2N n fBa 256 fO = o.v ∧ Rep o (Pl.Pt.mul n eB) := by
  obtain ⟨o, h1, h2⟩ := tmR_rep n eB 256 0 (fFar (Pl.Pt.O : EP)) (far_rep _)
  rw [Nat.zero_mul, Nat.zero_add, Nat.mod_eq_of_lt h] at h2
  rw [tmR_d, nTwice_lit, fBa_v, fO_v] at h1
  exact ⟨o, h1, h2⟩
theorem kL : (tmRd d2N pL fBa 256 fO).x = 0 ∧ (tmRd d2N pL fBa 256 fO).y = (tmRd d2N pL fBa 256 fO).z := by decide +kernel
theorem k8 : (tmRd d2N 8 fBa 256 fO).x ≠ 0 := by decide +kernel
theorem one_mul'' {R : Type} [Lean.Grind.CommRing R] (a : R) : 1 * a = a := by grind
theorem zero_mul'' {R : Type} [Lean.Grind.CommRing R] (a : R) : 0 * a = 0 := by grind
theorem one_mul' (a : Pl.F) : 1 * a = a := one_mul'' a
theorem zero_mul' (a : Pl.F) : 0 * a = 0 := zero_mul'' a
theorem mul_self_cancel {a z : Pl.F} (hz : z ≠ 0) (h : z = a * z) : a = 1 := Pl.F_cancel hz (h.symm.trans (one_mul' z).symm)
theorem base_order : Pl.Pt.mul pL eB = Pl.Pt.O := by
  obtain ⟨o, h1, h2⟩ := base_mul pL (by decide +kernel)
  have h3 := kL
  rw [h1] at h3
  have hx : o.x = 0 := Fin.ext h3.1
  have hy : o.y = o.z := Fin.ext h3.2
  refine Pl.Pt.ext ?_ ?_
  · have := h2.x
    rw [hx] at this
    exact (Pl.F_mul_eq_zero this.symm).resolve_right h2.z
  · have := h2.y
    rw [hy] at this
    exact mul_self_cancel h2.z this
theorem base_eight : Pl.Pt.mul 8 eB ≠ Pl.Pt.O := fun h => by
  obtain ⟨o, h1, h2⟩ := base_mul 8 (by decide +kernel)
  have h3 := k8
  rw [h1] at h3
  rw [h] at h2
  have : o.x = 0 * o.z := h2.x
  exact h3 (congrArg Fin.val (this.trans (zero_mul' o.z)))
end Go.Proofs.Ytgeldhdijochdaa.Am
/- @@NUM 26 The walks of residue's Order and double. Conditions: words are below 2^64. -/
namespace Go.Proofs.Ytgeldhdijochdaa
set_option linter.unusedVariables false
set_option linter.unusedSimpArgs false
open Go Go.RowKit
open Pl (V V8 W4 T256 pL)

theorem Order_fact : ∀ w : World, Calls Try.prog 21 #[] w fun e w' => e = .returned (.agg #[.int .u64 6346243789798364141, .int .u64 1503914060200516822, .int .u64 0, .int .u64 1152921504606846976]) ∧ Below w.heap.size w w' := by
  intro w
  go_enter Try.func21, Try.ntmps21
  go_wp2
  refine bodyPost_ret (v := .agg #[.int .u64 6346243789798364141, .int .u64 1503914060200516822, .int .u64 0, .int .u64 1152921504606846976]) (by simp [results, Try.results21, go_sem]) rfl ⟨rfl, ?_⟩
  go_grown

theorem or_bit {s one : Nat} (hs : s < 18446744073709551616) (he : s % 2 = 0) (h1 : one ≤ 1) : bits .or .u64 (s : Int) (one : Int) = ((s + one : Nat) : Int) := by
  rw [bits_or_u64_nat s one hs (by omega)]
  congr 1
  rcases (show one = 0 ∨ one = 1 by omega) with rfl | rfl
  · simp
  · obtain ⟨k, rfl⟩ : ∃ k, s = 2 * k := ⟨s / 2, by omega⟩
    exact (Nat.two_pow_add_eq_or_of_lt (i := 1) (b := 1) (by omega) k).symm

theorem double_spec {n0 n1 n2 n3 s0 s1 s2 s3 c one : Nat} (hn : W4 n0 n1 n2 n3) (hl : V n0 n1 n2 n3 < pL) (h1 : one ≤ 1) (h : W4 s0 s1 s2 s3 ∧ c ≤ 1 ∧ V s0 s1 s2 s3 + T256 * c = V n0 n1 n2 n3 + V n0 n1 n2 n3) : s0 % 2 = 0 ∧ W4 (s0 + one) s1 s2 s3 ∧ V (s0 + one) s1 s2 s3 = 2 * V n0 n1 n2 n3 + one := by
  obtain ⟨hs, hc, h⟩ := h
  have hp := Pl.pL_small
  have hv : V (s0 + one) s1 s2 s3 = V s0 s1 s2 s3 + one := by unfold V; omega
  have hc0 : c = 0 := by
    rcases (show c = 0 ∨ c = 1 by omega) with rfl | rfl
    · rfl
    · omega
  subst hc0
  have he : s0 % 2 = 0 := by
    have h2 : V s0 s1 s2 s3 % 2 = 0 := by omega
    unfold V at h2; omega
  refine ⟨he, ?_, by omega⟩
  unfold W4 at hs ⊢
  omega

set_option maxHeartbeats 2000000 in
theorem double_fact (n0 n1 n2 n3 one : Nat) (hn : W4 n0 n1 n2 n3) (hl : V n0 n1 n2 n3 < pL) (h1 : one ≤ 1) : ∃ r0 r1 r2 r3 : Nat, (W4 r0 r1 r2 r3 ∧ V r0 r1 r2 r3 = (2 * V n0 n1 n2 n3 + one) % pL) ∧ ∀ w : World,
    Calls Try.prog 51 #[.agg #[.int .u64 n0, .int .u64 n1, .int .u64 n2, .int .u64 n3], .int .u64 one] w fun e w' => e = .returned (.agg #[.int .u64 r0, .int .u64 r1, .int .u64 r2, .int .u64 r3]) ∧ Below w.heap.size w w' := by
  obtain ⟨s0, s1, s2, s3, c, hs, FP⟩ := plus_fact n0 n1 n2 n3 n0 n1 n2 n3 hn hn
  obtain ⟨he, ht, hv⟩ := double_spec hn hl h1 hs
  have hor := or_bit hs.1.1 he h1
  obtain ⟨t0, ht0⟩ : ∃ t0, s0 + one = t0 := ⟨_, rfl⟩
  rw [ht0] at ht hv hor
  obtain ⟨z, hz, FL⟩ := less_fact t0 s1 s2 s3 _ _ _ _ ht Pl.pL_W
  rw [Pl.pL_words, hv] at hz
  have HP := Lib.hid FP; have HL := Lib.hid FL; have HO := Lib.hid Order_fact
  clear FP FL ht0 hs he
  rcases Pl.twice_bit hl h1 with ⟨hlt, hm⟩ | ⟨hge, hm⟩
  · obtain rfl : z = true := hz.2 hlt
    refine ⟨t0, s1, s2, s3, ⟨ht, by rw [hv, hm]⟩, fun w => ?_⟩
    clear hz hm hlt hv ht hl hn h1
    go_enter Try.func51, Try.ntmps51
    go_wp2_with (fail)
    go_at_call 53
    refine (HP.out _).mono ?_
    rintro e wa ⟨rfl, hb⟩
    have HBn : Hid (Below w.heap.size w wa) := Lib.hid ((fun (h : Below _ _ _) => below_call h h.size hb) (by first | go_grown))
    have hBa_ : wa.heap[w.heap.size]? = some (.cells #[.int .u64 n0, .int .u64 n1, .int .u64 n2, .int .u64 n3] 26 (0, 0)) := heap_keep' hb (by repeat (first | (with_reducible refine heap_new' ?_ _; simp; done) | (with_reducible refine keep4 ?_ (by omega) _ _ _ _) | (with_reducible refine heap_old ?_ _) | (with_reducible refine heap_drew ?_) | (with_reducible refine heap_set_ne ?_ (by simp <;> omega) _)))
    have hBr_ : wa.heap[w.heap.size + 1]? = some (.cells #[.int .u64 0, .int .u64 0, .int .u64 0, .int .u64 0] 26 (0, 0)) := heap_keep' hb (by repeat (first | (with_reducible refine heap_new' ?_ _; simp; done) | (with_reducible refine keep4 ?_ (by omega) _ _ _ _) | (with_reducible refine heap_old ?_ _) | (with_reducible refine heap_drew ?_) | (with_reducible refine heap_set_ne ?_ (by simp <;> omega) _)))
    clear hb
    have HB := HBn; clear HBn
    have HBa := Lib.hid hBa_; have cBa := cells4 hBa_; have fBa := frozen_of hBa_; have zBa := lt_of_heap hBa_; clear hBa_
    have HBr := Lib.hid hBr_; have cBr := cells4 hBr_; have fBr := frozen_of hBr_; have zBr := lt_of_heap hBr_; clear hBr_
    go_wp2
    refine Rg.region_ (n := 29) [0, 0, 3, 7] [1, 1, 1, 0] [18, 19, 20, 21] [[(5, none)], [], [(18, some 0), (19, some 1)], [(20, some 2)]] 4 (by kernel_rfl) (by kernel_rfl) (by rfl) ?_
    intro W hW
    have hBa_ : W.heap[w.heap.size]? = some (.cells #[.int .u64 n0, .int .u64 n1, .int .u64 n2, .int .u64 n3] 26 (0, 0)) := by rw [hW]; exact (by repeat (first | (with_reducible exact HBa.out) | (with_reducible exact set4 HBa.out _ _ _ _) | (with_reducible apply set4) | (with_reducible refine heap_new' ?_ _; simp; done) | (with_reducible refine keep4 ?_ (by omega) _ _ _ _) | (with_reducible refine heap_old ?_ _) | (with_reducible refine heap_drew ?_) | (with_reducible refine heap_set_ne ?_ (by simp <;> omega) _)))
    have hBr_ : W.heap[w.heap.size + 1]? = some (.cells #[.int .u64 0, .int .u64 0, .int .u64 0, .int .u64 0] 26 (0, 0)) := by rw [hW]; exact (by repeat (first | (with_reducible exact HBr.out) | (with_reducible exact set4 HBr.out _ _ _ _) | (with_reducible apply set4) | (with_reducible refine heap_new' ?_ _; simp; done) | (with_reducible refine keep4 ?_ (by omega) _ _ _ _) | (with_reducible refine heap_old ?_ _) | (with_reducible refine heap_drew ?_) | (with_reducible refine heap_set_ne ?_ (by simp <;> omega) _)))
    have hBo_ : W.heap[wa.heap.size]? = some (.cells #[.int .u64 t0, .int .u64 s1, .int .u64 s2, .int .u64 s3] 26 (0, 0)) := by rw [hW]; exact (by repeat (first | (with_reducible refine heap_new' ?_ _; simp; done) | (with_reducible refine keep4 ?_ (by omega) _ _ _ _) | (with_reducible refine heap_old ?_ _) | (with_reducible refine heap_drew ?_) | (with_reducible refine heap_set_ne ?_ (by simp <;> omega) _)))
    have HB0 : Below w.heap.size w W := by rw [hW]; have hB0 := HB.out; have hS0 := hB0.size; first | exact hB0.drew | exact (set4_below hB0 (by omega) _ _ _ _).drew | go_grown
    change Rg.Chain' _ _ _ _ _ [(0, 1, 18, [(5, none)]), (1, 1, 19, []), (2, 1, 20, [(18, some 0), (19, some 1)]), (3, 0, 21, [(20, some 2)])] [(0, 1, 18, [(5, none)]), (1, 1, 19, []), (2, 1, 20, [(18, some 0), (19, some 1)]), (3, 0, 21, [(20, some 2)])] _
    apply Rg.ch_def (by rfl) (fun a w1 _ => Rg.wanted_none (by rfl))
    · rintro a w1 hb ⟨e5, -⟩
      conv at e5 => rhs; whnf
      have n5 := e5
      simp only [Act.eval, Array.getD_eq_getD_getElem?] at n5
      apply Rg.gives_value
      · conv => lhs; simp [go_sem, n5, cells4 (heap_keep' hb hBa_), cells4 (heap_keep' hb hBr_), cells4 (heap_keep' hb hBo_)]
      · exact ⟨rfl, Below.refl _ _⟩
    apply Rg.ch_def (by rfl) (fun a w1 _ => Rg.wanted_none (by rfl))
    · rintro a w1 hb -
      apply Rg.gives_enter
      · exact run_call Try.func21 (by kernel_rfl) rfl #[] (by rfl) (by simp)
      · refine (HO.out _).mono ?_
        rintro e w2 ⟨rfl, hb2⟩
        exact ⟨_, rfl, rfl, hb2⟩
    apply Rg.ch_def (by rfl) (fun a w1 _ => Rg.wanted_none (by rfl))
    · rintro a w1 hb ⟨e18, e19, -⟩
      replace e18 : a.eval (.tmp 18) = _ := e18
      replace e19 : a.eval (.tmp 19) = _ := e19
      apply Rg.gives_enter
      · apply run_call Try.func40 (by kernel_rfl) rfl _ (by rfl)
        conv => lhs; simp only [List.map_toArray, List.map_cons, List.map_nil, eval_const_, eval_global_, e18, e19]
      · refine (HL.out _).mono ?_
        rintro e w2 ⟨rfl, hb2⟩
        exact ⟨_, rfl, rfl, hb2⟩
    apply Rg.ch_pure (by rfl)
    · rintro a w1 ⟨e20, -⟩
      replace e20 : a.eval (.tmp 20) = _ := e20
      have n20 := e20
      simp only [Act.eval, Array.getD_eq_getD_getElem?] at n20
      apply Rg.yields_run (Rg.wanted_none (by rfl))
      intro w2
      conv => lhs; simp [go_sem, n20]
    intro w1 hb1
    rintro _ rfl _ rfl _ rfl _ rfl
    change Go.wpList _ _ _ _ _ _
    simp only [List.drop_succ_cons, List.drop_zero, List.drop_nil, Act.put, List.setIfInBounds_toArray, List.set_cons_succ, List.set_cons_zero]
    change Go.NoPanic _ _ _ _
    refine NoPanic.normal ?_
    have HBn : Hid (Below w.heap.size w w1) := Lib.hid (below_call HB0 HB0.size hb1)
    have hBa__ := heap_keep' hb1 hBa_
    have hBr__ := heap_keep' hb1 hBr_
    have hBo__ := heap_keep' hb1 hBo_
    clear hb1 HB0 HB hBa_ HBa cBa fBa zBa hBr_ HBr cBr fBr zBr hBo_
    clear hW
    obtain ⟨wb, rfl⟩ : ∃ x : World, x = w1 := ⟨_, rfl⟩
    have HB := HBn; clear HBn
    have HBa := Lib.hid hBa__; have cBa := cells4 hBa__; have fBa := frozen_of hBa__; have zBa := lt_of_heap hBa__; clear hBa__
    have HBr := Lib.hid hBr__; have cBr := cells4 hBr__; have fBr := frozen_of hBr__; have zBr := lt_of_heap hBr__; clear hBr__
    have HBo := Lib.hid hBo__; have cBo := cells4 hBo__; have fBo := frozen_of hBo__; have zBo := lt_of_heap hBo__; clear hBo__
    go_wp2
    have hK := set4 HBr.out (.int .u64 t0) (.int .u64 s1) (.int .u64 s2) (.int .u64 s3)
    have hQ := cells4 hK
    exact bodyPost_ret (v := .agg #[.int .u64 t0, .int .u64 s1, .int .u64 s2, .int .u64 s3]) (by simp [results, Try.results51, go_sem, hQ]) rfl ⟨rfl, set4_below HB.out (by omega) _ _ _ _⟩
  · obtain rfl : z = false := by
      cases z
      · rfl
      · exact absurd (hz.1 rfl) (by omega)
    obtain ⟨d0, d1, d2, d3, c2, ⟨hd, hc2, hdv⟩, FM⟩ := minus_fact t0 s1 s2 s3 _ _ _ _ ht Pl.pL_W
    rw [Pl.pL_words, hv] at hdv
    have hd2 := Pl.V_lt hd
    have hp := Pl.pL_small
    have hc0 : c2 = 0 := by
      rcases (show c2 = 0 ∨ c2 = 1 by omega) with rfl | rfl
      · rfl
      · omega
    subst hc0
    have HM := Lib.hid FM
    refine ⟨d0, d1, d2, d3, ⟨hd, by omega⟩, fun w => ?_⟩
    clear FM hz hm hge hv ht hl hn h1 hd hc2 hdv hd2 hp
    go_enter Try.func51, Try.ntmps51
    go_wp2_with (fail)
    go_at_call 53
    refine (HP.out _).mono ?_
    rintro e wa ⟨rfl, hb⟩
    have HBn : Hid (Below w.heap.size w wa) := Lib.hid ((fun (h : Below _ _ _) => below_call h h.size hb) (by first | go_grown))
    have hBa_ : wa.heap[w.heap.size]? = some (.cells #[.int .u64 n0, .int .u64 n1, .int .u64 n2, .int .u64 n3] 26 (0, 0)) := heap_keep' hb (by repeat (first | (with_reducible refine heap_new' ?_ _; simp; done) | (with_reducible refine keep4 ?_ (by omega) _ _ _ _) | (with_reducible refine heap_old ?_ _) | (with_reducible refine heap_drew ?_) | (with_reducible refine heap_set_ne ?_ (by simp <;> omega) _)))
    have hBr_ : wa.heap[w.heap.size + 1]? = some (.cells #[.int .u64 0, .int .u64 0, .int .u64 0, .int .u64 0] 26 (0, 0)) := heap_keep' hb (by repeat (first | (with_reducible refine heap_new' ?_ _; simp; done) | (with_reducible refine keep4 ?_ (by omega) _ _ _ _) | (with_reducible refine heap_old ?_ _) | (with_reducible refine heap_drew ?_) | (with_reducible refine heap_set_ne ?_ (by simp <;> omega) _)))
    clear hb
    have HB := HBn; clear HBn
    have HBa := Lib.hid hBa_; have cBa := cells4 hBa_; have fBa := frozen_of hBa_; have zBa := lt_of_heap hBa_; clear hBa_
    have HBr := Lib.hid hBr_; have cBr := cells4 hBr_; have fBr := frozen_of hBr_; have zBr := lt_of_heap hBr_; clear hBr_
    have kz1 := zBr
    go_wp2
    refine Rg.region_ (n := 29) [0, 0, 3, 7] [1, 1, 1, 0] [18, 19, 20, 21] [[(5, none)], [], [(18, some 0), (19, some 1)], [(20, some 2)]] 4 (by kernel_rfl) (by kernel_rfl) (by rfl) ?_
    intro W hW
    have hBa_ : W.heap[w.heap.size]? = some (.cells #[.int .u64 n0, .int .u64 n1, .int .u64 n2, .int .u64 n3] 26 (0, 0)) := by rw [hW]; exact (by repeat (first | (with_reducible exact HBa.out) | (with_reducible exact set4 HBa.out _ _ _ _) | (with_reducible apply set4) | (with_reducible refine heap_new' ?_ _; simp; done) | (with_reducible refine keep4 ?_ (by omega) _ _ _ _) | (with_reducible refine heap_old ?_ _) | (with_reducible refine heap_drew ?_) | (with_reducible refine heap_set_ne ?_ (by simp <;> omega) _)))
    have hBr_ : W.heap[w.heap.size + 1]? = some (.cells #[.int .u64 0, .int .u64 0, .int .u64 0, .int .u64 0] 26 (0, 0)) := by rw [hW]; exact (by repeat (first | (with_reducible exact HBr.out) | (with_reducible exact set4 HBr.out _ _ _ _) | (with_reducible apply set4) | (with_reducible refine heap_new' ?_ _; simp; done) | (with_reducible refine keep4 ?_ (by omega) _ _ _ _) | (with_reducible refine heap_old ?_ _) | (with_reducible refine heap_drew ?_) | (with_reducible refine heap_set_ne ?_ (by simp <;> omega) _)))
    have hBo_ : W.heap[wa.heap.size]? = some (.cells #[.int .u64 t0, .int .u64 s1, .int .u64 s2, .int .u64 s3] 26 (0, 0)) := by rw [hW]; exact (by repeat (first | (with_reducible refine heap_new' ?_ _; simp; done) | (with_reducible refine keep4 ?_ (by omega) _ _ _ _) | (with_reducible refine heap_old ?_ _) | (with_reducible refine heap_drew ?_) | (with_reducible refine heap_set_ne ?_ (by simp <;> omega) _)))
    have HB0 : Below w.heap.size w W := by rw [hW]; have hB0 := HB.out; have hS0 := hB0.size; first | exact hB0.drew | exact (set4_below hB0 (by omega) _ _ _ _).drew | go_grown
    change Rg.Chain' _ _ _ _ _ [(0, 1, 18, [(5, none)]), (1, 1, 19, []), (2, 1, 20, [(18, some 0), (19, some 1)]), (3, 0, 21, [(20, some 2)])] [(0, 1, 18, [(5, none)]), (1, 1, 19, []), (2, 1, 20, [(18, some 0), (19, some 1)]), (3, 0, 21, [(20, some 2)])] _
    apply Rg.ch_def (by rfl) (fun a w1 _ => Rg.wanted_none (by rfl))
    · rintro a w1 hb ⟨e5, -⟩
      conv at e5 => rhs; whnf
      have n5 := e5
      simp only [Act.eval, Array.getD_eq_getD_getElem?] at n5
      apply Rg.gives_value
      · conv => lhs; simp [go_sem, n5, cells4 (heap_keep' hb hBa_), cells4 (heap_keep' hb hBr_), cells4 (heap_keep' hb hBo_)]
      · exact ⟨rfl, Below.refl _ _⟩
    apply Rg.ch_def (by rfl) (fun a w1 _ => Rg.wanted_none (by rfl))
    · rintro a w1 hb -
      apply Rg.gives_enter
      · exact run_call Try.func21 (by kernel_rfl) rfl #[] (by rfl) (by simp)
      · refine (HO.out _).mono ?_
        rintro e w2 ⟨rfl, hb2⟩
        exact ⟨_, rfl, rfl, hb2⟩
    apply Rg.ch_def (by rfl) (fun a w1 _ => Rg.wanted_none (by rfl))
    · rintro a w1 hb ⟨e18, e19, -⟩
      replace e18 : a.eval (.tmp 18) = _ := e18
      replace e19 : a.eval (.tmp 19) = _ := e19
      apply Rg.gives_enter
      · apply run_call Try.func40 (by kernel_rfl) rfl _ (by rfl)
        conv => lhs; simp only [List.map_toArray, List.map_cons, List.map_nil, eval_const_, eval_global_, e18, e19]
      · refine (HL.out _).mono ?_
        rintro e w2 ⟨rfl, hb2⟩
        exact ⟨_, rfl, rfl, hb2⟩
    apply Rg.ch_pure (by rfl)
    · rintro a w1 ⟨e20, -⟩
      replace e20 : a.eval (.tmp 20) = _ := e20
      have n20 := e20
      simp only [Act.eval, Array.getD_eq_getD_getElem?] at n20
      apply Rg.yields_run (Rg.wanted_none (by rfl))
      intro w2
      conv => lhs; simp [go_sem, n20]
    intro w1 hb1
    rintro _ rfl _ rfl _ rfl _ rfl
    change Go.wpList _ _ _ _ _ _
    simp only [List.drop_succ_cons, List.drop_zero, List.drop_nil, Act.put, List.setIfInBounds_toArray, List.set_cons_succ, List.set_cons_zero]
    change Go.NoPanic _ _ _ _
    refine NoPanic.normal ?_
    have HBn : Hid (Below w.heap.size w w1) := Lib.hid (below_call HB0 HB0.size hb1)
    have hBa__ := heap_keep' hb1 hBa_
    have hBr__ := heap_keep' hb1 hBr_
    have hBo__ := heap_keep' hb1 hBo_
    clear hb1 HB0 HB hBa_ HBa cBa fBa zBa hBr_ HBr cBr fBr zBr hBo_
    clear hW
    obtain ⟨wb, rfl⟩ : ∃ x : World, x = w1 := ⟨_, rfl⟩
    have HB := HBn; clear HBn
    have HBa := Lib.hid hBa__; have cBa := cells4 hBa__; have fBa := frozen_of hBa__; have zBa := lt_of_heap hBa__; clear hBa__
    have HBr := Lib.hid hBr__; have cBr := cells4 hBr__; have fBr := frozen_of hBr__; have zBr := lt_of_heap hBr__; clear hBr__
    have HBo := Lib.hid hBo__; have cBo := cells4 hBo__; have fBo := frozen_of hBo__; have zBo := lt_of_heap hBo__; clear hBo__
    go_wp2
    refine Rg.region_ (n := 29) [0, 0, 3, 7, 15, 15, 31] [1, 1, 1, 0, 0, 0, 2] [23, 24, 25, 22, 26, 27, 0] [[(5, none)], [], [(23, some 0), (24, some 1)], [(25, some 2)], [(22, some 3)], [(22, some 3)], [(5, none), (26, some 4)]] 6 (by kernel_rfl) (by kernel_rfl) (by rfl) ?_
    intro W hW
    have hBa_ : W.heap[w.heap.size]? = some (.cells #[.int .u64 n0, .int .u64 n1, .int .u64 n2, .int .u64 n3] 26 (0, 0)) := by rw [hW]; exact (by repeat (first | (with_reducible exact HBa.out) | (with_reducible exact set4 HBa.out _ _ _ _) | (with_reducible apply set4) | (with_reducible refine heap_new' ?_ _; simp; done) | (with_reducible refine keep4 ?_ (by omega) _ _ _ _) | (with_reducible refine heap_old ?_ _) | (with_reducible refine heap_drew ?_) | (with_reducible refine heap_set_ne ?_ (by simp <;> omega) _)))
    have hBr_ : W.heap[w.heap.size + 1]? = some (.cells #[.int .u64 0, .int .u64 0, .int .u64 0, .int .u64 0] 26 (0, 0)) := by rw [hW]; exact (by repeat (first | (with_reducible exact HBr.out) | (with_reducible exact set4 HBr.out _ _ _ _) | (with_reducible apply set4) | (with_reducible refine heap_new' ?_ _; simp; done) | (with_reducible refine keep4 ?_ (by omega) _ _ _ _) | (with_reducible refine heap_old ?_ _) | (with_reducible refine heap_drew ?_) | (with_reducible refine heap_set_ne ?_ (by simp <;> omega) _)))
    have hBo_ : W.heap[wa.heap.size]? = some (.cells #[.int .u64 t0, .int .u64 s1, .int .u64 s2, .int .u64 s3] 26 (0, 0)) := by rw [hW]; exact (by repeat (first | (with_reducible exact HBo.out) | (with_reducible exact set4 HBo.out _ _ _ _) | (with_reducible apply set4) | (with_reducible refine heap_new' ?_ _; simp; done) | (with_reducible refine keep4 ?_ (by omega) _ _ _ _) | (with_reducible refine heap_old ?_ _) | (with_reducible refine heap_drew ?_) | (with_reducible refine heap_set_ne ?_ (by simp <;> omega) _)))
    have HB0 : Below w.heap.size w W := by rw [hW]; have hB0 := HB.out; have hS0 := hB0.size; first | exact hB0.drew | exact (set4_below hB0 (by omega) _ _ _ _).drew | go_grown
    change Rg.Chain' _ _ _ _ _ [(0, 1, 23, [(5, none)]), (1, 1, 24, []), (2, 1, 25, [(23, some 0), (24, some 1)]), (3, 0, 22, [(25, some 2)]), (4, 0, 26, [(22, some 3)]), (5, 0, 27, [(22, some 3)])] [(0, 1, 23, [(5, none)]), (1, 1, 24, []), (2, 1, 25, [(23, some 0), (24, some 1)]), (3, 0, 22, [(25, some 2)]), (4, 0, 26, [(22, some 3)]), (5, 0, 27, [(22, some 3)])] _
    apply Rg.ch_def (by rfl) (fun a w1 _ => Rg.wanted_none (by rfl))
    · rintro a w1 hb ⟨e5, -⟩
      conv at e5 => rhs; whnf
      have n5 := e5
      simp only [Act.eval, Array.getD_eq_getD_getElem?] at n5
      apply Rg.gives_value
      · conv => lhs; simp [go_sem, n5, cells4 (heap_keep' hb hBa_), cells4 (heap_keep' hb hBr_), cells4 (heap_keep' hb hBo_)]
      · exact ⟨rfl, Below.refl _ _⟩
    apply Rg.ch_def (by rfl) (fun a w1 _ => Rg.wanted_none (by rfl))
    · rintro a w1 hb -
      apply Rg.gives_enter
      · exact run_call Try.func21 (by kernel_rfl) rfl #[] (by rfl) (by simp)
      · refine (HO.out _).mono ?_
        rintro e w2 ⟨rfl, hb2⟩
        exact ⟨_, rfl, rfl, hb2⟩
    apply Rg.ch_def (by rfl) (fun a w1 _ => Rg.wanted_none (by rfl))
    · rintro a w1 hb ⟨e23, e24, -⟩
      replace e23 : a.eval (.tmp 23) = _ := e23
      replace e24 : a.eval (.tmp 24) = _ := e24
      apply Rg.gives_enter
      · apply run_call Try.func47 (by kernel_rfl) rfl _ (by rfl)
        conv => lhs; simp only [List.map_toArray, List.map_cons, List.map_nil, eval_const_, eval_global_, e23, e24]
      · refine (HM.out _).mono ?_
        rintro e w2 ⟨rfl, hb2⟩
        exact ⟨_, rfl, rfl, hb2⟩
    apply Rg.ch_pure (by rfl)
    · rintro a w1 ⟨e25, -⟩
      replace e25 : a.eval (.tmp 25) = _ := e25
      have n25 := e25
      simp only [Act.eval, Array.getD_eq_getD_getElem?] at n25
      apply Rg.yields_run (Rg.wanted_none (by rfl))
      intro w2
      conv => lhs; simp [go_sem, n25]
    apply Rg.ch_pure (by rfl)
    · rintro a w1 ⟨e22, -⟩
      replace e22 : a.eval (.tmp 22) = _ := e22
      have n22 := e22
      simp only [Act.eval, Array.getD_eq_getD_getElem?] at n22
      apply Rg.yields_run (Rg.wanted_none (by rfl))
      intro w2
      conv => lhs; simp [go_sem, n22]
    apply Rg.ch_pure (by rfl)
    · rintro a w1 ⟨e22, -⟩
      replace e22 : a.eval (.tmp 22) = _ := e22
      have n22 := e22
      simp only [Act.eval, Array.getD_eq_getD_getElem?] at n22
      apply Rg.yields_run (Rg.wanted_none (by rfl))
      intro w2
      conv => lhs; simp [go_sem, n22]
    intro w1 hb1
    rintro _ rfl _ rfl _ rfl _ rfl _ rfl _ rfl
    change Go.wpList _ _ _ _ _ _
    simp only [List.drop_succ_cons, List.drop_zero, List.drop_nil, Act.put, List.setIfInBounds_toArray, List.set_cons_succ, List.set_cons_zero]
    have HBn : Hid (Below w.heap.size w w1) := Lib.hid (below_call HB0 HB0.size hb1)
    have hBa__ := heap_keep' hb1 hBa_
    have hBr__ := heap_keep' hb1 hBr_
    have hBo__ := heap_keep' hb1 hBo_
    clear hb1 HB0 HB hBa_ HBa cBa fBa zBa hBr_ HBr cBr fBr zBr hBo_ HBo cBo fBo zBo
    clear hW
    obtain ⟨wc, rfl⟩ : ∃ x : World, x = w1 := ⟨_, rfl⟩
    have HB := HBn; clear HBn
    have HBa := Lib.hid hBa__; have cBa := cells4 hBa__; have fBa := frozen_of hBa__; have zBa := lt_of_heap hBa__; clear hBa__
    have HBr := Lib.hid hBr__; have cBr := cells4 hBr__; have fBr := frozen_of hBr__; have zBr := lt_of_heap hBr__; clear hBr__
    have HBo := Lib.hid hBo__; have cBo := cells4 hBo__; have fBo := frozen_of hBo__; have zBo := lt_of_heap hBo__; clear hBo__
    go_wp2
    refine NoPanic.normal ?_
    go_wp2
    have hK := set4 (keep4 (b' := wa.heap.size) HBr.out (by omega) (.int .u64 d0) (.int .u64 d1) (.int .u64 d2) (.int .u64 d3)) (.int .u64 d0) (.int .u64 d1) (.int .u64 d2) (.int .u64 d3)
    have hL := set4_below (set4_below HB.out (b := wa.heap.size) (by omega) (.int .u64 d0) (.int .u64 d1) (.int .u64 d2) (.int .u64 d3)) (b := w.heap.size + 1) (by omega) (.int .u64 d0) (.int .u64 d1) (.int .u64 d2) (.int .u64 d3)
    have hQ := cells4 hK
    exact bodyPost_ret (v := .agg #[.int .u64 d0, .int .u64 d1, .int .u64 d2, .int .u64 d3]) (by simp [results, Try.results51, go_sem, hQ]) rfl ⟨rfl, hL⟩

end Go.Proofs.Ytgeldhdijochdaa
/- What slices.Backward over a row of bytes hands to each loop body: the row's bytes, the last one first. Conditions: the row has at most 1000 bytes. -/
namespace Go.Proofs.Ytgeldhdijochdaa
set_option linter.unusedVariables false
set_option linter.unusedSimpArgs false
open Go Go.RowKit Go.Shelf
attribute [local go_sem] Oper.semAt_some

/-- A place and a byte. -/
abbrev PB := { p : Nat × Nat // p.2 < 256 }
abbrev pbs (p : PB) : Array Value := #[.int .i64 (p.1.1 : Int), .int .u8 (p.1.2 : Int)]
/-- What comes when m bytes are left. -/
def pbAt (zs : List Nat) (m : Nat) : PB := ⟨(m, zs[m]?.getD 0 % 256), Nat.mod_lt _ (by decide)⟩
/-- What has come when m bytes are left. -/
def pbUp (zs : List Nat) (m : Nat) : List PB := ((List.range (zs.length - m)).map fun j => pbAt zs (zs.length - 1 - j))
theorem pbUp_all (zs : List Nat) : pbUp zs zs.length = [] := by simp [pbUp]
theorem pbUp_len (zs : List Nat) {m : Nat} : (pbUp zs m).length = zs.length - m := by simp [pbUp]
theorem pbUp_step (zs : List Nat) {m : Nat} (h : m < zs.length) : pbUp zs m = pbUp zs (m + 1) ++ [pbAt zs m] := by
  unfold pbUp
  rw [show zs.length - m = zs.length - (m + 1) + 1 by omega, List.range_succ, List.map_append, List.map_cons, List.map_nil, show zs.length - 1 - (zs.length - (m + 1)) = m by omega]

/-- What a round keeps: all below n, and block Bs. -/
def KpB (n Bs : Nat) (A B : World) : Prop := Below n A B ∧ B.heap[Bs]? = A.heap[Bs]?
theorem KpB.refl (n Bs : Nat) (A : World) : KpB n Bs A A := ⟨Below.refl _ _, rfl⟩
theorem KpB.trans {n Bs : Nat} {A B C : World} (h : KpB n Bs A B) (k : KpB n Bs B C) : KpB n Bs A C := ⟨h.1.trans k.1, k.2.trans h.2⟩
theorem KpB.cell {n Bs : Nat} {A B : World} (h : KpB n Bs A B) (i : Nat) : B.cell? ⟨Bs, i, none⟩ = A.cell? ⟨Bs, i, none⟩ := World.cell?_of_block h.2

theorem wrap_pred {q : Nat} (h : q < 1000) : wrap64 ((q : Int) - 1) = (q : Int) - 1 := by unfold wrap64; omega

set_option maxRecDepth 100000 in
set_option maxHeartbeats 2000000 in
theorem back1_in (F : Fence) (n : Nat) (hf : F.fn 62) (hro : F.round = none) (hn : 1 ≤ n) (l Bs n0 cap : Nat) (x : Addr) (zs : List Nat) (hz : ∀ j, j < zs.length → zs[j]?.getD 0 < 256) (hlen : zs.length ≤ 1000) (hb : x.block < n0) (J Jx : List PB → World → Prop)
    (hY : ∀ pre p W, J pre W → pre.length < zs.length → YieldAt F (n - 1) Try.prog l (pbs p) W fun e W' =>
      (e = .returned (.bool true) ∧ J (pre ++ [p]) W' ∧ KpB n0 Bs W W') ∨ (e = .returned (.bool false) ∧ Jx (pre ++ [p]) W'))
    (W : World) (hBs : W.cell? ⟨Bs, 0, none⟩ = some (.slice (some x) zs.length cap)) (hc : ∀ j, j < zs.length → W.cell? (x.add j) = some (.int .u8 ((zs[j]?.getD 0 : Nat) : Int))) (h0 : J [] W) :
    CallsIn F n Try.prog 62 #[.func (.yield l) #[] #[], .pointer (some ⟨Bs, 0, none⟩)] W fun e W' => (∃ v, e = .returned v) ∧
      ((∃ ys, ys = pbUp zs 0 ∧ J ys W') ∨ (∃ pre, (∃ m, m < zs.length ∧ pre = pbUp zs m) ∧ Jx pre W')) := by
  refine callsIn_of_wp Try.func62 rfl hf ?_ hro
  simp only [Try.ntmps62, List.size_toArray, List.length_cons, List.length_nil, Nat.reduceAdd, Nat.reduceSub, Array.replicate_succ, Array.replicate_zero, List.push_toArray, List.append_toArray, List.nil_append, List.cons_append]
  gi_wp2
  gi_loopw [3] (fun i wr => ∃ m : Nat, ∃ z : Int, i = .int .i64 z ∧ z = (m : Int) - 1 ∧ m ≤ zs.length ∧ J (pbUp zs m) wr ∧ KpB n0 Bs W wr)
    (fun i _ => (intOf i + 1).toNat)
  case atStart => exact ⟨zs.length, _, rfl, rfl, Nat.le_refl _, by rw [pbUp_all]; exact h0, KpB.refl _ _ _⟩
  case round =>
    obtain ⟨m, z, rfl, hz1, hm, hJs, hnx⟩ := hrel
    have hBs' := (hnx.cell 0).trans hBs
    rcases m with _ | q
    · obtain rfl : z = -1 := by omega
      clear hz1
      gi_wp2
      go_end0
      exact ⟨⟨_, rfl⟩, .inl ⟨_, rfl, hJs⟩⟩
    · obtain rfl : z = (q : Int) := by omega
      clear hz1
      have hcx := (hnx.1.cell (p := x.add q) (by rw [add_block]; exact hb)).trans (hc q (by omega))
      have hzq := hz q (by omega)
      obtain ⟨fn, tmps, assign, body, hy, hR⟩ := hY _ (pbAt zs q) wr hJs (by rw [pbUp_len]; omega)
      simp only [pbs, pbAt, Nat.mod_eq_of_lt hzq] at hy
      gi_wp2
      refine hR.mono ?_
      rintro e W3 (⟨rfl, hJ3, hk3⟩ | ⟨rfl, hJx3⟩)
      · gi_wp2
        go_roundw
        case rel => exact ⟨q, _, rfl, rfl, by omega, by rw [pbUp_step zs (by omega)]; exact hJ3, hnx.trans hk3⟩
        case measure => simp only [intOf]; omega
      · gi_wp2
        refine bodyPost_ret (results_none rfl _ _ _) rfl ?_
        exact ⟨⟨_, rfl⟩, .inr ⟨_, ⟨q, by omega, (pbUp_step zs (by omega)).symm⟩, hJx3⟩⟩

set_option maxRecDepth 100000 in
set_option maxHeartbeats 1000000 in
theorem back1_nil_in (F : Fence) (n : Nat) (hf : F.fn 62) (hro : F.round = none) (l Bs : Nat) (J : List PB → World → Prop) (W : World) (hBs : W.cell? ⟨Bs, 0, none⟩ = some (.slice none 0 0)) (h0 : J [] W) :
    CallsIn F n Try.prog 62 #[.func (.yield l) #[] #[], .pointer (some ⟨Bs, 0, none⟩)] W fun e W' => (∃ v, e = .returned v) ∧ J [] W' := by
  refine callsIn_of_wp Try.func62 rfl hf ?_ hro
  simp only [Try.ntmps62, List.size_toArray, List.length_cons, List.length_nil, Nat.reduceAdd, Nat.reduceSub, Array.replicate_succ, Array.replicate_zero, List.push_toArray, List.append_toArray, List.nil_append, List.cons_append]
  gi_wp2
  gi_loopw [3] (fun i wr => i = .int .i64 (-1) ∧ J [] wr) (fun _ _ => 0)
  case atStart => exact ⟨rfl, h0⟩
  case round =>
    obtain ⟨rfl, hJs⟩ := hrel
    gi_wp2
    go_end0
    exact ⟨⟨_, rfl⟩, hJs⟩

set_option maxHeartbeats 1000000 in
theorem back_in (F : Fence) (n : Nat) (hf : F.fn 50) (hro : F.round = none) (a : Option Addr) (len cap : Nat) (w : World) :
    CallsIn F n Try.prog 50 #[.slice a len cap] w fun e w' => e = .returned (.func (.func 62) #[] #[.pointer (some ⟨w.heap.size, 0, none⟩)]) ∧ w' = w.alloc (.cells #[.slice a len cap] 35) := by
  refine callsIn_of_wp Try.func50 rfl hf ?_ hro
  simp only [Try.ntmps50, List.size_toArray, List.length_cons, List.length_nil, Nat.reduceAdd, Nat.reduceSub, Array.replicate_succ, Array.replicate_zero, List.push_toArray, List.append_toArray, List.nil_append, List.cons_append]
  gi_wp2
  go_ret
  exact ⟨rfl, rfl⟩

/-- slices.Backward hands back a value that comes up with all of the row's bytes, the last one first, or with some, where a round leaves. -/
theorem back_stops (F : Fence) (n : Nat) (hf : F.fn 62) (hro : F.round = none) (hn : 1 ≤ n) (Bs n0 : Nat) (sv : Value) (zs : List Nat) (hz : ∀ j, j < zs.length → zs[j]?.getD 0 < 256) (hlen : zs.length ≤ 1000) (w : World) (hBs : Bs < w.heap.size) (hn0 : n0 ≤ w.heap.size)
    (hc : w.cell? ⟨Bs, 0, none⟩ = some sv) (hI : Bts n0 w sv zs) :
    SeqStopsK F n Try.prog 62 #[.pointer (some ⟨Bs, 0, none⟩)] pbs (KpB n0 Bs) (fun ys => ys = pbUp zs 0)
      (fun pre => ∃ m, m < zs.length ∧ pre = pbUp zs m) zs.length w := fun l J Jx W hW _ _ hY h0 => by
  have hc' := (hW.cell (p := ⟨Bs, 0, none⟩) hBs).trans hc
  rcases hI.below (hW.mono hn0) with ⟨rfl, rfl⟩ | ⟨x, cap, rfl, hb, hcs⟩
  · exact (back1_nil_in F n hf hro l Bs J W hc' h0).mono fun e W' ⟨he, hj⟩ => ⟨he, .inl ⟨_, rfl, hj⟩⟩
  · exact back1_in F n hf hro hn l Bs n0 cap x zs hz hlen hb J Jx hY W hc' hcs h0

end Go.Proofs.Ytgeldhdijochdaa
/- @@NUM 26 The walk of residue's Scalar: a row of bytes modulo the order. Conditions: the row has 1 to 64 bytes. -/
namespace Go.Proofs.Ytgeldhdijochdaa
set_option linter.unusedVariables false
set_option linter.unusedSimpArgs false
open Go Go.RowKit Go.Shelf
open Pl (V W4 T256 pL le SC)
attribute [local go_sem] Oper.semAt_some

theorem bits_and_u8_nat (a b : Nat) (ha : a < 256) (hb : b < 256) : bits .and .u8 (a : Int) (b : Int) = ((a &&& b : Nat) : Int) := by
  have hx : a &&& b < 2 ^ 8 := Nat.and_lt_two_pow _ (by omega)
  have h1 : (BitVec.ofInt 8 (a : Int)).toNat = a := by
    rw [BitVec.ofInt_natCast, BitVec.toNat_ofNat]; exact Nat.mod_eq_of_lt (by omega)
  have h2 : (BitVec.ofInt 8 (b : Int)).toNat = b := by
    rw [BitVec.ofInt_natCast, BitVec.toNat_ofNat]; exact Nat.mod_eq_of_lt (by omega)
  show IntKind.u8.wrap ((BitVec.ofInt 8 (a : Int) &&& BitVec.ofInt 8 (b : Int)).toNat : Int) = _
  rw [BitVec.toNat_and, h1, h2, IntKind.wrap_u8]
  omega
theorem and_one_u8 {c q : Nat} (h : c < 256) : bits .and .u8 ((c : Int) / 2 ^ q) 1 = ((c / 2 ^ q % 2 : Nat) : Int) := by
  have e : ((c : Int) / 2 ^ q) = ((c / 2 ^ q : Nat) : Int) := by push_cast; rfl
  have h2 : c / 2 ^ q < 256 := Nat.lt_of_le_of_lt (Nat.div_le_self _ _) h
  rw [e]
  have h3 := bits_and_u8_nat (c / 2 ^ q) 1 h2 (by omega)
  rw [Nat.and_one_is_mod] at h3
  exact h3

/-- All that lay keeps, but block b. -/
structure KeepX (N b : Nat) (A B : World) : Prop where
  below : Below N A B
  same : ∀ j, j < A.heap.size → j ≠ b → B.heap[j]? = A.heap[j]?
theorem KeepX.refl (N b : Nat) (A : World) : KeepX N b A A := ⟨Below.refl _ _, fun _ _ _ => rfl⟩
theorem KeepX.call {N b : Nat} {A B C : World} (h : KeepX N b A B) (hN : N ≤ A.heap.size) (k : Below B.heap.size B C) : KeepX N b A C :=
  ⟨h.below.trans (k.mono (Nat.le_trans hN h.below.size)), fun j hj hne => (k.block j (Nat.lt_of_lt_of_le hj h.below.size)).trans (h.same j hj hne)⟩
theorem KeepX.drew {N b : Nat} {A B : World} (h : KeepX N b A B) : KeepX N b A B.drew := ⟨h.below.drew, h.same⟩
theorem KeepX.set {N b : Nat} {A B : World} (h : KeepX N b A B) (hN : N ≤ b) (i : Nat) (u : Value) : KeepX N b A (B.setCell ⟨b, i, none⟩ u) :=
  ⟨h.below.setCell hN u, fun j hj hne => (Below.heap_setCell _ _ _ _ hne).trans (h.same j hj hne)⟩
theorem KeepX.others {N b : Nat} {A B : World} (h : KeepX N b A B) {cs : Array Value} {t : TypeId} {mk : Nat × Nat} (hb : A.heap[b]? = some (.cells cs t mk)) : KeepsOthers A B :=
  ⟨h.below.size, fun k o hk ho => by
    have hlt := (Array.getElem?_eq_some_iff.1 hk).1
    by_cases e : k = b
    · subst e; rw [hb] at hk; injection hk with hk; subst hk; cases ho
    · exact (h.same k hlt e).trans hk⟩
theorem KeepX.kpb {N b Bs : Nat} {A B : World} (h : KeepX N b A B) (h1 : Bs < A.heap.size) (h2 : Bs ≠ b) : KpB N Bs A B := ⟨h.below, h.same Bs h1 h2⟩
theorem kpb_b {N Bs : Nat} {w : World} (hn : N ≤ w.heap.size) (hBs : Bs < w.heap.size) (W : World) (l : Nat) (o o' : Obj) (hl : w.heap.size ≤ l) (h : W.heap[l]? = some o) (h1 : o.isCells = false) (h2 : o.isWalk = false) : KpB N Bs W (W.putObj l o') :=
  ⟨belowK_b hn W l o o' hl h h1 h2, World.putObj_heap_other (by omega)⟩
theorem heap_own {W W' : World} {row : Option Nat} {b : Nat} {cs : Array Value} {t : TypeId} {mk : Nat × Nat} (h : W.heap[b]? = some (.cells cs t mk)) (hg : W.grownBy W' row) (hr : ∀ r, row = some r → ∃ o : Obj, W.heap[r]? = some o ∧ o.isCells = false) : W'.heap[b]? = some (.cells cs t mk) :=
  (grownBy_keeps_cells hg hr h rfl).trans h

theorem pbUp_rev (zs : List Nat) (hz : ∀ j, j < zs.length → zs[j]?.getD 0 < 256) : ((pbUp zs 0).map (·.1.2)).reverse = zs := by
  have h : (pbUp zs 0).map (·.1.2) = zs.reverse := by
    apply List.ext_getElem
    · simp [pbUp]
    · intro i h1 h2
      rw [List.length_reverse] at h2
      have h3 := hz (zs.length - 1 - i) (by omega)
      rw [List.getElem_reverse]
      simp only [pbUp, pbAt, List.getElem_map, List.getElem_range]
      rw [Nat.mod_eq_of_lt h3, List.getElem?_eq_getElem (by omega), Option.getD_some]
  rw [h, List.reverse_reverse]

set_option maxRecDepth 100000 in
set_option maxHeartbeats 4000000 in
theorem Scalar_fact (zs : List Nat) (hz : ∀ j, j < zs.length → zs[j]?.getD 0 < 256) (h1 : 1 ≤ zs.length) (h64 : zs.length ≤ 64) : ∃ r0 r1 r2 r3 : Nat, (W4 r0 r1 r2 r3 ∧ V r0 r1 r2 r3 = le zs % pL) ∧ ∀ (sv : Value) (w : World), Bts w.heap.size w sv zs →
    Calls Try.prog 25 #[sv] w fun e w' => e = .returned (.tuple #[.agg #[.int .u64 r0, .int .u64 r1, .int .u64 r2, .int .u64 r3], .int .i64 0]) ∧ Below w.heap.size w w' := by
  obtain ⟨r0, r1, r2, r3, hr, hrv⟩ := Pl.words (le zs % pL) (Nat.lt_trans (Nat.mod_lt _ Pl.pL_pos) (by decide +kernel))
  refine ⟨r0, r1, r2, r3, ⟨hr, hrv⟩, fun sv w hI => ?_⟩
  have hI0 := hI
  rcases hI with ⟨rfl, rfl⟩ | ⟨x, cap, rfl, hb, hcs⟩
  · cases h1
  refine (callsIn_wide (n := 4)).1 ?_
  refine callsIn_of_wp_marks Try.func25 rfl trivial ?_ rfl
  simp only [Try.ntmps25, List.size_toArray, List.length_cons, List.length_nil, Nat.reduceAdd, Nat.reduceSub, Array.replicate_succ, Array.replicate_zero, List.push_toArray, List.append_toArray, List.nil_append, List.cons_append]
  have hd1 : decide ((zs.length : Int) < 1) = false := by rw [decide_eq_false_iff_not]; omega
  have hd2 : decide ((64 : Int) < (zs.length : Int)) = false := by rw [decide_eq_false_iff_not]; omega
  gi_wp2_with (refine ⟨trivial, ?_⟩; refine (back_in Fence.wide _ trivial rfl _ _ _ _).mono ?_; rintro e w' ⟨rfl, rfl⟩)
  obtain ⟨w1, hw1⟩ : ∃ y : World, y = ((w.alloc (.cells #[.int .u64 0, .int .u64 0, .int .u64 0, .int .u64 0] 26)).alloc (.cells #[.int .u64 0, .int .u64 0, .int .u64 0, .int .u64 0] 26)).alloc (.cells #[.slice (some x) zs.length cap] 35) := ⟨_, rfl⟩
  have hsz : w1.heap.size = w.heap.size + 3 := by rw [hw1]; simp
  have hR1 : w1.heap[w.heap.size]? = some (.cells #[.int .u64 0, .int .u64 0, .int .u64 0, .int .u64 0] 26 (0, 0)) := by rw [hw1]; exact heap_old (heap_old (heap_new _ _) _) _
  have hO1 : w1.heap[w.heap.size + 1]? = some (.cells #[.int .u64 0, .int .u64 0, .int .u64 0, .int .u64 0] 26 (0, 0)) := by rw [hw1]; exact heap_old (heap_new' (by simp) _) _
  have hS1 : w1.heap[w.heap.size + 2]? = some (.cells #[.slice (some x) zs.length cap] 35 (0, 0)) := by rw [hw1]; exact heap_new' (by simp) _
  have hB1 : Below w.heap.size w w1 := by rw [hw1]; exact (((Below.refl _ w).alloc (Nat.le_refl _) _).alloc (by simp) _).alloc (by simp; omega) _
  have hc1 : w1.cell? ⟨w.heap.size + 2, 0, none⟩ = some (.slice (some x) zs.length cap) := by simp [World.cell?, hS1]
  rw [← hw1]
  clear hw1
  refine wpIn_rangeFunc_ownF (n := 4) rfl (by omega) (gf := 62) (lb := #[.pointer (some ⟨w.heap.size + 2, 0, none⟩)]) rfl trivial (enters_of Try.func62 (by kernel_rfl) rfl)
    (back_stops Fence.wide _ trivial rfl (by omega) (w.heap.size + 2) w.heap.size _ zs hz (by omega) w1 (by omega) (by omega) hc1 (hI0.below hB1)) KpB.trans (kpb_b (by omega) (by omega)) (Below.refl _ _) (fun _ => rfl)
    (fun pre W => ((∃ o0 o1 o2 o3 : Nat, W.heap[w.heap.size + 1]? = some (.cells #[.int .u64 o0, .int .u64 o1, .int .u64 o2, .int .u64 o3] 26 (0, 0)) ∧ W4 o0 o1 o2 o3 ∧ V o0 o1 o2 o3 = le ((pre.map (·.1.2)).reverse) % pL) ∧ W.heap[w.heap.size]? = some (.cells #[.int .u64 0, .int .u64 0, .int .u64 0, .int .u64 0] 26 (0, 0)) ∧ w.heap.size + 3 ≤ W.heap.size) ∧ Below w.heap.size w W)
    (fun _ _ _ => False)
    (OwnFrom.and (Own.from (fun s A B row hs hg hr => by
      obtain ⟨⟨o0, o1, o2, o3, h1, h2⟩, h3, h4⟩ := hs
      exact ⟨⟨o0, o1, o2, o3, heap_own h1 hg hr, h2⟩, heap_own h3 hg hr, Nat.le_trans h4 hg.size⟩) _) (ownFrom_below (Nat.le_refl _) (by omega)))
    (fun _ _ _ _ _ hs _ _ => hs)
    ⟨⟨⟨0, 0, 0, 0, hO1, by unfold W4; omega, by decide +kernel⟩, hR1, by omega⟩, hB1⟩
    (fun p => { tmps := #[.slice (some x) zs.length cap, undef, .pointer (some ⟨w.heap.size, 0, none⟩), .int .i64 0, .pointer (some ⟨w.heap.size + 1, 0, none⟩), undef, .int .u8 (p.1.2 : Int), undef, .slice (some x) zs.length cap, .int .i64 (zs.length : Int), .bool false, .bool false, .slice (some x) zs.length cap, .int .i64 (zs.length : Int), .bool false, .bool false, undef, .slice (some x) zs.length cap, .func (.func 62) #[] #[.pointer (some ⟨w.heap.size + 2, 0, none⟩)], .int .i64 (p.1.1 : Int), .int .u8 (p.1.2 : Int), undef, undef, undef, undef, undef, undef, undef, undef, undef, undef, undef, undef], defers := [] }) ?assign ?body ?done ?stop
  case assign =>
    intro l x W K hK
    gi_wp2
    exact hK
  case body =>
    rintro l pre ⟨⟨ix, c⟩, hc⟩ W ⟨⟨⟨o0, o1, o2, o3, hO, hw4, hv⟩, hR, hW3⟩, hB⟩ hlen
    simp only at hc
    obtain ⟨A, hA⟩ : ∃ A, V o0 o1 o2 o3 = A := ⟨_, rfl⟩
    rw [hA] at hv
    have HA : Hid (A = le (pre.map (·.1.2)).reverse % pL) := hv
    have HS : Hid (SC A c 8 (V o0 o1 o2 o3)) := by rw [hA]; exact Pl.SC_start (by rw [hv]; exact Nat.mod_lt _ Pl.pL_pos) hc
    have HL0 : Hid (V o0 o1 o2 o3 < pL) := by rw [hA, hv]; exact Nat.mod_lt _ Pl.pL_pos
    have HC := Lib.hid hc; have HR := Lib.hid hR; have HO1 := Lib.hid hO; have HB := Lib.hid hB; have HW4 := Lib.hid hw4; have HW3 := Lib.hid hW3
    clear hR hO hB hw4 hv hA hlen hW3 hB1 hS1 hR1 hO1 hc1 hcs hI0 hd1 hd2 hr hrv
    gi_wp2
    gi_loopw [7] (fun v7 wr => ∃ (i : Nat) (z : Int) (q0 q1 q2 q3 : Nat), v7 = .int .i64 z ∧ Hid (z = (i : Int) - 1 ∧ i ≤ 8) ∧ Hid (W4 q0 q1 q2 q3 ∧ SC A c i (V q0 q1 q2 q3) ∧ V q0 q1 q2 q3 < pL) ∧ Hid (wr.heap[w.heap.size + 1]? = some (.cells #[.int .u64 q0, .int .u64 q1, .int .u64 q2, .int .u64 q3] 26 (0, 0))) ∧ Hid (KeepX w.heap.size (w.heap.size + 1) W wr)) (fun v7 _ => (intOf v7 + 1).toNat)
    case atStart => exact ⟨8, 7, o0, o1, o2, o3, rfl, ⟨rfl, Nat.le_refl _⟩, ⟨HW4.out, HS.out, HL0.out⟩, HO1.out, KeepX.refl _ _ _⟩
    case round =>
      obtain ⟨i, z, q0, q1, q2, q3, rfl, HZ, HQ, HO, HX⟩ := hrel
      rcases i with _ | k
      · obtain rfl : z = -1 := by have := HZ.out.1; omega
        gi_wp2
        have hX := HX.out
        refine ⟨hX.others HO1.out, hX.kpb (by have := HW3.out; omega) (by omega), ⟨⟨q0, q1, q2, q3, HO.out, HQ.out.1, ?_⟩, (hX.same _ (by have := HW3.out; omega) (by omega)).trans HR.out, Nat.le_trans HW3.out hX.below.size⟩, HB.out.trans hX.below⟩
        rw [List.map_append, List.map_cons, List.map_nil, List.reverse_append]
        exact Pl.SC_row HA.out HQ.out.2.1
      · obtain rfl : z = (k : Int) := by have := HZ.out.1; omega
        have hk : k < 8 := by have := HZ.out.2; omega
        obtain ⟨bt, hbt⟩ : ∃ bt, c / 2 ^ k % 2 = bt := ⟨_, rfl⟩
        have hb1 : bt ≤ 1 := by omega
        obtain ⟨d0, d1, d2, d3, ⟨hd, hdv⟩, FD⟩ := double_fact q0 q1 q2 q3 bt HQ.out.1 HQ.out.2.2 hb1
        have hand := and_one_u8 (q := k) HC.out
        rw [hbt] at hand
        have hwr : IntKind.u64.wrap (bt : Int) = (bt : Int) := by rw [IntKind.wrap_u64]; omega
        have HN : Hid (SC A c k (V d0 d1 d2 d3) ∧ V d0 d1 d2 d3 < pL) := ⟨Pl.SC_step hk HQ.out.2.1 (by rw [hdv, hbt]), by rw [hdv]; exact Nat.mod_lt _ Pl.pL_pos⟩
        have HD := Lib.hid FD; have HDW := Lib.hid hd
        have cO := cells4 HO.out; have fO := frozen_of HO.out
        clear FD hd hdv hbt
        have hmx : Try.prog.follows .mixedOrders = true := by kernel_rfl
        gi_wp2
        gi_region_with_o (refine ⟨trivial, ?_⟩; refine (CallsIn.inRound l (callsIn_wide.2 (HD.out _))).mono ?_; rintro e w2 ⟨rfl, hb⟩; have hO2 := heap_keep' hb (heap_drew HO.out); have cO2 := cells4 hO2; have fO2 := frozen_of hO2)
        all_goals gi_wp2
        all_goals
          refine ⟨⟨k, (k : Int) - 1, d0, d1, d2, d3, rfl, ⟨rfl, by omega⟩, ⟨HDW.out, HN.out.1, HN.out.2⟩, set4 hO2 _ _ _ _, ?_⟩, ?_⟩
          · exact ((((HX.out.drew.call (by have := HW3.out; omega) hb).set (by omega) _ _).set (by omega) _ _).set (by omega) _ _).set (by omega) _ _
          · simp only [intOf]; omega
  case done =>
    rintro D ys W hD rfl ⟨⟨⟨o0, o1, o2, o3, hO, hw4, hv⟩, hR, hW3⟩, hB⟩ hK
    have cO := cells4 hO; have cR := cells4 hR; have fR := frozen_of hR
    obtain ⟨rfl, rfl, rfl, rfl⟩ := Pl.V_inj hw4 hr (by rw [hv, hrv, pbUp_rev zs hz])
    gi_wp2
    have hS := set4 hR (.int .u64 o0) (.int .u64 o1) (.int .u64 o2) (.int .u64 o3)
    have hKS := keep4 (b' := w.heap.size) hK (by omega) (.int .u64 o0) (.int .u64 o1) (.int .u64 o2) (.int .u64 o3)
    have hBS := set4_below (b := w.heap.size) hB (Nat.le_refl _) (.int .u64 o0) (.int .u64 o1) (.int .u64 o2) (.int .u64 o3)
    obtain ⟨v, hv2⟩ : ∃ y, y = ((((W.setCell ⟨w.heap.size, 0, none⟩ (.int .u64 o0)).setCell ⟨w.heap.size, 1, none⟩ (.int .u64 o1)).setCell ⟨w.heap.size, 2, none⟩ (.int .u64 o2)).setCell ⟨w.heap.size, 3, none⟩ (.int .u64 o3)) := ⟨_, rfl⟩
    rw [← hv2] at hS hKS hBS ⊢
    clear hv2
    refine ⟨by simp, .inl ⟨_, _, rfl, run_takeDeferred hKS, ?_⟩⟩
    have hQ := cells4 (heap_own hS (grownBy_putObj' v D (.deferred none)) (fun r e => by cases e; exact ⟨_, hKS, rfl⟩))
    refine ⟨.tuple #[.agg #[.int .u64 o0, .int .u64 o1, .int .u64 o2, .int .u64 o3], .int .i64 0], ?_, rfl, hBS.trans (belowK_b (w := w) (Nat.le_refl _) v D _ _ (by omega) hKS rfl rfl)⟩
    simp [results, Try.results25, Try.f25, go_sem, hQ]
  case stop =>
    rintro D c pre W _ _ h _
    exact h.elim

end Go.Proofs.Ytgeldhdijochdaa
