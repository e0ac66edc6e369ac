/- The functions of dial, as the machine reckons with them. Conditions: none. -/
import Derived.Test.YtgeldhdijochdaaZ11
import Derived.Test.YtgeldhdijochdaaZ10
import Derived.Test.YtgeldhdijochdaaZ5
set_option linter.unusedSectionVars false
namespace Go.Proofs.Ytgeldhdijochdaa.Am
set_option linter.unusedVariables false
set_option linter.unusedSimpArgs false
open Go Go.RowKit
open Pl (pP T256)
set_option linter.unusedSectionVars false
section
variable [GT]
/-- The ladder: the place, and two pairs. -/
structure L5 where
  u : Nat
  lx : Nat
  lz : Nat
  hx : Nat
  hz : Nat
def lSwp (l : L5) : L5 := ⟨l.u, l.hx, l.hz, l.lx, l.lz⟩
def lStp' (u a b da cb aa bb : Nat) : L5 := ⟨u, nPro [aa, bb], nPro [nSub aa bb, nSum [aa, nPro [121665, nSub aa bb]]], nPro [nSum [da, cb], nSum [da, cb]], nPro [u, nSub da cb, nSub da cb]⟩
def lStp (l : L5) : L5 := lStp' l.u (nSum [l.lx, l.lz]) (nSub l.lx l.lz) (nPro [nSub l.hx l.hz, nSum [l.lx, l.lz]]) (nPro [nSum [l.hx, l.hz], nSub l.lx l.lz]) (nPro [nSum [l.lx, l.lz], nSum [l.lx, l.lz]]) (nPro [nSub l.lx l.lz, nSub l.lx l.lz])
noncomputable def eSwap : Ent := inl tyT [] noH [] 400 Try.f65 [0]
theorem eSwap_ok : EntOK Try.prog 65 eSwap := inl_ok tyT_ok (ook_of (l := []) trivial) mixed_ Try.func65 (by kernel_rfl) (by kernel_rfl) [0]
noncomputable def dsO : List (Nat × Ent) := [(23, e2N nSub), (43, eLN 26 nSum), (22, eLN 26 nPro), (45, e1N nInv)]
theorem dsO_ok : OOK Try.prog dsO := ook_of (l := [(23, e2N nSub), (43, eLN 26 nSum), (22, eLN 26 nPro), (45, e1N nInv)]) ⟨Sub_ent, Add_ent, Mul_ent, Inverse_ent, trivial⟩
noncomputable def eStep : Ent := inl tyT dsO noH [] 1000 Try.f66 [0]
theorem eStep_ok : EntOK Try.prog 66 eStep := inl_ok tyT_ok dsO_ok mixed_ Try.func66 (by kernel_rfl) (by kernel_rfl) [0]
noncomputable def dtO : List (Nat × Ent) := [(65, eSwap), (66, eStep), (45, e1N nInv), (22, eLN 26 nPro)]
theorem dtO_ok : OOK Try.prog dtO := ook_of (l := [(65, eSwap), (66, eStep), (45, e1N nInv), (22, eLN 26 nPro)]) ⟨eSwap_ok, eStep_ok, Inverse_ent, Mul_ent, trivial⟩
noncomputable abbrev fTi : Func := Try.f56
def tiS (n : Nat) (l : L5) (i : Int) : St := { tm := tmL 50 [(2, .av (.one (.p 0 0))), (4, .av (.one (.p 1 0))), (5, .av (.one (.p 2 0))), (6, ofV (.int .i64 i))], hp := [(0, ⟨0, 26, [.num n]⟩), (1, ⟨0, 26, [.num 0]⟩), (2, ⟨0, 85, [.num l.u, .num l.lx, .num l.lz, .num l.hx, .num l.hz]⟩)], nx := 3, gl := [] }
def tiE (r : Nat) : St := { tm := tmL 50 [(4, .av (.one (.p 0 0)))], hp := [(0, ⟨0, 26, [.num r]⟩)], nx := 1, gl := [] }
def tiB (n u : Nat) : List CB := [.av (.one (.num n)), .av (.one (.num u))]
theorem ti_start (κ : Nat → Value) (n u : Nat) : runF tyT dtO noH [] 0 [0, 2, 3] [2, 4, 5, 6] fTi (bA (tiB n u) 0 0) (bH κ (tiB n u) 0 0) 0 [] = some (toAt fTi 3 [], tiS n ⟨u, 1, 0, u, 1⟩ 254, []) := by kernel_rfl
theorem ti_one (n : Nat) (l : L5) (i k_ : Nat) : runN tyT dtO (atH 3 1 (isB true) (atH 5 1 (isI IntKind.i64 ((i / 64 : Nat) : Int)) (atH 5 2 symH (atH 5 3 symH (atH 5 5 (isI IntKind.i64 ((i % 64 : Nat) : Int)) (atH 5 7 (isI .u64 1) (atH 4 1 (isI .i64 ((i : Int) - 1)) noH))))))) [] 4000 0 [0, 1, 2] [2, 4, 5, 6] (inAt fTi 3 [] k_) (tiS n l i) = some (hdAt fTi 3 [] k_, tiS n (lSwp (lStp (lSwp l))) ((i : Int) - 1), [tB (decide (0 ≤ (i : Int))) true, tI .i64 (IntKind.wrap IntKind.i64 (Int.tdiv (i : Int) 64)) ((i / 64 : Nat) : Int), 0 ≤ ((i / 64 : Nat) : Int) ∧ i / 64 ≤ 3, i / 64 < 4, tI .i64 (Int.tmod (i : Int) 64) ((i % 64 : Nat) : Int), tI .u64 (iand IntKind.u64 (ishr IntKind.u64 ((n / 18446744073709551616 ^ (i / 64) % 18446744073709551616 : Nat) : Int) (i % 64)) 1) 1, tI .i64 (IntKind.wrap IntKind.i64 ((i : Int) - 1)) ((i : Int) - 1)]) := by kernel_rfl
theorem ti_zero (n : Nat) (l : L5) (i k_ : Nat) : runN tyT dtO (atH 3 1 (isB true) (atH 5 1 (isI IntKind.i64 ((i / 64 : Nat) : Int)) (atH 5 2 symH (atH 5 3 symH (atH 5 5 (isI IntKind.i64 ((i % 64 : Nat) : Int)) (atH 5 7 (isI .u64 0) (atH 4 1 (isI .i64 ((i : Int) - 1)) noH))))))) [] 4000 0 [0, 1, 2] [2, 4, 5, 6] (inAt fTi 3 [] k_) (tiS n l i) = some (hdAt fTi 3 [] k_, tiS n (lStp l) ((i : Int) - 1), [tB (decide (0 ≤ (i : Int))) true, tI .i64 (IntKind.wrap IntKind.i64 (Int.tdiv (i : Int) 64)) ((i / 64 : Nat) : Int), 0 ≤ ((i / 64 : Nat) : Int) ∧ i / 64 ≤ 3, i / 64 < 4, tI .i64 (Int.tmod (i : Int) 64) ((i % 64 : Nat) : Int), tI .u64 (iand IntKind.u64 (ishr IntKind.u64 ((n / 18446744073709551616 ^ (i / 64) % 18446744073709551616 : Nat) : Int) (i % 64)) 1) 0, tI .i64 (IntKind.wrap IntKind.i64 ((i : Int) - 1)) ((i : Int) - 1)]) := by kernel_rfl
theorem ti_end (n : Nat) (l : L5) (k_ : Nat) : runN tyT dtO noH [] 2000 0 [1] [4] (inAt fTi 3 [] k_) (tiS n l (-1)) = some ([.fin], tiE (nPro [l.lx, nInv l.lz]), []) := by kernel_rfl
/-- The bits of n below i, one by one from above. -/
def tiR (n : Nat) : Nat → L5 → L5
  | 0, l => l
  | i + 1, l => tiR n i (match n.testBit i with
    | true => lSwp (lStp (lSwp l))
    | false => lStp l)
def nLad (n u : Nat) : Nat := nPro [(tiR n 255 ⟨u, 1, 0, u, 1⟩).lx, nInv (tiR n 255 ⟨u, 1, 0, u, 1⟩).lz]
theorem bit_val (n i : Nat) : iand .u64 (ishr .u64 ((n / 18446744073709551616 ^ (i / 64) % 18446744073709551616 : Nat) : Int) (i % 64)) 1 = if n.testBit i = true then 1 else 0 := by
  have h := bit_eq n i true
  have hlt : n / 18446744073709551616 ^ (i / 64) % 18446744073709551616 / 2 ^ (i % 64) < 18446744073709551616 := Nat.lt_of_le_of_lt (Nat.div_le_self _ _) (Nat.mod_lt _ (by decide))
  have ha := iand_nat _ 1 hlt (by decide)
  rw [show ((1 : Nat) : Int) = 1 from rfl] at ha
  rw [ishr_nat _ _ (by omega)] at h ⊢
  rw [ha, Nat.and_one_is_mod] at h ⊢
  rw [← h]
  generalize n / 18446744073709551616 ^ (i / 64) % 18446744073709551616 / 2 ^ (i % 64) = x
  have h2 : x % 2 = 0 ∨ x % 2 = 1 := by omega
  rcases h2 with h2 | h2 <;> rw [h2] <;> rfl
theorem ti_rounds (n : Nat) : ∀ (i : Nat) (l : L5), i ≤ 256 → Reaches Try.prog 0 (hdAt fTi 3 [] (i + 1)) (tiS n l ((i : Int) - 1)) [.fin] (tiE (nPro [(tiR n i l).lx, nInv (tiR n i l).lz]))
  | 0, l, _ => Reaches.oneK (Reaches.runK tyT_ok dtO_ok mixed_ (ti_end n l 0) trivial)
  | i + 1, l, hi => by
    have e1 : ((i + 1 : Nat) : Int) - 1 = (i : Int) := by omega
    have e2 : IntKind.wrap IntKind.i64 (Int.tdiv (i : Int) 64) = ((i / 64 : Nat) : Int) := by
      rw [Int.tdiv_eq_ediv_of_nonneg (by omega), w64 (by omega) (by omega)]
      omega
    have e3 : Int.tmod (i : Int) 64 = ((i % 64 : Nat) : Int) := by
      rw [Int.tmod_eq_emod_of_nonneg (by omega)]
      omega
    have e4 : IntKind.wrap IntKind.i64 ((i : Int) - 1) = (i : Int) - 1 := w64 (by omega) (by omega)
    have h0 : decide (0 ≤ (i : Int)) = true := decide_eq_true (by omega)
    have hv := bit_val n i
    rw [e1]
    unfold tiR
    cases hb : n.testBit i with
    | true => exact (Reaches.oneK (Reaches.runK tyT_ok dtO_ok mixed_ (ti_one n l i (i + 1)) ⟨tB_iff.2 h0, tI_iff.2 e2, ⟨by omega, by omega⟩, by omega, tI_iff.2 e3, tI_iff.2 (by rw [hv, if_pos hb]), tI_iff.2 e4, trivial⟩)).trans (ti_rounds n i _ (by omega))
    | false => exact (Reaches.oneK (Reaches.runK tyT_ok dtO_ok mixed_ (ti_zero n l i (i + 1)) ⟨tB_iff.2 h0, tI_iff.2 e2, ⟨by omega, by omega⟩, by omega, tI_iff.2 e3, tI_iff.2 (by rw [hv, if_neg (by rw [hb]; decide)]), tI_iff.2 e4, trivial⟩)).trans (ti_rounds n i _ (by omega))
theorem ti_go (κ : Nat → Value) (n u : Nat) : FromK Try.prog 0 fTi (bA (tiB n u) 0 0) (bH κ (tiB n u) 0 0) 0 [] [.fin] (tiE (nLad n u)) :=
  (FromK.run (m0 := 0) tyT_ok dtO_ok mixed_ (ti_start κ n u) trivial).trans (Reaches.roundsK 256 (ti_rounds n 255 ⟨u, 1, 0, u, 1⟩ (by decide)))
def tiF : List CB → Option BR
  | [.av (.one (.num n)), .av (.one (.num u))] => some { pre := True, val := .av (.one (.num (nLad n u))) }
  | _ => none
theorem ti_ends (cbs : List CB) (r : BR) (hF : tiF cbs = some r) (hp : r.pre) : EndsB Try.prog tyT [] fTi cbs r := by
  unfold tiF at hF
  split at hF
  · rename_i n u
    injection hF with hF
    subst hF
    intro κ
    exact ⟨[.fin], _, .av (.one (.num (nLad n u))), [], .inr rfl, ti_go κ n u, by kernel_rfl, by kernel_rfl, by kernel_rfl⟩
  · cases hF
theorem dtimes_ent : EntOK Try.prog 56 (entB [.av, .av] tiF) :=
  ok_B tyT_ok Try.func56 (by kernel_rfl) (by kernel_rfl) [] (fun x hx => by cases hx) (by kernel_rfl) ti_ends
/-! ### The secret's number, and the place -/
/-- A secret's number: bits 0, 1, 2, 254 and 255 as the document has them. -/
def nClamp (N : Nat) : Nat := N % 28948022309329048855892746252171976963317496166410141009864396001978282409984 / 8 * 8 + 28948022309329048855892746252171976963317496166410141009864396001978282409984
def clW (N : Nat) : List Int := ((words N).set 0 (iandn .u64 ((words N).getD 0 0) 7)).set 3 (ior .u64 (iandn .u64 (((words N).set 0 (iandn .u64 ((words N).getD 0 0) 7)).getD 3 0) 13835058055282163712) 4611686018427387904)
noncomputable def noO : List (Nat × Ent) := [(39, entB [.sl .u8] (nE is32 leI 0)), (43, eLN 26 nSum)]
theorem noO_ok : OOK Try.prog noO := ook_of (l := [(39, entB [.sl .u8] (nE is32 leI 0)), (43, eLN 26 nSum)]) ⟨of_ent, Add_ent, trivial⟩
noncomputable def noO3 : List (Nat × Ent) := [(39, entB [.sl .u8] (nE (fun l => l.length ≠ 32 ∧ l.length ≤ 1048576) (fun _ => 0) 3)), (43, eLN 26 nSum)]
theorem noO3_ok : OOK Try.prog noO3 := ook_of (l := [(39, entB [.sl .u8] (nE (fun l => l.length ≠ 32 ∧ l.length ≤ 1048576) (fun _ => 0) 3)), (43, eLN 26 nSum)]) ⟨ofbad_ent, Add_ent, trivial⟩
noncomputable abbrev fNo : Func := Try.f55
noncomputable abbrev fPl : Func := Try.f57
def noE (r : Nat) (e : Int) : St := { tm := tmL 22 [(2, .av (.one (.p 0 0))), (3, ofV (.int .i64 e))], hp := [(0, ⟨0, 26, [.num r]⟩)], nx := 1, gl := [] }
def plE (r : Nat) (e : Int) : St := { tm := tmL 19 [(2, .av (.one (.p 0 0))), (3, ofV (.int .i64 e))], hp := [(0, ⟨0, 26, [.num r]⟩)], nx := 1, gl := [] }
theorem no_run (κ : Nat → Value) (l : List Int) : runF tyT noO (atH 4 0 (isN (nClamp (leI (cutI l 0 l.length)))) noH) [] 0 [1] [2, 3] fNo (bA [.sl .u8 l] 0 0) (bH κ [.sl .u8 l] 0 0) 1 [] = some ([.fin], noE (nClamp (leI (cutI l 0 l.length))) 0, [0 + l.length ≤ l.length, is32 (cutI l 0 l.length), tN (clW (leI (cutI l 0 l.length))) (nClamp (leI (cutI l 0 l.length)))]) := by kernel_rfl
theorem no_bad (κ : Nat → Value) (l : List Int) : runF tyT noO3 (atH 4 0 (isN (nClamp 0)) noH) [] 0 [1] [2, 3] fNo (bA [.sl .u8 l] 0 0) (bH κ [.sl .u8 l] 0 0) 1 [] = some ([.fin], noE (nClamp 0) 3, [0 + l.length ≤ l.length, (cutI l 0 l.length).length ≠ 32 ∧ (cutI l 0 l.length).length ≤ 1048576, tN (clW 0) (nClamp 0)]) := by kernel_rfl
theorem pl_run (κ : Nat → Value) (l : List Int) : runF tyT noO (atH 3 0 (isN ((leI (cutI l 0 l.length)) % T255)) noH) [] 0 [1] [2, 3] fPl (bA [.sl .u8 l] 0 0) (bH κ [.sl .u8 l] 0 0) 1 [] = some ([.fin], plE (nSum [(leI (cutI l 0 l.length)) % T255]) 0, [0 + l.length ≤ l.length, is32 (cutI l 0 l.length), tN ((words (leI (cutI l 0 l.length))).set 3 (iand .u64 ((words (leI (cutI l 0 l.length))).getD 3 0) 9223372036854775807)) ((leI (cutI l 0 l.length)) % T255)]) := by kernel_rfl
theorem pl_bad (κ : Nat → Value) (l : List Int) : runF tyT noO3 (atH 3 0 (isN 0) noH) [] 0 [1] [2, 3] fPl (bA [.sl .u8 l] 0 0) (bH κ [.sl .u8 l] 0 0) 1 [] = some ([.fin], plE (nSum [0]) 3, [0 + l.length ≤ l.length, (cutI l 0 l.length).length ≠ 32 ∧ (cutI l 0 l.length).length ≤ 1048576, tN ((words 0).set 3 (iand .u64 ((words 0).getD 3 0) 9223372036854775807)) 0]) := by kernel_rfl
end
end Go.Proofs.Ytgeldhdijochdaa.Am
/- The contracts of dial's number, place, Public and Shared. Conditions: none. -/
namespace Go.Proofs.Ytgeldhdijochdaa.Am
set_option linter.unusedVariables false
set_option linter.unusedSimpArgs false
open Go Go.RowKit
open Pl (pP T256)
set_option linter.unusedSectionVars false
/-! ### Bits of words -/
theorem V64_andn (a b : Int) : V64 (iandn .u64 a b) = V64 a &&& ~~~ V64 b := by
  show V64 (IntKind.wrap .u64 ((V64 a &&& ~~~ V64 b).toNat : Int)) = _
  rw [toNat_wU, V64_toNat]
theorem iandn_nat (X Y : Nat) (hX : X < 18446744073709551616) (hY : Y < 18446744073709551616) : iandn .u64 (X : Int) (Y : Int) = ((X &&& (18446744073709551615 - Y) : Nat) : Int) := by
  refine V64_inj (show inU _ from wU_in _) ⟨by omega, ?_⟩ ?_
  · have := Nat.and_le_left (n := X) (m := 18446744073709551615 - Y); omega
  · rw [V64_andn]
    apply BitVec.eq_of_toNat_eq
    rw [BitVec.toNat_and, BitVec.toNat_not, toNat_V64n hX, toNat_V64n hY, toNat_V64n (Nat.lt_of_le_of_lt Nat.and_le_left hX), show (2 : Nat) ^ 64 - 1 - Y = 18446744073709551615 - Y from by rw [show (2 : Nat) ^ 64 = 18446744073709551616 from by decide +kernel]]
theorem ior_nat (X Y : Nat) (hX : X < 18446744073709551616) (hY : Y < 18446744073709551616) : ior .u64 (X : Int) (Y : Int) = ((X ||| Y : Nat) : Int) := by
  have h : X ||| Y < 2 ^ 64 := Nat.or_lt_two_pow (by rw [show (2 : Nat) ^ 64 = 18446744073709551616 from by decide +kernel]; exact hX) (by rw [show (2 : Nat) ^ 64 = 18446744073709551616 from by decide +kernel]; exact hY)
  rw [show (2 : Nat) ^ 64 = 18446744073709551616 from by decide +kernel] at h
  refine V64_inj (ior_in _ _) ⟨by omega, by omega⟩ ?_
  rw [V64_or]
  apply BitVec.eq_of_toNat_eq
  rw [BitVec.toNat_or, toNat_V64n hX, toNat_V64n hY, toNat_V64n h]
theorem and_m8 (X : Nat) (h : X < 18446744073709551616) : X &&& 18446744073709551608 = X / 8 * 8 := by
  have e : X / 8 * 8 = (X >>> 3) <<< 3 := by rw [Nat.shiftLeft_eq, Nat.shiftRight_eq_div_pow]
  have m : (18446744073709551608 : Nat) = (2 ^ 61 - 1) <<< 3 := by decide +kernel
  rw [e, m]
  apply Nat.eq_of_testBit_eq
  intro i
  rw [Nat.testBit_and, Nat.testBit_shiftLeft, Nat.testBit_shiftLeft, Nat.testBit_two_pow_sub_one, Nat.testBit_shiftRight]
  by_cases h3 : 3 ≤ i
  · rw [show 3 + (i - 3) = i by omega]
    by_cases h64 : i < 64
    · have : i - 3 < 61 := by omega
      simp [h3, this]
    · have : X.testBit i = false := Nat.testBit_lt_two_pow (Nat.lt_of_lt_of_le h (by
        rw [show (18446744073709551616 : Nat) = 2 ^ 64 from by decide +kernel]
        exact Nat.pow_le_pow_right (by decide) (by omega)))
      simp [this]
  · simp [h3]
theorem clW_eq (N : Nat) (h : N < T256) : clW N = words (nClamp N) := by
  unfold T256 at h
  have e0 : (18446744073709551616 : Nat) ^ 0 = 1 := rfl
  have e1 : (18446744073709551616 : Nat) ^ 1 = 18446744073709551616 := rfl
  have e2 : (18446744073709551616 : Nat) ^ 2 = 340282366920938463463374607431768211456 := by decide +kernel
  have e3 : (18446744073709551616 : Nat) ^ 3 = 6277101735386680763835789423207666416102355444464034512896 := by decide +kernel
  have w0 : (words N).getD 0 0 = ((N % 18446744073709551616 : Nat) : Int) := by
    show word N 0 = _
    unfold word
    rw [e0, Nat.div_one]
  have w3 : ((words N).set 0 (iandn .u64 ((words N).getD 0 0) 7)).getD 3 0 = ((N / 6277101735386680763835789423207666416102355444464034512896 % 18446744073709551616 : Nat) : Int) := by
    show word N 3 = _
    unfold word
    rw [e3]
  have a0 := iandn_nat (N % 18446744073709551616) 7 (by omega) (by decide)
  have a3 := iandn_nat (N / 6277101735386680763835789423207666416102355444464034512896 % 18446744073709551616) 13835058055282163712 (by omega) (by decide)
  rw [show ((7 : Nat) : Int) = 7 from rfl, show (18446744073709551615 : Nat) - 7 = 18446744073709551608 from by decide, and_m8 _ (by omega)] at a0
  rw [show ((13835058055282163712 : Nat) : Int) = 13835058055282163712 from rfl, show (18446744073709551615 : Nat) - 13835058055282163712 = 2 ^ 62 - 1 from by decide +kernel, Nat.and_two_pow_sub_one_eq_mod] at a3
  have a4 := ior_nat (N / 6277101735386680763835789423207666416102355444464034512896 % 18446744073709551616 % 2 ^ 62) 4611686018427387904 (by rw [show (2 : Nat) ^ 62 = 4611686018427387904 from by decide +kernel]; omega) (by decide)
  have h62 : N / 6277101735386680763835789423207666416102355444464034512896 % 18446744073709551616 % 2 ^ 62 < 2 ^ 62 := Nat.mod_lt _ (by decide +kernel)
  have h5 := Nat.two_pow_add_eq_or_of_lt h62 1
  rw [show ((4611686018427387904 : Nat) : Int) = 4611686018427387904 from rfl, Nat.or_comm, show (4611686018427387904 : Nat) = 2 ^ 62 * 1 from by decide +kernel, ← h5, show (2 : Nat) ^ 62 = 4611686018427387904 from by decide +kernel] at a4
  unfold clW
  rw [w3, w0, a0, a3, show (2 : Nat) ^ 62 = 4611686018427387904 from by decide +kernel]
  have a5 : ior .u64 ((N / 6277101735386680763835789423207666416102355444464034512896 % 18446744073709551616 % 4611686018427387904 : Nat) : Int) 4611686018427387904 = ((4611686018427387904 * 1 + N / 6277101735386680763835789423207666416102355444464034512896 % 18446744073709551616 % 4611686018427387904 : Nat) : Int) := a4
  rw [a5]
  unfold words word nClamp
  rw [e0, e1, e2, e3]
  simp only [List.set_cons_succ, List.set_cons_zero, List.cons.injEq, and_true]
  refine ⟨?_, ?_, ?_, ?_⟩ <;> omega
section
variable [GT]
def noF : List CB → Option BR
  | [.sl .u8 l] => some { pre := is32 l, val := .tup [.one (.num (nClamp (leI l))), .one (.v (.int .i64 0))] }
  | _ => none
def noF3 : List CB → Option BR
  | [.sl .u8 l] => some { pre := l.length ≠ 32 ∧ l.length ≤ 1048576, val := .tup [.one (.num (nClamp 0)), .one (.v (.int .i64 3))] }
  | _ => none
def plF : List CB → Option BR
  | [.sl .u8 l] => some { pre := is32 l, val := .tup [.one (.num (nSum [leI l % T255])), .one (.v (.int .i64 0))] }
  | _ => none
def plF3 : List CB → Option BR
  | [.sl .u8 l] => some { pre := l.length ≠ 32 ∧ l.length ≤ 1048576, val := .tup [.one (.num (nSum [0])), .one (.v (.int .i64 3))] }
  | _ => none
theorem no_ends (cbs : List CB) (r : BR) (hF : noF cbs = some r) (hp : r.pre) : EndsB Try.prog tyT [] fNo cbs r := by
  unfold noF at hF
  split at hF
  · rename_i l
    injection hF with hF
    subst hF
    intro κ
    have h := no_run κ l
    rw [cutI_all] at h
    exact ⟨[.fin], _, .tup [.one (.num (nClamp (leI l))), .one (.v (.int .i64 0))], [], .inr rfl, FromK.run (m0 := 0) tyT_ok noO_ok mixed_ h ⟨by omega, hp, tN_of (clW_eq _ (leI_lt hp)), trivial⟩, by kernel_rfl, by kernel_rfl, by kernel_rfl⟩
  · cases hF
theorem no_ends3 (cbs : List CB) (r : BR) (hF : noF3 cbs = some r) (hp : r.pre) : EndsB Try.prog tyT [] fNo cbs r := by
  unfold noF3 at hF
  split at hF
  · rename_i l
    injection hF with hF
    subst hF
    intro κ
    have h := no_bad κ l
    rw [cutI_all] at h
    exact ⟨[.fin], _, .tup [.one (.num (nClamp 0)), .one (.v (.int .i64 3))], [], .inr rfl, FromK.run (m0 := 0) tyT_ok noO3_ok mixed_ h ⟨by omega, hp, tN_of (clW_eq _ (by decide +kernel)), trivial⟩, by kernel_rfl, by kernel_rfl, by kernel_rfl⟩
  · cases hF
theorem pl_ends (cbs : List CB) (r : BR) (hF : plF cbs = some r) (hp : r.pre) : EndsB Try.prog tyT [] fPl cbs r := by
  unfold plF at hF
  split at hF
  · rename_i l
    injection hF with hF
    subst hF
    intro κ
    have h := pl_run κ l
    rw [cutI_all] at h
    exact ⟨[.fin], _, .tup [.one (.num (nSum [leI l % T255])), .one (.v (.int .i64 0))], [], .inr rfl, FromK.run (m0 := 0) tyT_ok noO_ok mixed_ h ⟨by omega, hp, tN_of (cut_word _ (leI_lt hp)), trivial⟩, by kernel_rfl, by kernel_rfl, by kernel_rfl⟩
  · cases hF
theorem pl_ends3 (cbs : List CB) (r : BR) (hF : plF3 cbs = some r) (hp : r.pre) : EndsB Try.prog tyT [] fPl cbs r := by
  unfold plF3 at hF
  split at hF
  · rename_i l
    injection hF with hF
    subst hF
    intro κ
    have h := pl_bad κ l
    rw [cutI_all] at h
    exact ⟨[.fin], _, .tup [.one (.num (nSum [0])), .one (.v (.int .i64 3))], [], .inr rfl, FromK.run (m0 := 0) tyT_ok noO3_ok mixed_ h ⟨by omega, hp, tN_of (cut_word 0 (by decide +kernel)), trivial⟩, by kernel_rfl, by kernel_rfl, by kernel_rfl⟩
  · cases hF
theorem number_ent : EntOK Try.prog 55 (entB [.sl .u8] noF) :=
  ok_B tyT_ok Try.func55 (by kernel_rfl) (by kernel_rfl) [] (fun x hx => by cases hx) (by kernel_rfl) no_ends
theorem number3_ent : EntOK Try.prog 55 (entB [.sl .u8] noF3) :=
  ok_B tyT_ok Try.func55 (by kernel_rfl) (by kernel_rfl) [] (fun x hx => by cases hx) (by kernel_rfl) no_ends3
theorem place_ent : EntOK Try.prog 57 (entB [.sl .u8] plF) :=
  ok_B tyT_ok Try.func57 (by kernel_rfl) (by kernel_rfl) [] (fun x hx => by cases hx) (by kernel_rfl) pl_ends
theorem place3_ent : EntOK Try.prog 57 (entB [.sl .u8] plF3) :=
  ok_B tyT_ok Try.func57 (by kernel_rfl) (by kernel_rfl) [] (fun x hx => by cases hx) (by kernel_rfl) pl_ends3
/-! ### Public and Shared -/
noncomputable def duO : List (Nat × Ent) := [(55, entB [.sl .u8] noF), (56, entB [.av, .av] tiF), (16, eBy)]
theorem duO_ok : OOK Try.prog duO := ook_of (l := [(55, entB [.sl .u8] noF), (56, entB [.av, .av] tiF), (16, eBy)]) ⟨number_ent, dtimes_ent, by_ent, trivial⟩
noncomputable def duO3 : List (Nat × Ent) := [(55, entB [.sl .u8] noF3)]
theorem duO3_ok : OOK Try.prog duO3 := ook_of (l := [(55, entB [.sl .u8] noF3)]) ⟨number3_ent, trivial⟩
noncomputable abbrev fDu : Func := Try.f32
noncomputable abbrev fDs : Func := Try.f33
theorem du_run (κ : Nat → Value) (l : List Int) : runF tyT duO noH [] 0 [2] [2, 3] fDu (bA [.sl .u8 l] 0 0) (bH κ [.sl .u8 l] 0 0) 1 [] = some ([.fin], { tm := tmL 18 [(2, .av (.one (.r 0 0 32 0))), (3, ofV (.int .i64 0))], hp := [(0, ⟨1, 5, [.arr .u8 (byI (nLad (nClamp (leI (cutI l 0 l.length))) 9))]⟩)], nx := 1, gl := [] }, [0 + l.length ≤ l.length, is32 (cutI l 0 l.length), True]) := by kernel_rfl
theorem du_bad (κ : Nat → Value) (l : List Int) : runF tyT duO3 noH [] 0 [] [2, 3] fDu (bA [.sl .u8 l] 0 0) (bH κ [.sl .u8 l] 0 0) 1 [] = some ([.fin], { tm := tmL 18 [(2, ofV (.slice none 0 0)), (3, ofV (.int .i64 3))], hp := [], nx := 0, gl := [] }, [0 + l.length ≤ l.length, (cutI l 0 l.length).length ≠ 32 ∧ (cutI l 0 l.length).length ≤ 1048576]) := by kernel_rfl
noncomputable def dhO : List (Nat × Ent) := [(55, entB [.sl .u8] noF), (57, entB [.sl .u8] plF), (56, entB [.av, .av] tiF), (16, eBy), (28, e1B nZero)]
theorem dhO_ok : OOK Try.prog dhO := ook_of (l := [(55, entB [.sl .u8] noF), (57, entB [.sl .u8] plF), (56, entB [.av, .av] tiF), (16, eBy), (28, e1B nZero)]) ⟨number_ent, place_ent, dtimes_ent, by_ent, Zero_ent, trivial⟩
noncomputable def dhOa : List (Nat × Ent) := [(55, entB [.sl .u8] noF3), (57, entB [.sl .u8] plF)]
theorem dhOa_ok : OOK Try.prog dhOa := ook_of (l := [(55, entB [.sl .u8] noF3), (57, entB [.sl .u8] plF)]) ⟨number3_ent, place_ent, trivial⟩
noncomputable def dhOb : List (Nat × Ent) := [(55, entB [.sl .u8] noF), (57, entB [.sl .u8] plF3)]
theorem dhOb_ok : OOK Try.prog dhOb := ook_of (l := [(55, entB [.sl .u8] noF), (57, entB [.sl .u8] plF3)]) ⟨number_ent, place3_ent, trivial⟩
noncomputable def dhOc : List (Nat × Ent) := [(55, entB [.sl .u8] noF3), (57, entB [.sl .u8] plF3)]
theorem dhOc_ok : OOK Try.prog dhOc := ook_of (l := [(55, entB [.sl .u8] noF3), (57, entB [.sl .u8] plF3)]) ⟨number3_ent, place3_ent, trivial⟩
/-- What is shared, as a number. -/
def nShr (a b : List Int) : Nat := nLad (nClamp (leI a)) (nSum [leI b % T255])
def dsE (z : List Int) : St := { tm := tmL 34 [(4, .av (.one (.r 0 0 32 0))), (5, ofV (.int .i64 0))], hp := [(0, ⟨1, 5, [.arr .u8 z]⟩)], nx := 1, gl := [] }
def dsX (e : Int) : St := { tm := tmL 34 [(4, ofV (.slice none 0 0)), (5, ofV (.int .i64 e))], hp := [], nx := 0, gl := [] }
theorem ds_run (κ : Nat → Value) (a b : List Int) : runF tyT dhO (atH 6 1 (isB false) noH) [] 0 [5] [4, 5] fDs (bA [.sl .u8 a, .sl .u8 b] 0 0) (bH κ [.sl .u8 a, .sl .u8 b] 0 0) 2 [] = some ([.fin], dsE (byI (nShr (cutI a 0 a.length) (cutI b 0 b.length))), [0 + a.length ≤ a.length, is32 (cutI a 0 a.length), 0 + b.length ≤ b.length, is32 (cutI b 0 b.length), True, tB (nZero (nShr (cutI a 0 a.length) (cutI b 0 b.length))) false]) := by kernel_rfl
theorem ds_zero (κ : Nat → Value) (a b : List Int) : runF tyT dhO (atH 6 1 (isB true) noH) [] 0 [] [4, 5] fDs (bA [.sl .u8 a, .sl .u8 b] 0 0) (bH κ [.sl .u8 a, .sl .u8 b] 0 0) 2 [] = some ([.fin], dsX 5, [0 + a.length ≤ a.length, is32 (cutI a 0 a.length), 0 + b.length ≤ b.length, is32 (cutI b 0 b.length), True, tB (nZero (nShr (cutI a 0 a.length) (cutI b 0 b.length))) true]) := by kernel_rfl
def duF : List CB → Option BR
  | [.sl .u8 l] => some { pre := is32 l, val := .tup [.one (.r 0 0 32 0), .one (.v (.int .i64 0))], new := [⟨1, 5, [.arr .u8 (byI (nLad (nClamp (leI l)) 9))]⟩] }
  | _ => none
def duF3 : List CB → Option BR
  | [.sl .u8 l] => some { pre := l.length ≠ 32 ∧ l.length ≤ 1048576, val := .tup [.one (.v (.slice none 0 0)), .one (.v (.int .i64 3))] }
  | _ => none
def dsF : List CB → Option BR
  | [.sl .u8 a, .sl .u8 b] => some { pre := is32 a ∧ is32 b ∧ nZero (nShr a b) = false, val := .tup [.one (.r 0 0 32 0), .one (.v (.int .i64 0))], new := [⟨1, 5, [.arr .u8 (byI (nShr a b))]⟩] }
  | _ => none
def dsFz : List CB → Option BR
  | [.sl .u8 a, .sl .u8 b] => some { pre := is32 a ∧ is32 b ∧ nZero (nShr a b) = true, val := .tup [.one (.v (.slice none 0 0)), .one (.v (.int .i64 5))] }
  | _ => none
def okOr (l : List Int) : Prop := is32 l ∨ (l.length ≠ 32 ∧ l.length ≤ 1048576)
def dsF3 : List CB → Option BR
  | [.sl .u8 a, .sl .u8 b] => some { pre := okOr a ∧ okOr b ∧ ¬ (is32 a ∧ is32 b), val := .tup [.one (.v (.slice none 0 0)), .one (.v (.int .i64 3))] }
  | _ => none
theorem ds_a (κ : Nat → Value) (a b : List Int) : runF tyT dhOa noH [] 0 [] [4, 5] fDs (bA [.sl .u8 a, .sl .u8 b] 0 0) (bH κ [.sl .u8 a, .sl .u8 b] 0 0) 2 [] = some ([.fin], dsX 3, [0 + a.length ≤ a.length, (cutI a 0 a.length).length ≠ 32 ∧ (cutI a 0 a.length).length ≤ 1048576, 0 + b.length ≤ b.length, is32 (cutI b 0 b.length)]) := by kernel_rfl
theorem ds_b (κ : Nat → Value) (a b : List Int) : runF tyT dhOb noH [] 0 [] [4, 5] fDs (bA [.sl .u8 a, .sl .u8 b] 0 0) (bH κ [.sl .u8 a, .sl .u8 b] 0 0) 2 [] = some ([.fin], dsX 3, [0 + a.length ≤ a.length, is32 (cutI a 0 a.length), 0 + b.length ≤ b.length, (cutI b 0 b.length).length ≠ 32 ∧ (cutI b 0 b.length).length ≤ 1048576]) := by kernel_rfl
theorem ds_c (κ : Nat → Value) (a b : List Int) : runF tyT dhOc noH [] 0 [] [4, 5] fDs (bA [.sl .u8 a, .sl .u8 b] 0 0) (bH κ [.sl .u8 a, .sl .u8 b] 0 0) 2 [] = some ([.fin], dsX 3, [0 + a.length ≤ a.length, (cutI a 0 a.length).length ≠ 32 ∧ (cutI a 0 a.length).length ≤ 1048576, 0 + b.length ≤ b.length, (cutI b 0 b.length).length ≠ 32 ∧ (cutI b 0 b.length).length ≤ 1048576]) := by kernel_rfl
theorem du_ends (cbs : List CB) (r : BR) (hF : duF cbs = some r) (hp : r.pre) : EndsB Try.prog tyT [] fDu cbs r := by
  unfold duF at hF
  split at hF
  · rename_i l
    injection hF with hF
    subst hF
    intro κ
    have h := FromK.run (m0 := 0) tyT_ok duO_ok mixed_ (du_run κ l) (by rw [cutI_all]; exact ⟨by omega, hp, trivial, trivial⟩)
    rw [cutI_all] at h
    exact ⟨[.fin], _, .tup [.one (.r 0 0 32 0), .one (.v (.int .i64 0))], [0], .inr rfl, h, by kernel_rfl, by kernel_rfl, by kernel_rfl⟩
  · cases hF
theorem du_ends3 (cbs : List CB) (r : BR) (hF : duF3 cbs = some r) (hp : r.pre) : EndsB Try.prog tyT [] fDu cbs r := by
  unfold duF3 at hF
  split at hF
  · rename_i l
    injection hF with hF
    subst hF
    intro κ
    have h := FromK.run (m0 := 0) tyT_ok duO3_ok mixed_ (du_bad κ l) (by rw [cutI_all]; exact ⟨by omega, hp, trivial⟩)
    exact ⟨[.fin], _, .tup [.one (.v (.slice none 0 0)), .one (.v (.int .i64 3))], [], .inr rfl, h, by kernel_rfl, by kernel_rfl, by kernel_rfl⟩
  · cases hF
theorem ds_ends (cbs : List CB) (r : BR) (hF : dsF cbs = some r) (hp : r.pre) : EndsB Try.prog tyT [] fDs cbs r := by
  unfold dsF at hF
  split at hF
  · rename_i a b
    injection hF with hF
    subst hF
    intro κ
    have h := FromK.run (m0 := 0) tyT_ok dhO_ok mixed_ (ds_run κ a b) (by rw [cutI_all, cutI_all]; exact ⟨by omega, hp.1, by omega, hp.2.1, trivial, tB_iff.2 hp.2.2, trivial⟩)
    rw [cutI_all, cutI_all] at h
    exact ⟨[.fin], _, .tup [.one (.r 0 0 32 0), .one (.v (.int .i64 0))], [0], .inr rfl, h, by kernel_rfl, by kernel_rfl, by kernel_rfl⟩
  · cases hF
theorem ds_endsz (cbs : List CB) (r : BR) (hF : dsFz cbs = some r) (hp : r.pre) : EndsB Try.prog tyT [] fDs cbs r := by
  unfold dsFz at hF
  split at hF
  · rename_i a b
    injection hF with hF
    subst hF
    intro κ
    have h := FromK.run (m0 := 0) tyT_ok dhO_ok mixed_ (ds_zero κ a b) (by rw [cutI_all, cutI_all]; exact ⟨by omega, hp.1, by omega, hp.2.1, trivial, tB_iff.2 hp.2.2, trivial⟩)
    exact ⟨[.fin], _, .tup [.one (.v (.slice none 0 0)), .one (.v (.int .i64 5))], [], .inr rfl, h, by kernel_rfl, by kernel_rfl, by kernel_rfl⟩
  · cases hF
theorem ds_ends3 (cbs : List CB) (r : BR) (hF : dsF3 cbs = some r) (hp : r.pre) : EndsB Try.prog tyT [] fDs cbs r := by
  unfold dsF3 at hF
  split at hF
  · rename_i a b
    injection hF with hF
    subst hF
    intro κ
    have h : FromK Try.prog 0 fDs (bA [.sl .u8 a, .sl .u8 b] 0 0) (bH κ [.sl .u8 a, .sl .u8 b] 0 0) 2 [] [.fin] (dsX 3) := by
      obtain ⟨ha, hb, hn⟩ := hp
      rcases ha with ha | ha
      · rcases hb with hb | hb
        · exact absurd ⟨ha, hb⟩ hn
        · exact FromK.run (m0 := 0) tyT_ok dhOb_ok mixed_ (ds_b κ a b) (by rw [cutI_all, cutI_all]; exact ⟨by omega, ha, by omega, hb, trivial⟩)
      · rcases hb with hb | hb
        · exact FromK.run (m0 := 0) tyT_ok dhOa_ok mixed_ (ds_a κ a b) (by rw [cutI_all, cutI_all]; exact ⟨by omega, ha, by omega, hb, trivial⟩)
        · exact FromK.run (m0 := 0) tyT_ok dhOc_ok mixed_ (ds_c κ a b) (by rw [cutI_all, cutI_all]; exact ⟨by omega, ha, by omega, hb, trivial⟩)
    exact ⟨[.fin], _, .tup [.one (.v (.slice none 0 0)), .one (.v (.int .i64 3))], [], .inr rfl, h, by kernel_rfl, by kernel_rfl, by kernel_rfl⟩
  · cases hF
theorem dpublic_ent : EntOK Try.prog 32 (entB [.sl .u8] duF) :=
  ok_B tyT_ok Try.func32 (by kernel_rfl) (by kernel_rfl) [] (fun x hx => by cases hx) (by kernel_rfl) du_ends
theorem dpublic3_ent : EntOK Try.prog 32 (entB [.sl .u8] duF3) :=
  ok_B tyT_ok Try.func32 (by kernel_rfl) (by kernel_rfl) [] (fun x hx => by cases hx) (by kernel_rfl) du_ends3
theorem shared_ent : EntOK Try.prog 33 (entB [.sl .u8, .sl .u8] dsF) :=
  ok_B tyT_ok Try.func33 (by kernel_rfl) (by kernel_rfl) [] (fun x hx => by cases hx) (by kernel_rfl) ds_ends
theorem sharedz_ent : EntOK Try.prog 33 (entB [.sl .u8, .sl .u8] dsFz) :=
  ok_B tyT_ok Try.func33 (by kernel_rfl) (by kernel_rfl) [] (fun x hx => by cases hx) (by kernel_rfl) ds_endsz
theorem shared3_ent : EntOK Try.prog 33 (entB [.sl .u8, .sl .u8] dsF3) :=
  ok_B tyT_ok Try.func33 (by kernel_rfl) (by kernel_rfl) [] (fun x hx => by cases hx) (by kernel_rfl) ds_ends3
end
end Go.Proofs.Ytgeldhdijochdaa.Am
/- Law 11's awake and nine. Conditions: none. -/
namespace Go.Proofs.Ytgeldhdijochdaa.Am
set_option linter.unusedVariables false
set_option linter.unusedSimpArgs false
open Go Go.RowKit
open Pl (pP T256)
set_option linter.unusedSectionVars false
section
variable [GT]
noncomputable def awO11 : List (Nat × Ent) := [(32, entB [.sl .u8] duF3)]
theorem awO11_ok : OOK Try.prog awO11 := ook_of (l := [(32, entB [.sl .u8] duF3)]) ⟨dpublic3_ent, trivial⟩
theorem aw11_run : wholeV tyT awO11 noH [] 2000 Try.f31 [] = some (ofV (.bool true), [0 + 31 ≤ (List.replicate 31 (0 : Int)).length ∧ 31 ≤ 31, (cutI (List.replicate 31 (0 : Int)) 0 31).length ≠ 32 ∧ (cutI (List.replicate 31 (0 : Int)) 0 31).length ≤ 1048576]) := by kernel_rfl
def vaw11 : List SV → Option (SV × Asm)
  | [] => some (ofV (.bool true), .tt)
  | _ => none
theorem aw11_ent : EntOK Try.prog 31 (vEnt vaw11) := ok_V awO11_ok Try.func31 (by kernel_rfl) (by kernel_rfl) fun args v p hF hp => by
  unfold vaw11 at hF
  split at hF
  · simp only [Option.some.injEq, Prod.mk.injEq] at hF
    obtain ⟨rfl, rfl⟩ := hF
    exact ⟨_, _, _, _, aw11_run, ⟨⟨by decide, by decide⟩, ⟨by decide, by decide⟩, trivial⟩, by kernel_rfl, by kernel_rfl, by kernel_rfl⟩
  · cases hF
end
end Go.Proofs.Ytgeldhdijochdaa.Am
/- Plain law: the ladder's step doubles and adds (a curve's points by 1 + y and 1 - y). Conditions: none. -/
namespace Go.Proofs.Ytgeldhdijochdaa
set_option linter.unusedVariables false
set_option linter.unusedSimpArgs false
namespace Pl
section
variable {R : Type} [Lean.Grind.CommRing R]
theorem lad_dbl1 (a d k x y : R) (h : a*x*x + y*y = 1 + d*x*x*y*y) (hk : k*(a-d) = d) : y*y*(a-d) = (1+k*(1-y*y))*(1-a*x*x)*(a-d) := by
  have e1 : (1+k*(1-y*y))*(a-d) = a - d*y*y := by grind
  have e2 : (1+k*(1-y*y))*(1-a*x*x)*(a-d) = ((1+k*(1-y*y))*(a-d))*(1-a*x*x) := by grind
  rw [e2, e1]
  grind
theorem lad_dbl2 (a d k x y : R) (h : a*x*x + y*y = 1 + d*x*x*y*y) (hk : k*(d-a) = a) : y*y*(a-d) = (y*y-k*(1-y*y))*(1-a*x*x)*(a-d) := by
  have e1 : (y*y-k*(1-y*y))*(a-d) = a - d*y*y := by grind
  have e2 : (y*y-k*(1-y*y))*(1-a*x*x)*(a-d) = ((y*y-k*(1-y*y))*(a-d))*(1-a*x*x) := by grind
  rw [e2, e1]
  grind
theorem lad_diff (a d x1 y1 x2 y2 : R) (h1 : a*x1*x1 + y1*y1 = 1 + d*x1*x1*y1*y1) (h2 : a*x2*x2 + y2*y2 = 1 + d*x2*x2*y2*y2) :
    ((1+y1*y2)*(1+y1*y2) - x1*x1*x2*x2*(d*y1*y2+a)*(d*y1*y2+a))*(y2-y1)*(y2-y1) = ((1-y1*y2)*(1-y1*y2) - x1*x1*x2*x2*(d*y1*y2-a)*(d*y1*y2-a))*(y1+y2)*(y1+y2) := by
  grind (ringSteps := 10000000)
theorem cross_two (X Z s Y g : R) (hs : s*s = 1) (hg : 2*g = 1) (h : X*(s*(1-Y)) = Z*(1+Y)) : X = (X + s*Z)*g*(1+Y) ∧ Z = (X + s*Z)*g*(s*(1-Y)) := by
  have e1 : s*(Z*(1+Y)) = X*(1-Y) := by
    rw [← h]
    have : s*(X*(s*(1-Y))) = s*s*(X*(1-Y)) := by grind
    rw [this, hs]; grind
  constructor
  · have : (X + s*Z)*g*(1+Y) = g*(X*(1+Y) + s*(Z*(1+Y))) := by grind
    rw [this, e1]; grind
  · have : (X + s*Z)*g*(s*(1-Y)) = g*(X*(s*(1-Y)) + s*s*(Z*(1-Y))) := by grind
    rw [this, h, hs]; grind
/-- The step's sums, where s is 1. -/
theorem step_p (l m y1 y2 : R) : (l*(1+y1) + l*(1*(1-y1))) = 2*l ∧ (l*(1+y1) - l*(1*(1-y1))) = 2*l*y1 ∧ (m*(1+y2) + m*(1*(1-y2))) = 2*m ∧ (m*(1+y2) - m*(1*(1-y2))) = 2*m*y2 := by
  refine ⟨?_, ?_, ?_, ?_⟩ <;> grind
theorem step_m (l y1 : R) : (l*(1+y1) + l*((-1)*(1-y1))) = 2*l*y1 ∧ (l*(1+y1) - l*((-1)*(1-y1))) = 2*l := by
  refine ⟨?_, ?_⟩ <;> grind
theorem high_p (l m y1 y2 : R) : (2*m*y2*(2*l) + 2*m*(2*l*y1))*(2*m*y2*(2*l) + 2*m*(2*l*y1)) = (4*l*m)*(4*l*m)*((y1+y2)*(y1+y2)) ∧ (2*m*y2*(2*l) - 2*m*(2*l*y1))*(2*m*y2*(2*l) - 2*m*(2*l*y1)) = (4*l*m)*(4*l*m)*((y2-y1)*(y2-y1)) := by
  refine ⟨?_, ?_⟩ <;> grind
theorem high_m (l m y1 y2 : R) : (2*m*(2*l*y1) + 2*m*y2*(2*l))*(2*m*(2*l*y1) + 2*m*y2*(2*l)) = (4*l*m)*(4*l*m)*((y1+y2)*(y1+y2)) ∧ (2*m*(2*l*y1) - 2*m*y2*(2*l))*(2*m*(2*l*y1) - 2*m*y2*(2*l)) = (4*l*m)*(4*l*m)*((y2-y1)*(y2-y1)) := by
  refine ⟨?_, ?_⟩ <;> grind
/-- The doubled pair, held against the doubled point. -/
theorem dbl_p (a d k x y l Y : R) (h : a*x*x + y*y = 1 + d*x*x*y*y) (hk : k*(a-d) = d) (hY : Y*(1 - d*x*x*y*y) = y*y - a*x*x) :
    (2*l*(2*l))*(2*l*y*(2*l*y))*(1*(1-Y))*((1 - d*x*x*y*y)*(a-d)) = (2*l*(2*l) - 2*l*y*(2*l*y))*(2*l*(2*l) + k*(2*l*(2*l) - 2*l*y*(2*l*y)))*(1+Y)*((1 - d*x*x*y*y)*(a-d)) := by
  have e := lad_dbl1 a d k x y h hk
  have e1 : (1-Y)*(1 - d*x*x*y*y) = 2*(1-y*y) := by grind
  have e2 : (1+Y)*(1 - d*x*x*y*y) = 2*(1-a*x*x) := by grind
  have f1 : (2*l*(2*l))*(2*l*y*(2*l*y))*(1*(1-Y))*((1 - d*x*x*y*y)*(a-d)) = 16*l*l*l*l*(y*y*(a-d))*((1-Y)*(1 - d*x*x*y*y)) := by grind
  have f2 : (2*l*(2*l) - 2*l*y*(2*l*y))*(2*l*(2*l) + k*(2*l*(2*l) - 2*l*y*(2*l*y)))*(1+Y)*((1 - d*x*x*y*y)*(a-d)) = 16*l*l*l*l*(1-y*y)*(1+k*(1-y*y))*(a-d)*((1+Y)*(1 - d*x*x*y*y)) := by grind
  rw [f1, f2, e1, e2, e]
  generalize 1+k*(1-y*y) = u
  generalize 1-a*x*x = v
  generalize 1-y*y = w
  grind
theorem dbl_m (a d k x y l Y : R) (h : a*x*x + y*y = 1 + d*x*x*y*y) (hk : k*(d-a) = a) (hY : Y*(1 - d*x*x*y*y) = y*y - a*x*x) :
    (2*l*y*(2*l*y))*(2*l*(2*l))*((-1)*(1-Y))*((1 - d*x*x*y*y)*(a-d)) = (2*l*y*(2*l*y) - 2*l*(2*l))*(2*l*y*(2*l*y) + k*(2*l*y*(2*l*y) - 2*l*(2*l)))*(1+Y)*((1 - d*x*x*y*y)*(a-d)) := by
  have e := lad_dbl2 a d k x y h hk
  have e1 : (1-Y)*(1 - d*x*x*y*y) = 2*(1-y*y) := by grind
  have e2 : (1+Y)*(1 - d*x*x*y*y) = 2*(1-a*x*x) := by grind
  have f1 : (2*l*y*(2*l*y))*(2*l*(2*l))*((-1)*(1-Y))*((1 - d*x*x*y*y)*(a-d)) = -16*l*l*l*l*(y*y*(a-d))*((1-Y)*(1 - d*x*x*y*y)) := by grind
  have f2 : (2*l*y*(2*l*y) - 2*l*(2*l))*(2*l*y*(2*l*y) + k*(2*l*y*(2*l*y) - 2*l*(2*l)))*(1+Y)*((1 - d*x*x*y*y)*(a-d)) = -16*l*l*l*l*(1-y*y)*(y*y - k*(1-y*y))*(a-d)*((1+Y)*(1 - d*x*x*y*y)) := by grind
  rw [f1, f2, e1, e2, e]
  generalize y*y - k*(1-y*y) = u
  generalize 1-a*x*x = v
  generalize 1-y*y = w
  grind
theorem one_sides (Y A B : R) (h : Y*A = B) : (1-Y)*A = A - B ∧ (1+Y)*A = A + B := by
  constructor <;> grind
theorem cross_aux1 (Y Z A B c s q : R) : c*q*(s*(1-Y))*((s*(1-Z))*(A*B)) = s*s*c*(((1-Y)*A)*((1-Z)*B)*q) := by grind
theorem cross_aux2 (Y Z A B c s q u : R) : u*(c*q)*(1+Y)*((s*(1-Z))*(A*B)) = (u*(s*(1-Z)))*c*((1+Y)*A)*B*q := by grind
theorem cross_aux3 (Y Z A B c q : R) : (1+Z)*c*((1+Y)*A)*B*q = c*(((1+Y)*A)*((1+Z)*B)*q) := by grind
theorem cross_g1 (a d x1 y1 x2 y2 : R) : ((1 - d*x1*x2*y1*y2) - (y1*y2 - a*x1*x2))*((1 + d*x1*x2*y1*y2) - (y1*y2 + a*x1*x2)) = (1-y1*y2)*(1-y1*y2) - x1*x1*x2*x2*(d*y1*y2-a)*(d*y1*y2-a) := by grind
theorem cross_g2 (a d x1 y1 x2 y2 : R) : ((1 - d*x1*x2*y1*y2) + (y1*y2 - a*x1*x2))*((1 + d*x1*x2*y1*y2) + (y1*y2 + a*x1*x2)) = (1+y1*y2)*(1+y1*y2) - x1*x1*x2*x2*(d*y1*y2+a)*(d*y1*y2+a) := by grind
theorem cross_fin (c q r1 r2 p1 p2 : R) (h : r1*p1*p1 = r2*p2*p2) : 1*c*(r2*(p2*p2)) = c*(r1*(p1*p1)) := by grind
/-- The sum's pair, held against the sum. -/
theorem diff_cross (a d x1 y1 x2 y2 Y Z c u s : R) (h1 : a*x1*x1 + y1*y1 = 1 + d*x1*x1*y1*y1) (h2 : a*x2*x2 + y2*y2 = 1 + d*x2*x2*y2*y2)
    (hY : Y*(1 - d*x1*x2*y1*y2) = y1*y2 - a*x1*x2) (hZ : Z*(1 + d*x1*x2*y1*y2) = y1*y2 + a*x1*x2) (hu : u*(s*(1-Z)) = 1+Z) (hs : s*s = 1) :
    c*((y1+y2)*(y1+y2))*(s*(1-Y))*((s*(1-Z))*((1 - d*x1*x2*y1*y2)*(1 + d*x1*x2*y1*y2))) = u*(c*((y2-y1)*(y2-y1)))*(1+Y)*((s*(1-Z))*((1 - d*x1*x2*y1*y2)*(1 + d*x1*x2*y1*y2))) := by
  obtain ⟨p1, p2⟩ := one_sides _ _ _ hY
  obtain ⟨p3, p4⟩ := one_sides _ _ _ hZ
  rw [cross_aux1, cross_aux2, hu, hs, cross_aux3, p1, p2, p3, p4, cross_g1, cross_g2]
  exact cross_fin c 0 _ _ _ _ (lad_diff a d x1 y1 x2 y2 h1 h2)
theorem zero_sides (y1 y2 : R) (h : y1 + y2 = 0) (k : y2 - y1 = 0) : 2 * y1 = 0 ∧ y2 = y1 := by
  constructor <;> grind
theorem z_sq (a x1 x2 Z d : R) (h1 : a*x1*x1 + 0*0 = 1 + d*x1*x1*0*0) (h2 : a*x2*x2 + 0*0 = 1 + d*x2*x2*0*0) (hZ : Z*(1 + d*x1*x2*0*0) = 0*0 + a*x1*x2) : (Z-1)*(Z+1) = 0 := by
  have e1 : a*x1*x1 = 1 := by grind
  have e2 : a*x2*x2 = 1 := by grind
  have e3 : Z = a*x1*x2 := by grind
  have e4 : Z*Z = (a*x1*x1)*(a*x2*x2) := by rw [e3]; grind
  rw [e1, e2] at e4
  grind
theorem minus_one (u s Z : R) (h : u*(s*(1-Z)) = 1+Z) (hZ : Z + 1 = 0) (hs : s*s = 1) : 2*u = 0 := by
  have e : Z = -1 := by grind
  rw [e] at h
  have : s*(u*(s*(1 - -1))) = s*s*(2*u) := by grind
  rw [h, hs] at this
  grind
end
section
variable {K : Type} [Kf K]
open Kf (kinv)
variable {C : Cv K}
/-- A pair stands for a point: X to Z as 1 + y to s (1 - y). -/
def LR (s : K) (X Z : K) (Q : Pt C) : Prop := ∃ l : K, l ≠ 0 ∧ X = l * (1 + Q.y) ∧ Z = l * (s * (1 - Q.y))
theorem LR.cross {s X Z : K} {Q : Pt C} (hs : s * s = 1) (hn : ¬ (X = 0 ∧ Z = 0)) (h : X * (s * (1 - Q.y)) = Z * (1 + Q.y)) : LR s X Z Q := by
  have hg := F_mul_inv' (Kf.two (K := K))
  obtain ⟨h1, h2⟩ := cross_two X Z s Q.y (kinv 2) hs hg h
  refine ⟨(X + s * Z) * kinv 2, fun e => hn ?_, h1, h2⟩
  rw [e] at h1 h2
  exact ⟨by rw [h1]; grind, by rw [h2]; grind⟩
theorem a_ne_d (C : Cv K) : C.a - C.d ≠ 0 := fun e => C.hd C.c (by rw [C.hc]; grind)
/-- What ties the ladder's constant to the curve. -/
def Tie (C : Cv K) (s k : K) : Prop := (s = 1 ∧ k * (C.a - C.d) = C.d) ∨ (s = -1 ∧ k * (C.d - C.a) = C.a)
theorem Tie.sq {s k : K} (h : Tie C s k) : s * s = 1 := by
  rcases h with ⟨rfl, _⟩ | ⟨rfl, _⟩ <;> grind
theorem lad_double {s k X Z : K} {Q : Pt C} (hT : Tie C s k) (h : LR s X Z Q) :
    LR s ((X+Z)*(X+Z)*((X-Z)*(X-Z))) (((X+Z)*(X+Z) - (X-Z)*(X-Z))*((X+Z)*(X+Z) + k*((X+Z)*(X+Z) - (X-Z)*(X-Z)))) (Q + Q) := by
  obtain ⟨l, hl, rfl, rfl⟩ := h
  have hY : (Q+Q).y * (1 - C.d*Q.x*Q.x*Q.y*Q.y) = Q.y*Q.y - C.a*Q.x*Q.x := add_y Q Q
  have nm : (1 - C.d*Q.x*Q.x*Q.y*Q.y) ≠ 0 := comp_m Q Q
  have np : (1 + C.d*Q.x*Q.x*Q.y*Q.y) ≠ 0 := comp_p Q Q
  have hX : (Q+Q).x * (1 + C.d*Q.x*Q.x*Q.y*Q.y) = Q.x*Q.y + Q.x*Q.y := add_x Q Q
  have hn := F_ne_mul nm (a_ne_d C)
  have h2l : 2 * l ≠ 0 := F_ne_mul Kf.two hl
  have hon := Q.on
  have hs := hT.sq
  -- not both are naught
  have key : ∀ A B : K, (A = 2*l ∧ B = 2*l*Q.y) ∨ (A = 2*l*Q.y ∧ B = 2*l) → ¬ (A*A*(B*B) = 0 ∧ (A*A - B*B)*(A*A + k*(A*A - B*B)) = 0) := by
    intro A B hAB ⟨h1, h2⟩
    have h4 : (2*l)*(2*l) ≠ 0 := F_ne_mul h2l h2l
    have hyy : Q.y = 0 := by
      have : A*A*(B*B) = ((2*l)*(2*l))*((2*l)*(2*l))*(Q.y*Q.y) := by
        rcases hAB with ⟨rfl, rfl⟩ | ⟨rfl, rfl⟩ <;> grind
      rw [this] at h1
      have := (K_mul_eq_zero h1).resolve_left (F_ne_mul h4 h4)
      exact (K_mul_eq_zero this).elim id id
    have ka : 1 + k ≠ 0 ∧ k ≠ 0 := by
      have hc0 := C.c0
      have ha : C.a ≠ 0 := fun e => (by rw [← C.hc] at e; exact (K_mul_eq_zero e).elim hc0 hc0)
      have hd0 : C.d ≠ 0 := fun e => C.hd 0 (by rw [e]; grind)
      rcases hT with ⟨_, hk⟩ | ⟨_, hk⟩
      · exact ⟨fun e => ha (by grind), fun e => hd0 (by rw [e] at hk; grind)⟩
      · exact ⟨fun e => hd0 (by grind), fun e => ha (by rw [e] at hk; grind)⟩
    rcases hAB with ⟨rfl, rfl⟩ | ⟨rfl, rfl⟩
    · rw [hyy] at h2
      have : (2*l*(2*l) - 2*l*0*(2*l*0))*(2*l*(2*l) + k*(2*l*(2*l) - 2*l*0*(2*l*0))) = ((2*l)*(2*l))*((2*l)*(2*l))*(1+k) := by grind
      rw [this] at h2
      exact (K_mul_eq_zero h2).elim (F_ne_mul h4 h4) ka.1
    · rw [hyy] at h2
      have : (2*l*0*(2*l*0) - 2*l*(2*l))*(2*l*0*(2*l*0) + k*(2*l*0*(2*l*0) - 2*l*(2*l))) = ((2*l)*(2*l))*((2*l)*(2*l))*k := by grind
      rw [this] at h2
      exact (K_mul_eq_zero h2).elim (F_ne_mul h4 h4) ka.2
  rcases hT with ⟨rfl, hk⟩ | ⟨rfl, hk⟩
  · obtain ⟨e1, e2, _, _⟩ := step_p l l Q.y Q.y
    rw [e1, e2]
    exact LR.cross hs (key _ _ (.inl ⟨rfl, rfl⟩)) (F_cancel hn (dbl_p C.a C.d k Q.x Q.y l (Q+Q).y hon hk hY))
  · obtain ⟨e1, e2⟩ := step_m l Q.y
    rw [e1, e2]
    exact LR.cross hs (key _ _ (.inr ⟨rfl, rfl⟩)) (F_cancel hn (dbl_m C.a C.d k Q.x Q.y l (Q+Q).y hon hk hY))
theorem lad_sum {s k u X Z X3 Z3 : K} {Q S P : Pt C} (hT : Tie C s k) (h : LR s X Z Q) (h3 : LR s X3 Z3 S) (hP : S + Q.neg = P) (hu : u * (s * (1 - P.y)) = 1 + P.y) (hu0 : u ≠ 0) (hy : 1 - P.y ≠ 0) :
    LR s (((X3-Z3)*(X+Z) + (X3+Z3)*(X-Z))*((X3-Z3)*(X+Z) + (X3+Z3)*(X-Z))) (u*(((X3-Z3)*(X+Z) - (X3+Z3)*(X-Z))*((X3-Z3)*(X+Z) - (X3+Z3)*(X-Z)))) (Q + S) := by
  obtain ⟨l, hl, rfl, rfl⟩ := h
  obtain ⟨m, hm, rfl, rfl⟩ := h3
  have hs := hT.sq
  have hs0 : s ≠ 0 := fun e => K_one_ne (K := K) (by rw [← hs, e]; grind)
  have hY : (Q+S).y * (1 - C.d*Q.x*S.x*Q.y*S.y) = Q.y*S.y - C.a*Q.x*S.x := add_y Q S
  have nm : (1 - C.d*Q.x*S.x*Q.y*S.y) ≠ 0 := comp_m Q S
  have np : (1 + C.d*Q.x*S.x*Q.y*S.y) ≠ 0 := comp_p Q S
  have hZ : P.y * (1 + C.d*Q.x*S.x*Q.y*S.y) = Q.y*S.y + C.a*Q.x*S.x := by
    have h0 : (S+Q.neg).y * (1 - C.d*S.x*(-Q.x)*S.y*Q.y) = S.y*Q.y - C.a*S.x*(-Q.x) := add_y S Q.neg
    rw [hP] at h0
    have e1 : 1 - C.d*S.x*(-Q.x)*S.y*Q.y = 1 + C.d*Q.x*S.x*Q.y*S.y := by grind
    have e2 : S.y*Q.y - C.a*S.x*(-Q.x) = Q.y*S.y + C.a*Q.x*S.x := by grind
    rw [e1, e2] at h0
    exact h0
  have h4 : (4*l*m) ≠ 0 := by
    have : (4*l*m) = (2*l)*(2*m) := by grind
    rw [this]
    exact F_ne_mul (F_ne_mul Kf.two hl) (F_ne_mul Kf.two hm)
  have hc := F_ne_mul h4 h4
  have hne := F_ne_mul (F_ne_mul hs0 hy) (F_ne_mul nm np)
  have fin : LR s ((4*l*m)*(4*l*m)*((Q.y+S.y)*(Q.y+S.y))) (u*((4*l*m)*(4*l*m)*((S.y-Q.y)*(S.y-Q.y)))) (Q + S) := by
    refine LR.cross hs (fun ⟨h1, h2⟩ => ?_) (F_cancel hne (diff_cross C.a C.d Q.x Q.y S.x S.y (Q+S).y P.y _ u s Q.on S.on hY hZ hu hs))
    have g1 := (K_mul_eq_zero h1).resolve_left hc
    have g2 := (K_mul_eq_zero ((K_mul_eq_zero h2).resolve_left hu0)).resolve_left hc
    obtain ⟨g3, g4⟩ := zero_sides Q.y S.y ((K_mul_eq_zero g1).elim id id) ((K_mul_eq_zero g2).elim id id)
    have q0 : Q.y = 0 := (K_mul_eq_zero g3).resolve_left Kf.two
    have s0 : S.y = 0 := g4.trans q0
    have o1 := Q.on
    have o2 := S.on
    rw [q0] at o1 hZ
    rw [s0] at o2 hZ
    have hz := z_sq C.a Q.x S.x P.y C.d o1 o2 hZ
    rcases K_mul_eq_zero hz with h | h
    · exact hy (by grind)
    · exact (K_mul_eq_zero (minus_one u s P.y hu h hs)).elim Kf.two hu0
  rcases hT with ⟨rfl, _⟩ | ⟨rfl, _⟩
  · obtain ⟨e1, e2, e3, e4⟩ := step_p l m Q.y S.y
    obtain ⟨f1, f2⟩ := high_p l m Q.y S.y
    rw [e1, e2, e3, e4, f1, f2]
    exact fin
  · obtain ⟨e1, e2⟩ := step_m l Q.y
    obtain ⟨e3, e4⟩ := step_m m S.y
    obtain ⟨f1, f2⟩ := high_m l m Q.y S.y
    rw [e1, e2, e3, e4, f1, f2]
    exact fin
end
end Pl
end Go.Proofs.Ytgeldhdijochdaa
/- Plain law: what the ladder reckons is the place of so many times a point. Conditions: none. -/
namespace Go.Proofs.Ytgeldhdijochdaa.Am
set_option linter.unusedVariables false
set_option linter.unusedSimpArgs false
open Go
open Pl (F Kf Cv Pt LR Tie pP inv toF lad_double lad_sum F_mul_inv F_ne_mul)
set_option linter.unusedSectionVars false
variable [GT]
/-- The ladder, in residues. -/
structure G5 where
  u : F
  lx : F
  lz : F
  hx : F
  hz : F
def G5.v (l : G5) : L5 := ⟨l.u.val, l.lx.val, l.lz.val, l.hx.val, l.hz.val⟩
def kF : F := toF 121665
theorem kF_val : kF.val = 121665 := by decide +kernel
def gSwp (l : G5) : G5 := ⟨l.u, l.hx, l.hz, l.lx, l.lz⟩
def gStp (l : G5) : G5 :=
  ⟨l.u, (l.lx+l.lz)*(l.lx+l.lz)*((l.lx-l.lz)*(l.lx-l.lz)),
   ((l.lx+l.lz)*(l.lx+l.lz) - (l.lx-l.lz)*(l.lx-l.lz))*((l.lx+l.lz)*(l.lx+l.lz) + kF*((l.lx+l.lz)*(l.lx+l.lz) - (l.lx-l.lz)*(l.lx-l.lz))),
   ((l.hx-l.hz)*(l.lx+l.lz) + (l.hx+l.hz)*(l.lx-l.lz))*((l.hx-l.hz)*(l.lx+l.lz) + (l.hx+l.hz)*(l.lx-l.lz)),
   l.u*((l.hx-l.hz)*(l.lx+l.lz) - (l.hx+l.hz)*(l.lx-l.lz))*((l.hx-l.hz)*(l.lx+l.lz) - (l.hx+l.hz)*(l.lx-l.lz))⟩
theorem lSwp_v (l : G5) : lSwp l.v = (gSwp l).v := rfl
theorem lStp_v (l : G5) : lStp l.v = (gStp l).v := by
  unfold lStp lStp' G5.v gStp
  simp only [nSum_val2, nSub_val, nPro_val2, ← kF_val, nPro_val3]
section
variable {C : Cv F}
/-- A point's place. -/
def uOf (s : F) (Q : Pt C) : F := (1 + Q.y) * inv (s * (1 - Q.y))
/-- What the ladder stands for. -/
def LInv (s u : F) (P : Pt C) (m : Nat) (l : G5) : Prop := l.u = u ∧ LR s l.lx l.lz (Pt.mul m P) ∧ LR s l.hx l.hz (Pt.mul (m + 1) P)
theorem mul3 {R : Type} [Lean.Grind.CommRing R] (u a : R) : u * a * a = u * (a * a) := by grind
theorem LInv.low {s u : F} {P : Pt C} (hT : Tie C s kF) (hu : u * (s * (1 - P.y)) = 1 + P.y) (hu0 : u ≠ 0) (hy : 1 - P.y ≠ 0) {m : Nat} {l : G5} (h : LInv s u P m l) : LInv s u P (m + m) (gStp l) := by
  obtain ⟨h1, h2, h3⟩ := h
  have hP : Pt.mul (m + 1) P + (Pt.mul m P).neg = P := by
    rw [Pt.mul, Pt.add_comm (Pt.mul m P) P, Pt.add_assoc, Pt.add_neg, Pt.add_O]
  have a1 := lad_double hT h2
  have a2 := lad_sum hT h2 h3 hP hu hu0 hy
  rw [← Pt.add_mul] at a1 a2
  refine ⟨h1, a1, ?_⟩
  rw [show m + m + 1 = m + (m + 1) by omega]
  unfold gStp
  rw [mul3, h1]
  exact a2
theorem LInv.high {s u : F} {P : Pt C} (hT : Tie C s kF) (hu : u * (s * (1 - P.y)) = 1 + P.y) (hu0 : u ≠ 0) (hy : 1 - P.y ≠ 0) {m : Nat} {l : G5} (h : LInv s u P m l) : LInv s u P (m + m + 1) (gSwp (gStp (gSwp l))) := by
  obtain ⟨h1, h2, h3⟩ := h
  have hP : Pt.mul m P + (Pt.mul (m + 1) P).neg = P.neg := by
    rw [Pt.mul, Pt.neg_sum, ← Pt.add_assoc, Pt.add_neg, Pt.O_add]
  have a1 := lad_double hT h3
  have a2 := lad_sum hT h3 h2 hP hu hu0 hy
  rw [← Pt.add_mul] at a1 a2
  refine ⟨h1, ?_, ?_⟩
  · rw [show m + m + 1 = (m + 1) + m by omega]
    unfold gSwp gStp
    rw [mul3, h1]
    exact a2
  · rw [show m + m + 1 + 1 = (m + 1) + (m + 1) by omega]
    exact a1
theorem tiR_inv {s u : F} {P : Pt C} (hT : Tie C s kF) (hu : u * (s * (1 - P.y)) = 1 + P.y) (hu0 : u ≠ 0) (hy : 1 - P.y ≠ 0) (n : Nat) : ∀ (i m : Nat) (l : G5), LInv s u P m l → ∃ l' : G5, tiR n i l.v = l'.v ∧ LInv s u P (m * 2 ^ i + n % 2 ^ i) l'
  | 0, m, l, h => ⟨l, rfl, by rw [Nat.pow_zero, Nat.mul_one, Nat.mod_one, Nat.add_zero]; exact h⟩
  | i + 1, m, l, h => by
    have hm : n % 2 ^ (i + 1) = 2 ^ i * (n.testBit i).toNat + n % 2 ^ i := by
      rw [Nat.mod_pow_succ, Nat.toNat_testBit, Nat.add_comm]
    unfold tiR
    cases hb : n.testBit i with
    | false =>
      obtain ⟨l', h1, h2⟩ := tiR_inv hT hu hu0 hy n i (m + m) _ (h.low hT hu hu0 hy)
      refine ⟨l', by simp only [lStp_v]; exact h1, ?_⟩
      rw [hm, hb]
      have : (m + m) * 2 ^ i + n % 2 ^ i = m * 2 ^ (i + 1) + (2 ^ i * (false).toNat + n % 2 ^ i) := by
        rw [Nat.pow_succ, Nat.add_mul]
        simp only [Bool.toNat_false, Nat.mul_zero, Nat.zero_add]
        rw [← Nat.mul_assoc, Nat.mul_two]
      rw [← this]
      exact h2
    | true =>
      obtain ⟨l', h1, h2⟩ := tiR_inv hT hu hu0 hy n i (m + m + 1) _ (h.high hT hu hu0 hy)
      refine ⟨l', by simp only [lSwp_v, lStp_v]; exact h1, ?_⟩
      rw [hm, hb]
      have : (m + m + 1) * 2 ^ i + n % 2 ^ i = m * 2 ^ (i + 1) + (2 ^ i * (true).toNat + n % 2 ^ i) := by
        rw [Nat.pow_succ, Nat.add_mul, Nat.add_mul, Nat.one_mul]
        simp only [Bool.toNat_true, Nat.mul_one]
        rw [← Nat.mul_assoc, Nat.mul_two]
        omega
      rw [← this]
      exact h2
theorem inv_aux {R : Type} [Lean.Grind.CommRing R] (l w i j e : R) (h : l * w * i = 1) (k : w * j = 1) : l * e * i = e * j := by
  have : l * e * i = l * e * i * (w * j) := by rw [k]; grind
  rw [this]
  have : l * e * i * (w * j) = (l * w * i) * (e * j) := by grind
  rw [this, h]; grind
theorem zero_m {R : Type} [Lean.Grind.CommRing R] (a s : R) : a * (s * (1 - 1)) = 0 := by grind
theorem a_zero {R : Type} [Lean.Grind.CommRing R] (a : R) : a * 0 = 0 := by grind
theorem half_one {R : Type} [Lean.Grind.CommRing R] (g : R) (h : 2 * g = 1) : 1 = g * (1 + 1) := by grind
theorem comm_one {R : Type} [Lean.Grind.CommRing R] (u w i y : R) (h : u * w = y) (k : w * i = 1) : u = i * y ∧ 1 = i * w := by
  constructor
  · rw [← h]
    have : i * (u * w) = u * (w * i) := by grind
    rw [this, k]; grind
  · rw [← k]; grind
theorem uo_aux {R : Type} [Lean.Grind.CommRing R] (a w i : R) (h : w * i = 1) : a * i * w = a := by
  have : a * i * w = a * (w * i) := by grind
  rw [this, h]; grind
theorem lr_place {s X Z : F} {Q : Pt C} (hs : s ≠ 0) (h : LR s X Z Q) : X * inv Z = uOf s Q := by
  obtain ⟨l, hl, rfl, rfl⟩ := h
  unfold uOf
  by_cases hw : 1 - Q.y = 0
  · have e : s * (1 - Q.y) = 0 := by rw [hw, a_zero]
    rw [e, a_zero, Pl.inv_zero, a_zero, a_zero]
  · have hw' := F_ne_mul hs hw
    exact inv_aux _ _ _ _ _ (F_mul_inv (F_ne_mul hl hw')) (F_mul_inv hw')
theorem tie_s {s : F} (hT : Tie C s kF) : s ≠ 0 := fun e => Pl.F_one_ne (by rw [← hT.sq, e, a_zero])
theorem uOf_eq {s : F} {P : Pt C} (hs : s ≠ 0) (hy : 1 - P.y ≠ 0) : uOf s P * (s * (1 - P.y)) = 1 + P.y := by
  have hi := F_mul_inv (F_ne_mul hs hy)
  unfold uOf
  exact uo_aux _ _ _ hi
/-- The ladder reckons so many times a place. -/
theorem lad_main {s : F} (hT : Tie C s kF) (P : Pt C) (hy : 1 - P.y ≠ 0) (hu0 : uOf s P ≠ 0) (n : Nat) : nLad n (uOf s P).val = (uOf s (Pt.mul (n % 2 ^ 255) P)).val := by
  have hs := tie_s hT
  have hu := uOf_eq hs hy
  have h2 := F_mul_inv Pl.F_two_ne
  have hw := F_mul_inv (F_ne_mul hs hy)
  have hn2 : inv (2 : F) ≠ 0 := fun e => by rw [e, a_zero] at h2; exact Pl.F_one_ne h2.symm
  have hnw : inv (s * (1 - P.y)) ≠ 0 := fun e => by rw [e, a_zero] at hw; exact Pl.F_one_ne hw.symm
  have h0 : LInv s (uOf s P) P 0 ⟨uOf s P, 1, 0, uOf s P, 1⟩ := by
    refine ⟨rfl, ⟨inv 2, hn2, half_one _ h2, (zero_m _ _).symm⟩, ?_⟩
    rw [Pt.mul_one]
    obtain ⟨e1, e2⟩ := comm_one _ _ _ _ hu hw
    exact ⟨_, hnw, e1, e2⟩
  obtain ⟨l', h1, h3⟩ := tiR_inv hT hu hu0 hy n 255 0 _ h0
  rw [Nat.zero_mul, Nat.zero_add] at h3
  have hv : (⟨uOf s P, 1, 0, uOf s P, 1⟩ : G5).v = ⟨(uOf s P).val, 1, 0, (uOf s P).val, 1⟩ := by
    unfold G5.v
    rw [val_one]
    rfl
  rw [hv] at h1
  unfold nLad
  rw [h1]
  show nPro [l'.lx.val, nInv l'.lz.val] = _
  rw [nInv_val, nPro_val2, lr_place hs h3.2.1]
end
/-! ### The place 0 -/
theorem z_low {R : Type} [Lean.Grind.CommRing R] (x z k : R) (h : x = 0 ∨ z = 0) : ((x+z)*(x+z) - (x-z)*(x-z))*((x+z)*(x+z) + k*((x+z)*(x+z) - (x-z)*(x-z))) = 0 := by
  have e : (x+z)*(x+z) - (x-z)*(x-z) = 4 * (x * z) := by grind
  have f : x * z = 0 := by rcases h with rfl | rfl <;> grind
  rw [e, f]; grind
theorem z_high {R : Type} [Lean.Grind.CommRing R] (a : R) : 0 * a * a = 0 := by grind
theorem stp_zero {l : G5} (hu : l.u = 0) (h : l.lx = 0 ∨ l.lz = 0) : (gStp l).u = 0 ∧ (gStp l).lz = 0 ∧ (gStp l).hz = 0 := by
  refine ⟨hu, z_low _ _ _ h, ?_⟩
  unfold gStp
  rw [hu]
  exact z_high _
theorem tiR_zero (n : Nat) : ∀ (i : Nat) (l : G5), l.u = 0 ∧ l.lz = 0 ∧ l.hz = 0 → ∃ l' : G5, tiR n i l.v = l'.v ∧ l'.lz = 0
  | 0, l, h => ⟨l, rfl, h.2.1⟩
  | i + 1, l, h => by
    unfold tiR
    cases n.testBit i with
    | false =>
      obtain ⟨l', h1, h2⟩ := tiR_zero n i _ (stp_zero h.1 (.inr h.2.1))
      exact ⟨l', by simp only [lStp_v]; exact h1, h2⟩
    | true =>
      have hz := stp_zero (l := gSwp l) h.1 (.inr h.2.2)
      obtain ⟨l', h1, h2⟩ := tiR_zero n i (gSwp (gStp (gSwp l))) ⟨hz.1, hz.2.2, hz.2.1⟩
      exact ⟨l', by simp only [lSwp_v, lStp_v]; exact h1, h2⟩
theorem lad_zero (n : Nat) : nLad n 0 = 0 := by
  have hv : (⟨0, 1, 0, 0, 1⟩ : G5).v = ⟨0, 1, 0, 0, 1⟩ := by
    unfold G5.v
    rw [val_one]
    rfl
  have key : ∃ l' : G5, tiR n 255 ⟨0, 1, 0, 0, 1⟩ = l'.v ∧ l'.lz = 0 := by
    rw [← hv]
    unfold tiR
    cases n.testBit 254 with
    | false =>
      obtain ⟨l', h1, h2⟩ := tiR_zero n 254 _ (stp_zero (l := ⟨0, 1, 0, 0, 1⟩) rfl (.inr rfl))
      exact ⟨l', by simp only [lStp_v]; exact h1, h2⟩
    | true =>
      have hz := stp_zero (l := gSwp ⟨0, 1, 0, 0, 1⟩) rfl (.inl rfl)
      obtain ⟨l', h1, h2⟩ := tiR_zero n 254 (gSwp (gStp (gSwp ⟨0, 1, 0, 0, 1⟩))) ⟨hz.1, hz.2.2, hz.2.1⟩
      exact ⟨l', by simp only [lSwp_v, lStp_v]; exact h1, h2⟩
  obtain ⟨l', h1, h2⟩ := key
  unfold nLad
  rw [h1]
  show nPro [l'.lx.val, nInv l'.lz.val] = _
  rw [h2, nInv_val, nPro_val2, Pl.inv_zero, a_zero]
  rfl
end Go.Proofs.Ytgeldhdijochdaa.Am
/- Plain law: the base's order. Conditions: none. -/
namespace Go.Proofs.Ytgeldhdijochdaa.Am
set_option linter.unusedVariables false
set_option linter.unusedSimpArgs false
open Go
open Pl (pP pL T256)
set_option linter.unusedSectionVars false
variable [GT]
/-- The bits of n below i, one by one from above, with a parameter told. -/
def tmRd (d n : Nat) (f : P4) : Nat → P4 → P4
  | 0, o => o
  | i + 1, o => tmRd d n f i (match n.testBit i with
    | true => pAdd d (pAdd d o o) f
    | false => pAdd d o o)
theorem tmR_d (n : Nat) (f : P4) : ∀ (i : Nat) (o : P4), tmR n f i o = tmRd nTwice n f i o
  | 0, _ => rfl
  | i + 1, o => by
    rw [tmR, tmRd, tmR_d n f i]
    cases n.testBit i <;> rfl
def d2N : Nat := 16295367250680780974490674513165176452449235426866156013048779062215315747161
theorem nTwice_lit : nTwice = d2N := by
  rw [nTwice_val]
  decide +kernel
def fBa : P4 := ⟨bxN, byN, 1, bxN * byN % pP⟩
theorem fBa_v : (fFar eB).v = fBa := by
  rw [← far_v]
  unfold pFar fBa
  rw [show eB.x.val = bxN from by decide +kernel, show eB.y.val = byN from by decide +kernel]
  congr 1
def fO : P4 := ⟨0, 1, 1, 0⟩
theorem fO_v : (fFar (Pl.Pt.O : EP)).v = fO := by
  unfold fFar F4.v fO
  rw [P4.mk.injEq]
  refine ⟨by decide +kernel, by decide +kernel, by decide +kernel, by decide +kernel⟩
theorem base_mul (n : Nat) (h : n < 2 ^ 256) : ∃ o : F4, tmRd d2N n fBa 256 fO = o.v ∧ Rep o (Pl.Pt.mul n eB) := by
  obtain ⟨o, h1, h2⟩ := tmR_rep n eB 256 0 (fFar (Pl.Pt.O : EP)) (far_rep _)
  rw [Nat.zero_mul, Nat.zero_add, Nat.mod_eq_of_lt h] at h2
  rw [tmR_d, nTwice_lit, fBa_v, fO_v] at h1
  exact ⟨o, h1, h2⟩
theorem kL : (tmRd d2N pL fBa 256 fO).x = 0 ∧ (tmRd d2N pL fBa 256 fO).y = (tmRd d2N pL fBa 256 fO).z := by decide +kernel
theorem k8 : (tmRd d2N 8 fBa 256 fO).x ≠ 0 := by decide +kernel
theorem one_mul'' {R : Type} [Lean.Grind.CommRing R] (a : R) : 1 * a = a := by grind
theorem zero_mul'' {R : Type} [Lean.Grind.CommRing R] (a : R) : 0 * a = 0 := by grind
theorem one_mul' (a : Pl.F) : 1 * a = a := one_mul'' a
theorem zero_mul' (a : Pl.F) : 0 * a = 0 := zero_mul'' a
theorem mul_self_cancel {a z : Pl.F} (hz : z ≠ 0) (h : z = a * z) : a = 1 := Pl.F_cancel hz (h.symm.trans (one_mul' z).symm)
theorem base_order : Pl.Pt.mul pL eB = Pl.Pt.O := by
  obtain ⟨o, h1, h2⟩ := base_mul pL (by decide +kernel)
  have h3 := kL
  rw [h1] at h3
  have hx : o.x = 0 := Fin.ext h3.1
  have hy : o.y = o.z := Fin.ext h3.2
  refine Pl.Pt.ext ?_ ?_
  · have := h2.x
    rw [hx] at this
    exact (Pl.F_mul_eq_zero this.symm).resolve_right h2.z
  · have := h2.y
    rw [hy] at this
    exact mul_self_cancel h2.z this
theorem base_eight : Pl.Pt.mul 8 eB ≠ Pl.Pt.O := fun h => by
  obtain ⟨o, h1, h2⟩ := base_mul 8 (by decide +kernel)
  have h3 := k8
  rw [h1] at h3
  rw [h] at h2
  have : o.x = 0 * o.z := h2.x
  exact h3 (congrArg Fin.val (this.trans (zero_mul' o.z)))
end Go.Proofs.Ytgeldhdijochdaa.Am
/- Plain law: the order of the base is a prime; so is the number of the twist (certificates of Lucas). Conditions: none. -/
namespace Go.Proofs.Ytgeldhdijochdaa
set_option linter.unusedVariables false
set_option linter.unusedSimpArgs false
namespace Pl
theorem prm_11 : Prm 11 := small_prime (by decide) (by decide +kernel)
theorem prm_23 : Prm 23 := small_prime (by decide) (by decide +kernel)
theorem prm_34123 : Prm 34123 := small_prime (by decide) (by decide +kernel)
theorem cert_409477 : certOk 409477 2 [2, 2, 3, 34123] = true := by decide +kernel
theorem fac_409477 : ∀ q, q ∈ [2, 2, 3, 34123] → Prm q := by
  intro q hq
  simp only [List.mem_cons, List.not_mem_nil, or_false] at hq
  rcases hq with rfl | rfl | rfl | rfl
  · exact prm_2
  · exact prm_2
  · exact prm_3
  · exact prm_34123
theorem prm_409477 : Prm 409477 := (cert_gen cert_409477 fac_409477).1
theorem cert_14741173 : certOk 14741173 2 [2, 2, 3, 3, 409477] = true := by decide +kernel
theorem fac_14741173 : ∀ q, q ∈ [2, 2, 3, 3, 409477] → Prm q := by
  intro q hq
  simp only [List.mem_cons, List.not_mem_nil, or_false] at hq
  rcases hq with rfl | rfl | rfl | rfl | rfl
  · exact prm_2
  · exact prm_2
  · exact prm_3
  · exact prm_3
  · exact prm_409477
theorem prm_14741173 : Prm 14741173 := (cert_gen cert_14741173 fac_14741173).1
theorem cert_58964693 : certOk 58964693 2 [2, 2, 14741173] = true := by decide +kernel
theorem fac_58964693 : ∀ q, q ∈ [2, 2, 14741173] → Prm q := by
  intro q hq
  simp only [List.mem_cons, List.not_mem_nil, or_false] at hq
  rcases hq with rfl | rfl | rfl
  · exact prm_2
  · exact prm_2
  · exact prm_14741173
theorem prm_58964693 : Prm 58964693 := (cert_gen cert_58964693 fac_58964693).1
theorem prm_30703 : Prm 30703 := small_prime (by decide) (by decide +kernel)
theorem prm_41081 : Prm 41081 := small_prime (by decide) (by decide +kernel)
theorem cert_82163 : certOk 82163 2 [2, 41081] = true := by decide +kernel
theorem fac_82163 : ∀ q, q ∈ [2, 41081] → Prm q := by
  intro q hq
  simp only [List.mem_cons, List.not_mem_nil, or_false] at hq
  rcases hq with rfl | rfl
  · exact prm_2
  · exact prm_41081
theorem prm_82163 : Prm 82163 := (cert_gen cert_82163 fac_82163).1
theorem prm_22111 : Prm 22111 := small_prime (by decide) (by decide +kernel)
theorem cert_132667 : certOk 132667 5 [2, 3, 22111] = true := by decide +kernel
theorem fac_132667 : ∀ q, q ∈ [2, 3, 22111] → Prm q := by
  intro q hq
  simp only [List.mem_cons, List.not_mem_nil, or_false] at hq
  rcases hq with rfl | rfl | rfl
  · exact prm_2
  · exact prm_3
  · exact prm_22111
theorem prm_132667 : Prm 132667 := (cert_gen cert_132667 fac_132667).1
theorem prm_17231 : Prm 17231 := small_prime (by decide) (by decide +kernel)
theorem cert_137849 : certOk 137849 3 [2, 2, 2, 17231] = true := by decide +kernel
theorem fac_137849 : ∀ q, q ∈ [2, 2, 2, 17231] → Prm q := by
  intro q hq
  simp only [List.mem_cons, List.not_mem_nil, or_false] at hq
  rcases hq with rfl | rfl | rfl | rfl
  · exact prm_2
  · exact prm_2
  · exact prm_2
  · exact prm_17231
theorem prm_137849 : Prm 137849 := (cert_gen cert_137849 fac_137849).1
theorem cert_22d_63343 : certOk 3044861653679985063343 5 [2, 3, 11, 30703, 82163, 132667, 137849] = true := by decide +kernel
theorem fac_22d_63343 : ∀ q, q ∈ [2, 3, 11, 30703, 82163, 132667, 137849] → Prm q := by
  intro q hq
  simp only [List.mem_cons, List.not_mem_nil, or_false] at hq
  rcases hq with rfl | rfl | rfl | rfl | rfl | rfl | rfl
  · exact prm_2
  · exact prm_3
  · exact prm_11
  · exact prm_30703
  · exact prm_82163
  · exact prm_132667
  · exact prm_137849
theorem prm_22d_63343 : Prm 3044861653679985063343 := (cert_gen cert_22d_63343 fac_22d_63343).1
theorem cert_33d_763697 : certOk 198211423230930754013084525763697 5 [2, 2, 2, 2, 3, 23, 58964693, 3044861653679985063343] = true := by decide +kernel
theorem fac_33d_763697 : ∀ q, q ∈ [2, 2, 2, 2, 3, 23, 58964693, 3044861653679985063343] → Prm q := by
  intro q hq
  simp only [List.mem_cons, List.not_mem_nil, or_false] at hq
  rcases hq with rfl | rfl | rfl | rfl | rfl | rfl | rfl | rfl
  · exact prm_2
  · exact prm_2
  · exact prm_2
  · exact prm_2
  · exact prm_3
  · exact prm_23
  · exact prm_58964693
  · exact prm_22d_63343
theorem prm_33d_763697 : Prm 198211423230930754013084525763697 := (cert_gen cert_33d_763697 fac_33d_763697).1
theorem prm_269 : Prm 269 := small_prime (by decide) (by decide +kernel)
theorem prm_73 : Prm 73 := small_prime (by decide) (by decide +kernel)
theorem prm_307 : Prm 307 := small_prime (by decide) (by decide +kernel)
theorem prm_5879 : Prm 5879 := small_prime (by decide) (by decide +kernel)
theorem cert_292386187 : certOk 292386187 2 [2, 3, 3, 3, 3, 307, 5879] = true := by decide +kernel
theorem fac_292386187 : ∀ q, q ∈ [2, 3, 3, 3, 3, 307, 5879] → Prm q := by
  intro q hq
  simp only [List.mem_cons, List.not_mem_nil, or_false] at hq
  rcases hq with rfl | rfl | rfl | rfl | rfl | rfl | rfl
  · exact prm_2
  · exact prm_3
  · exact prm_3
  · exact prm_3
  · exact prm_3
  · exact prm_307
  · exact prm_5879
theorem prm_292386187 : Prm 292386187 := (cert_gen cert_292386187 fac_292386187).1
theorem cert_213441916511 : certOk 213441916511 13 [2, 5, 73, 292386187] = true := by decide +kernel
theorem fac_213441916511 : ∀ q, q ∈ [2, 5, 73, 292386187] → Prm q := by
  intro q hq
  simp only [List.mem_cons, List.not_mem_nil, or_false] at hq
  rcases hq with rfl | rfl | rfl | rfl
  · exact prm_2
  · exact prm_5
  · exact prm_73
  · exact prm_292386187
theorem prm_213441916511 : Prm 213441916511 := (cert_gen cert_213441916511 fac_213441916511).1
theorem prm_1361 : Prm 1361 := small_prime (by decide) (by decide +kernel)
theorem prm_2851 : Prm 2851 := small_prime (by decide) (by decide +kernel)
theorem prm_41 : Prm 41 := small_prime (by decide) (by decide +kernel)
theorem prm_3797 : Prm 3797 := small_prime (by decide) (by decide +kernel)
theorem cert_531581 : certOk 531581 2 [2, 2, 5, 7, 3797] = true := by decide +kernel
theorem fac_531581 : ∀ q, q ∈ [2, 2, 5, 7, 3797] → Prm q := by
  intro q hq
  simp only [List.mem_cons, List.not_mem_nil, or_false] at hq
  rcases hq with rfl | rfl | rfl | rfl | rfl
  · exact prm_2
  · exact prm_2
  · exact prm_5
  · exact prm_7
  · exact prm_3797
theorem prm_531581 : Prm 531581 := (cert_gen cert_531581 fac_531581).1
theorem prm_2551 : Prm 2551 := small_prime (by decide) (by decide +kernel)
theorem cert_1224481 : certOk 1224481 13 [2, 2, 2, 2, 2, 3, 5, 2551] = true := by decide +kernel
theorem fac_1224481 : ∀ q, q ∈ [2, 2, 2, 2, 2, 3, 5, 2551] → Prm q := by
  intro q hq
  simp only [List.mem_cons, List.not_mem_nil, or_false] at hq
  rcases hq with rfl | rfl | rfl | rfl | rfl | rfl | rfl | rfl
  · exact prm_2
  · exact prm_2
  · exact prm_2
  · exact prm_2
  · exact prm_2
  · exact prm_3
  · exact prm_5
  · exact prm_2551
theorem prm_1224481 : Prm 1224481 := (cert_gen cert_1224481 fac_1224481).1
theorem cert_16d_178653 : certOk 1257559732178653 2 [2, 2, 3, 7, 23, 531581, 1224481] = true := by decide +kernel
theorem fac_16d_178653 : ∀ q, q ∈ [2, 2, 3, 7, 23, 531581, 1224481] → Prm q := by
  intro q hq
  simp only [List.mem_cons, List.not_mem_nil, or_false] at hq
  rcases hq with rfl | rfl | rfl | rfl | rfl | rfl | rfl
  · exact prm_2
  · exact prm_2
  · exact prm_3
  · exact prm_7
  · exact prm_23
  · exact prm_531581
  · exact prm_1224481
theorem prm_16d_178653 : Prm 1257559732178653 := (cert_gen cert_16d_178653 fac_16d_178653).1
theorem cert_19d_930479 : certOk 4434155615661930479 17 [2, 41, 43, 1257559732178653] = true := by decide +kernel
theorem fac_19d_930479 : ∀ q, q ∈ [2, 41, 43, 1257559732178653] → Prm q := by
  intro q hq
  simp only [List.mem_cons, List.not_mem_nil, or_false] at hq
  rcases hq with rfl | rfl | rfl | rfl
  · exact prm_2
  · exact prm_41
  · exact prm_43
  · exact prm_16d_178653
theorem prm_19d_930479 : Prm 4434155615661930479 := (cert_gen cert_19d_930479 fac_19d_930479).1
theorem cert_27d_510691 : certOk 172054593956031949258510691 2 [2, 5, 1361, 2851, 4434155615661930479] = true := by decide +kernel
theorem fac_27d_510691 : ∀ q, q ∈ [2, 5, 1361, 2851, 4434155615661930479] → Prm q := by
  intro q hq
  simp only [List.mem_cons, List.not_mem_nil, or_false] at hq
  rcases hq with rfl | rfl | rfl | rfl | rfl
  · exact prm_2
  · exact prm_5
  · exact prm_1361
  · exact prm_2851
  · exact prm_19d_930479
theorem prm_27d_510691 : Prm 172054593956031949258510691 := (cert_gen cert_27d_510691 fac_27d_510691).1
theorem cert_41d_476339 : certOk 19757330305831588566944191468367130476339 2 [2, 269, 213441916511, 172054593956031949258510691] = true := by decide +kernel
theorem fac_41d_476339 : ∀ q, q ∈ [2, 269, 213441916511, 172054593956031949258510691] → Prm q := by
  intro q hq
  simp only [List.mem_cons, List.not_mem_nil, or_false] at hq
  rcases hq with rfl | rfl | rfl | rfl
  · exact prm_2
  · exact prm_269
  · exact prm_213441916511
  · exact prm_27d_510691
theorem prm_41d_476339 : Prm 19757330305831588566944191468367130476339 := (cert_gen cert_41d_476339 fac_41d_476339).1
theorem cert_42d_668747 : certOk 276602624281642239937218680557139826668747 2 [2, 7, 19757330305831588566944191468367130476339] = true := by decide +kernel
theorem fac_42d_668747 : ∀ q, q ∈ [2, 7, 19757330305831588566944191468367130476339] → Prm q := by
  intro q hq
  simp only [List.mem_cons, List.not_mem_nil, or_false] at hq
  rcases hq with rfl | rfl | rfl
  · exact prm_2
  · exact prm_7
  · exact prm_41d_476339
theorem prm_42d_668747 : Prm 276602624281642239937218680557139826668747 := (cert_gen cert_42d_668747 fac_42d_668747).1
theorem cert_76d_250989 : certOk 7237005577332262213973186563042994240857116359379907606001950938285454250989 2 [2, 2, 3, 11, 198211423230930754013084525763697, 276602624281642239937218680557139826668747] = true := by decide +kernel
theorem fac_76d_250989 : ∀ q, q ∈ [2, 2, 3, 11, 198211423230930754013084525763697, 276602624281642239937218680557139826668747] → Prm q := by
  intro q hq
  simp only [List.mem_cons, List.not_mem_nil, or_false] at hq
  rcases hq with rfl | rfl | rfl | rfl | rfl | rfl
  · exact prm_2
  · exact prm_2
  · exact prm_3
  · exact prm_11
  · exact prm_33d_763697
  · exact prm_42d_668747
theorem prm_76d_250989 : Prm 7237005577332262213973186563042994240857116359379907606001950938285454250989 := (cert_gen cert_76d_250989 fac_76d_250989).1
theorem prm_79 : Prm 79 := small_prime (by decide) (by decide +kernel)
theorem prm_2791 : Prm 2791 := small_prime (by decide) (by decide +kernel)
theorem cert_117223 : certOk 117223 3 [2, 3, 7, 2791] = true := by decide +kernel
theorem fac_117223 : ∀ q, q ∈ [2, 3, 7, 2791] → Prm q := by
  intro q hq
  simp only [List.mem_cons, List.not_mem_nil, or_false] at hq
  rcases hq with rfl | rfl | rfl | rfl
  · exact prm_2
  · exact prm_3
  · exact prm_7
  · exact prm_2791
theorem prm_117223 : Prm 117223 := (cert_gen cert_117223 fac_117223).1
theorem prm_17 : Prm 17 := small_prime (by decide) (by decide +kernel)
theorem cert_84457 : certOk 84457 5 [2, 2, 2, 3, 3, 3, 17, 23] = true := by decide +kernel
theorem fac_84457 : ∀ q, q ∈ [2, 2, 2, 3, 3, 3, 17, 23] → Prm q := by
  intro q hq
  simp only [List.mem_cons, List.not_mem_nil, or_false] at hq
  rcases hq with rfl | rfl | rfl | rfl | rfl | rfl | rfl | rfl
  · exact prm_2
  · exact prm_2
  · exact prm_2
  · exact prm_3
  · exact prm_3
  · exact prm_3
  · exact prm_17
  · exact prm_23
theorem prm_84457 : Prm 84457 := (cert_gen cert_84457 fac_84457).1
theorem cert_6418733 : certOk 6418733 2 [2, 2, 19, 84457] = true := by decide +kernel
theorem fac_6418733 : ∀ q, q ∈ [2, 2, 19, 84457] → Prm q := by
  intro q hq
  simp only [List.mem_cons, List.not_mem_nil, or_false] at hq
  rcases hq with rfl | rfl | rfl | rfl
  · exact prm_2
  · exact prm_2
  · exact prm_19
  · exact prm_84457
theorem prm_6418733 : Prm 6418733 := (cert_gen cert_6418733 fac_6418733).1
theorem prm_487 : Prm 487 := small_prime (by decide) (by decide +kernel)
theorem prm_12527 : Prm 12527 := small_prime (by decide) (by decide +kernel)
theorem cert_1110318119 : certOk 1110318119 7 [2, 7, 13, 487, 12527] = true := by decide +kernel
theorem fac_1110318119 : ∀ q, q ∈ [2, 7, 13, 487, 12527] → Prm q := by
  intro q hq
  simp only [List.mem_cons, List.not_mem_nil, or_false] at hq
  rcases hq with rfl | rfl | rfl | rfl | rfl
  · exact prm_2
  · exact prm_7
  · exact prm_13
  · exact prm_487
  · exact prm_12527
theorem prm_1110318119 : Prm 1110318119 := (cert_gen cert_1110318119 fac_1110318119).1
theorem cert_2220636239 : certOk 2220636239 23 [2, 1110318119] = true := by decide +kernel
theorem fac_2220636239 : ∀ q, q ∈ [2, 1110318119] → Prm q := by
  intro q hq
  simp only [List.mem_cons, List.not_mem_nil, or_false] at hq
  rcases hq with rfl | rfl
  · exact prm_2
  · exact prm_1110318119
theorem prm_2220636239 : Prm 2220636239 := (cert_gen cert_2220636239 fac_2220636239).1
theorem prm_4363 : Prm 4363 := small_prime (by decide) (by decide +kernel)
theorem prm_467 : Prm 467 := small_prime (by decide) (by decide +kernel)
theorem prm_3637 : Prm 3637 := small_prime (by decide) (by decide +kernel)
theorem prm_11351 : Prm 11351 := small_prime (by decide) (by decide +kernel)
theorem cert_743104567 : certOk 743104567 6 [2, 3, 3, 3637, 11351] = true := by decide +kernel
theorem fac_743104567 : ∀ q, q ∈ [2, 3, 3, 3637, 11351] → Prm q := by
  intro q hq
  simp only [List.mem_cons, List.not_mem_nil, or_false] at hq
  rcases hq with rfl | rfl | rfl | rfl | rfl
  · exact prm_2
  · exact prm_3
  · exact prm_3
  · exact prm_3637
  · exact prm_11351
theorem prm_743104567 : Prm 743104567 := (cert_gen cert_743104567 fac_743104567).1
theorem prm_383 : Prm 383 := small_prime (by decide) (by decide +kernel)
theorem prm_3911 : Prm 3911 := small_prime (by decide) (by decide +kernel)
theorem prm_8053 : Prm 8053 := small_prime (by decide) (by decide +kernel)
theorem cert_13d_244677 : certOk 1013266244677 2 [2, 2, 3, 7, 383, 3911, 8053] = true := by decide +kernel
theorem fac_13d_244677 : ∀ q, q ∈ [2, 2, 3, 7, 383, 3911, 8053] → Prm q := by
  intro q hq
  simp only [List.mem_cons, List.not_mem_nil, or_false] at hq
  rcases hq with rfl | rfl | rfl | rfl | rfl | rfl | rfl
  · exact prm_2
  · exact prm_2
  · exact prm_3
  · exact prm_7
  · exact prm_383
  · exact prm_3911
  · exact prm_8053
theorem prm_13d_244677 : Prm 1013266244677 := (cert_gen cert_13d_244677 fac_13d_244677).1
theorem cert_727169 : certOk 727169 3 [2, 2, 2, 2, 2, 2, 2, 13, 19, 23] = true := by decide +kernel
theorem fac_727169 : ∀ q, q ∈ [2, 2, 2, 2, 2, 2, 2, 13, 19, 23] → Prm q := by
  intro q hq
  simp only [List.mem_cons, List.not_mem_nil, or_false] at hq
  rcases hq with rfl | rfl | rfl | rfl | rfl | rfl | rfl | rfl | rfl | rfl
  · exact prm_2
  · exact prm_2
  · exact prm_2
  · exact prm_2
  · exact prm_2
  · exact prm_2
  · exact prm_2
  · exact prm_13
  · exact prm_19
  · exact prm_23
theorem prm_727169 : Prm 727169 := (cert_gen cert_727169 fac_727169).1
theorem prm_181 : Prm 181 := small_prime (by decide) (by decide +kernel)
theorem prm_2281 : Prm 2281 := small_prime (by decide) (by decide +kernel)
theorem prm_28859 : Prm 28859 := small_prime (by decide) (by decide +kernel)
theorem cert_13d_929967 : certOk 5171003929967 5 [2, 7, 31, 181, 2281, 28859] = true := by decide +kernel
theorem fac_13d_929967 : ∀ q, q ∈ [2, 7, 31, 181, 2281, 28859] → Prm q := by
  intro q hq
  simp only [List.mem_cons, List.not_mem_nil, or_false] at hq
  rcases hq with rfl | rfl | rfl | rfl | rfl | rfl
  · exact prm_2
  · exact prm_7
  · exact prm_31
  · exact prm_181
  · exact prm_2281
  · exact prm_28859
theorem prm_13d_929967 : Prm 5171003929967 := (cert_gen cert_13d_929967 fac_13d_929967).1
theorem cert_20d_40539 : certOk 22561162540501040539 3 [2, 3, 727169, 5171003929967] = true := by decide +kernel
theorem fac_20d_40539 : ∀ q, q ∈ [2, 3, 727169, 5171003929967] → Prm q := by
  intro q hq
  simp only [List.mem_cons, List.not_mem_nil, or_false] at hq
  rcases hq with rfl | rfl | rfl | rfl
  · exact prm_2
  · exact prm_3
  · exact prm_727169
  · exact prm_13d_929967
theorem prm_20d_40539 : Prm 22561162540501040539 := (cert_gen cert_20d_40539 fac_20d_40539).1
theorem cert_42d_928013 : certOk 203852586375664218368381551393371968928013 2 [2, 2, 3, 743104567, 1013266244677, 22561162540501040539] = true := by decide +kernel
theorem fac_42d_928013 : ∀ q, q ∈ [2, 2, 3, 743104567, 1013266244677, 22561162540501040539] → Prm q := by
  intro q hq
  simp only [List.mem_cons, List.not_mem_nil, or_false] at hq
  rcases hq with rfl | rfl | rfl | rfl | rfl | rfl
  · exact prm_2
  · exact prm_2
  · exact prm_3
  · exact prm_743104567
  · exact prm_13d_244677
  · exact prm_20d_40539
theorem prm_42d_928013 : Prm 203852586375664218368381551393371968928013 := (cert_gen cert_42d_928013 fac_42d_928013).1
theorem cert_48d_278101 : certOk 104719073621178708975837602950775180438320278101 2 [2, 2, 5, 5, 11, 467, 203852586375664218368381551393371968928013] = true := by decide +kernel
theorem fac_48d_278101 : ∀ q, q ∈ [2, 2, 5, 5, 11, 467, 203852586375664218368381551393371968928013] → Prm q := by
  intro q hq
  simp only [List.mem_cons, List.not_mem_nil, or_false] at hq
  rcases hq with rfl | rfl | rfl | rfl | rfl | rfl | rfl
  · exact prm_2
  · exact prm_2
  · exact prm_5
  · exact prm_5
  · exact prm_11
  · exact prm_467
  · exact prm_42d_928013
theorem prm_48d_278101 : Prm 104719073621178708975837602950775180438320278101 := (cert_gen cert_48d_278101 fac_48d_278101).1
theorem cert_53d_279781 : certOk 27413359092552162435694767700453926735143482401279781 2 [2, 2, 3, 5, 4363, 104719073621178708975837602950775180438320278101] = true := by decide +kernel
theorem fac_53d_279781 : ∀ q, q ∈ [2, 2, 3, 5, 4363, 104719073621178708975837602950775180438320278101] → Prm q := by
  intro q hq
  simp only [List.mem_cons, List.not_mem_nil, or_false] at hq
  rcases hq with rfl | rfl | rfl | rfl | rfl | rfl
  · exact prm_2
  · exact prm_2
  · exact prm_3
  · exact prm_5
  · exact prm_4363
  · exact prm_48d_278101
theorem prm_53d_279781 : Prm 27413359092552162435694767700453926735143482401279781 := (cert_gen cert_53d_279781 fac_53d_279781).1
theorem cert_77d_907997 : certOk 14474011154664524427946373126085988481603263447650325797860494125407373907997 2 [2, 2, 79, 117223, 6418733, 2220636239, 27413359092552162435694767700453926735143482401279781] = true := by decide +kernel
theorem fac_77d_907997 : ∀ q, q ∈ [2, 2, 79, 117223, 6418733, 2220636239, 27413359092552162435694767700453926735143482401279781] → Prm q := by
  intro q hq
  simp only [List.mem_cons, List.not_mem_nil, or_false] at hq
  rcases hq with rfl | rfl | rfl | rfl | rfl | rfl | rfl
  · exact prm_2
  · exact prm_2
  · exact prm_79
  · exact prm_117223
  · exact prm_6418733
  · exact prm_2220636239
  · exact prm_53d_279781
theorem prm_77d_907997 : Prm 14474011154664524427946373126085988481603263447650325797860494125407373907997 := (cert_gen cert_77d_907997 fac_77d_907997).1
theorem pL_prm : Prm 7237005577332262213973186563042994240857116359379907606001950938285454250989 := prm_76d_250989
def pT : Nat := 14474011154664524427946373126085988481603263447650325797860494125407373907997
theorem pT_prm : Prm pT := prm_77d_907997
end Pl
end Go.Proofs.Ytgeldhdijochdaa
/- Strings of bytes: equal only where the bytes are (plain law). Conditions: none. -/
namespace Go.Proofs.Ytgeldhdijochdaa.Am
set_option linter.unusedVariables false
set_option linter.unusedSimpArgs false
open Go
theorem loop_eq (b : ByteArray) : ∀ (n i : Nat) (r : List UInt8), b.size - i = n → ByteArray.toList.loop b i r = r.reverse ++ b.data.toList.drop i
  | 0, i, r, h => by
    rw [ByteArray.toList.loop, if_neg (by omega), List.drop_eq_nil_of_le (by have : b.data.toList.length = b.size := rfl; omega), List.append_nil]
  | n + 1, i, r, h => by
    have hi : i < b.size := by omega
    rw [ByteArray.toList.loop, if_pos hi, loop_eq b n (i + 1) _ (by omega), List.reverse_cons, List.append_assoc]
    congr 1
    have hl : i < b.data.toList.length := hi
    rw [List.drop_eq_getElem_cons hl]
    simp [ByteArray.get!, hi]
theorem toList_eq (b : ByteArray) : b.toList = b.data.toList := by
  unfold ByteArray.toList
  rw [loop_eq b _ 0 [] rfl]
  rfl
theorem strOf_inj {a b : List Int} (ha : isBs a) (hb : isBs b) (h : (strOf a).toList = (strOf b).toList) : a = b := by
  rw [toList_eq, toList_eq] at h
  have h2 : a.map (fun z => UInt8.ofNat z.toNat) = b.map fun z => UInt8.ofNat z.toNat := h
  have h3 : ∀ {l : List Int}, isBs l → (l.map fun z => UInt8.ofNat z.toNat).map (fun u => (u.toNat : Int)) = l := fun {l} hl => by
    rw [List.map_map]
    refine (List.map_congr_left fun z hz => ?_).trans (List.map_id l)
    have := hl z hz
    show ((UInt8.ofNat z.toNat).toNat : Int) = z
    have e : (UInt8.ofNat z.toNat).toNat = z.toNat % 256 := rfl
    rw [e]
    omega
  rw [← h3 ha, h2, h3 hb]
end Go.Proofs.Ytgeldhdijochdaa.Am
/- Law 11's DialNines and DialBoth. Conditions: none. -/
namespace Go.Proofs.Ytgeldhdijochdaa.Am
set_option linter.unusedVariables false
set_option linter.unusedSimpArgs false
open Go Go.RowKit
open Pl (pP T256)
set_option linter.unusedSectionVars false
open Pl (F Kf Cv Pt LR Tie inv toF pL)
section
variable [GT]
noncomputable def eNine : Ent := inl tyT [] noH [] 2000 Try.f34 []
theorem eNine_ok : EntOK Try.prog 34 eNine := inl_ok tyT_ok (ook_of (l := []) trivial) mixed_ Try.func34 (by kernel_rfl) (by kernel_rfl) []
noncomputable def dnO : List (Nat × Ent) := [(31, vEnt vaw11), (32, entB [.sl .u8] duF), (33, entB [.sl .u8, .sl .u8] dsF), (34, eNine)]
theorem dnO_ok : OOK Try.prog dnO := ook_of (l := [(31, vEnt vaw11), (32, entB [.sl .u8] duF), (33, entB [.sl .u8, .sl .u8] dsF), (34, eNine)]) ⟨aw11_ent, dpublic_ent, shared_ent, eNine_ok, trivial⟩
noncomputable abbrev fDN : Func := Try.f8
theorem dn_run (bf : Nat → Int) : wholeV tyT dnO (atH 5 11 (isB true) noH) [] 4000 fDN [.av (.one (.arr .u8 (keyL 32 bf)))] = some (ofV (.bool true), [0 + 32 ≤ (keyL 32 bf).length ∧ 32 ≤ 32, is32 (cutI (keyL 32 bf) 0 32), 0 + 32 ≤ (keyL 32 bf).length ∧ 32 ≤ 32, 0 + 32 ≤ ((List.replicate 32 (0 : Int)).set 0 9).length ∧ 32 ≤ 32, is32 (cutI (keyL 32 bf) 0 32) ∧ is32 (cutI ((List.replicate 32 (0 : Int)).set 0 9) 0 32) ∧ nZero (nShr (cutI (keyL 32 bf) 0 32) (cutI ((List.replicate 32 (0 : Int)).set 0 9) 0 32)) = false, tB ((strOf ((byI (nLad (nClamp (leI (cutI (keyL 32 bf) 0 32))) 9)) ++ [])).toList == (strOf ((byI (nShr (cutI (keyL 32 bf) 0 32) (cutI ((List.replicate 32 (0 : Int)).set 0 9) 0 32))) ++ [])).toList) true]) := by kernel_rfl
noncomputable def dbO : List (Nat × Ent) := [(31, vEnt vaw11), (32, entB [.sl .u8] duF), (33, entB [.sl .u8, .sl .u8] dsF)]
theorem dbO_ok : OOK Try.prog dbO := ook_of (l := [(31, vEnt vaw11), (32, entB [.sl .u8] duF), (33, entB [.sl .u8, .sl .u8] dsF)]) ⟨aw11_ent, dpublic_ent, shared_ent, trivial⟩
noncomputable abbrev fDB : Func := Try.f7
theorem db_run (bf cf : Nat → Int) : wholeV tyT dbO (atH 7 19 (isB true) noH) [] 4000 fDB [.av (.one (.arr .u8 (keyL 32 bf))), .av (.one (.arr .u8 (keyL 32 cf)))] = some (ofV (.bool true), [0 + 32 ≤ (keyL 32 bf).length ∧ 32 ≤ 32, is32 (cutI (keyL 32 bf) 0 32), 0 + 32 ≤ (keyL 32 cf).length ∧ 32 ≤ 32, is32 (cutI (keyL 32 cf) 0 32), 0 + 32 ≤ (keyL 32 bf).length ∧ 32 ≤ 32, 0 + 32 ≤ (byI (nLad (nClamp (leI (cutI (keyL 32 cf) 0 32))) 9)).length, is32 (cutI (keyL 32 bf) 0 32) ∧ is32 (cutI (byI (nLad (nClamp (leI (cutI (keyL 32 cf) 0 32))) 9)) 0 32) ∧ nZero (nShr (cutI (keyL 32 bf) 0 32) (cutI (byI (nLad (nClamp (leI (cutI (keyL 32 cf) 0 32))) 9)) 0 32)) = false, 0 + 32 ≤ (keyL 32 cf).length ∧ 32 ≤ 32, 0 + 32 ≤ (byI (nLad (nClamp (leI (cutI (keyL 32 bf) 0 32))) 9)).length, is32 (cutI (keyL 32 cf) 0 32) ∧ is32 (cutI (byI (nLad (nClamp (leI (cutI (keyL 32 bf) 0 32))) 9)) 0 32) ∧ nZero (nShr (cutI (keyL 32 cf) 0 32) (cutI (byI (nLad (nClamp (leI (cutI (keyL 32 bf) 0 32))) 9)) 0 32)) = false, tB ((strOf ((byI (nShr (cutI (keyL 32 bf) 0 32) (cutI (byI (nLad (nClamp (leI (cutI (keyL 32 cf) 0 32))) 9)) 0 32))) ++ [])).toList == (strOf ((byI (nShr (cutI (keyL 32 cf) 0 32) (cutI (byI (nLad (nClamp (leI (cutI (keyL 32 bf) 0 32))) 9)) 0 32))) ++ [])).toList) true]) := by kernel_rfl
/-! ### The base's order, and places -/
theorem tors_aux {R : Type} [Lean.Grind.CommRing R] (a d x y : R) (h : a*x*x + y*y = 1 + d*x*x*y*y) (hy : y = 1 ∨ y = -1) : (a - d) * (x * x) = 0 := by
  rcases hy with rfl | rfl <;> grind
theorem tt_zero {R : Type} [Lean.Grind.CommRing R] (d y : R) : d * 0 * 0 * y * y = 0 := by grind
theorem sum_x {R : Type} [Lean.Grind.CommRing R] (X y : R) (h : X * (1 + 0) = 0 * y + 0 * y) : X = 0 := by grind
theorem sum_y {R : Type} [Lean.Grind.CommRing R] (Y a y : R) (h : Y * (1 - 0) = y * y - a * 0 * 0) (hy : y = 1 ∨ y = -1) : Y = 1 := by
  rcases hy with rfl | rfl <;> grind
theorem neg_of' {R : Type} [Lean.Grind.CommRing R] (y : R) (h : 1 + y = 0) : y = -1 := by grind
theorem neg_of (y : F) (h : 1 + y = 0) : y = -1 := neg_of' y h
theorem two_tors {C : Cv F} {Q : Pt C} (h : Q.y = 1 ∨ Q.y = -1) : Q + Q = Pt.O := by
  have hon := Q.on
  have hx : Q.x = 0 := by
    have e : (C.a - C.d) * (Q.x * Q.x) = 0 := tors_aux _ _ _ _ hon h
    exact (Pl.F_mul_eq_zero ((Pl.F_mul_eq_zero e).resolve_left (Pl.a_ne_d C))).elim id id
  have h1 := Pl.add_x Q Q
  have h2 := Pl.add_y Q Q
  have ht : Pl.tt Q Q = 0 := by unfold Pl.tt; rw [hx]; exact tt_zero _ _
  rw [ht] at h1 h2
  rw [hx] at h1 h2
  exact Pt.ext (sum_x _ _ h1) (sum_y _ _ _ h2 h)
theorem inv_ne {w : F} (h : w ≠ 0) : inv w ≠ 0 := fun e => by
  have := Pl.F_mul_inv h
  rw [e, a_zero] at this
  exact Pl.F_one_ne this.symm
theorem uOf_ne {C : Cv F} {s : F} {Q : Pt C} (hs : s ≠ 0) (h : Q + Q ≠ Pt.O) : 1 - Q.y ≠ 0 ∧ uOf s Q ≠ 0 := by
  have h1 : 1 - Q.y ≠ 0 := fun e => h (two_tors (.inl (Pl.F_sub_zero e).symm))
  have h2 : 1 + Q.y ≠ 0 := fun e => h (two_tors (.inr (neg_of _ e)))
  exact ⟨h1, Pl.F_ne_mul h2 (inv_ne (Pl.F_ne_mul hs h1))⟩
theorem pL_coprime {n : Nat} (h : ¬ pL ∣ n) : Nat.Coprime pL n := Pl.Prm.coprime Pl.pL_prm h
theorem gcd_zero {C : Cv F} (P : Pt C) (a b : Nat) : Pt.mul a P = Pt.O → Pt.mul b P = Pt.O → Pt.mul (Nat.gcd a b) P = Pt.O := by
  induction a, b using Nat.gcd.induction with
  | H0 n => exact fun _ h => by rw [Nat.gcd_zero_left]; exact h
  | H1 m n hm ih =>
    intro h1 h2
    rw [Nat.gcd_rec]
    exact ih (by rw [← Pt.mul_mod h1]; exact h2) h1
/-- So many times the base is the naught just for the order's multiples. -/
theorem base_zero {n : Nat} (h : Pt.mul n eB = Pt.O) : pL ∣ n := by
  refine Classical.byContradiction fun hn => ?_
  have hc := pL_coprime hn
  have h1 := gcd_zero eB pL n base_order h
  rw [show Nat.gcd pL n = 1 from hc, Pt.mul_one] at h1
  have hx : eB.x.val = (Pt.O : EP).x.val := by rw [h1]
  exact absurd hx (by decide +kernel)
theorem clamp_facts (N : Nat) : nClamp N % 8 = 0 ∧ nClamp N < 57896044618658097711785492504343953926634992332820282019728792003956564819968 ∧ 28948022309329048855892746252171976963317496166410141009864396001978282409984 ≤ nClamp N := by
  unfold nClamp
  omega
theorem mult_none : ∀ t, t < 8 → pL * t % 8 = 0 → 28948022309329048855892746252171976963317496166410141009864396001978282409984 ≤ pL * t → False := by decide +kernel
theorem clamp_ndvd (N : Nat) : ¬ pL ∣ nClamp N := by
  obtain ⟨h1, h2, h3⟩ := clamp_facts N
  generalize nClamp N = n at *
  intro h
  obtain ⟨t, ht⟩ := h
  have h8 : t < 8 := Nat.lt_of_not_le fun h => by
    have h4 : pL * 8 ≤ pL * t := Nat.mul_le_mul_left _ h
    rw [← ht] at h4
    exact absurd (Nat.lt_of_le_of_lt h4 h2) (by decide +kernel)
  rw [ht] at h1 h3
  exact mult_none t h8 h1 h3
theorem dvd_two {n : Nat} (h : pL ∣ n + n) : pL ∣ n := by
  rw [← Nat.two_mul] at h
  rcases Pl.Prm.dvd_mul Pl.pL_prm h with h | h
  · exact absurd (Nat.le_of_dvd (by decide) h) (by decide +kernel)
  · exact h
theorem base_two {n : Nat} (h : ¬ pL ∣ n) : Pt.mul n eB + Pt.mul n eB ≠ Pt.O := fun e => by
  rw [← Pt.add_mul] at e
  exact h (dvd_two (base_zero e))
theorem eC_tie : Tie eC 1 kF := .inl ⟨rfl, by decide +kernel⟩
theorem nine_place : uOf 1 eB = toF 9 := by
  have h := uOf_eq (s := 1) (P := eB) Pl.F_one_ne (by decide +kernel)
  refine Pl.F_cancel (show (1 : F) * (1 - eB.y) ≠ 0 from by decide +kernel) (h.trans ?_)
  decide +kernel
theorem nine_val : (toF 9).val = 9 := by decide +kernel
theorem eB_good : 1 - eB.y ≠ 0 ∧ uOf 1 eB ≠ 0 := ⟨by decide +kernel, by rw [nine_place]; decide +kernel⟩
/-- What a secret's public bytes are. -/
theorem lad_nine (n : Nat) (h : n < 57896044618658097711785492504343953926634992332820282019728792003956564819968) : nLad n 9 = (uOf 1 (Pt.mul n eB)).val := by
  have := lad_main eC_tie eB eB_good.1 eB_good.2 n
  rw [nine_place, nine_val, Nat.mod_eq_of_lt (by rw [show (2 : Nat) ^ 255 = 57896044618658097711785492504343953926634992332820282019728792003956564819968 from by decide +kernel]; exact h)] at this
  exact this
theorem cut_fullD {l : List Int} {n : Nat} (h : l.length = n) : cutI l 0 n = l := by rw [← h, cutI_all]
theorem place_val (f : F) : nSum [f.val % T255] = f.val := by
  rw [Nat.mod_eq_of_lt (Nat.lt_trans f.isLt pP_255), nSum_val1]
theorem leI_val (f : F) : leI (byI f.val) = f.val := by rw [leI_byI, val_mod]
theorem cut_byI (N : Nat) : cutI (byI N) 0 32 = byI N := cut_fullD (byI_32 N).1
theorem len_byI (N : Nat) : 0 + 32 ≤ (byI N).length := by rw [(byI_32 N).1]; decide
theorem wf_bs {bs : List Int} (hw : ∀ z ∈ bs, (Lit.int .u8 z).wf = true) : isBs bs := fun z hz => by
  have := bounds_u8 (hw z hz)
  constructor <;> omega
theorem lawDialNines_fact (bs : List Int) (hl : bs.length = 32) (hw : ∀ z ∈ bs, (Lit.int .u8 z).wf = true) (w : World) (hgw : GWok w.heap.size [] w) : Calls Try.prog 8 #[.agg (bs.map (Value.int .u8)).toArray] w fun e w' => e = .returned (.bool true) ∧ Below w.heap.size w w' := by
  have h32 : is32 bs := ⟨hl, wf_bs hw⟩
  have hrun := dn_run (g2 bs)
  rw [keyL_g2 hl, cut_fullD hl] at hrun
  have hn9 : is32 (cutI ((List.replicate 32 (0 : Int)).set 0 9) 0 32) := ⟨by decide, by unfold isBs; decide⟩
  have he9 : nSum [leI (cutI ((List.replicate 32 (0 : Int)).set 0 9) 0 32) % T255] = 9 := by decide +kernel
  have hs : nShr bs (cutI ((List.replicate 32 (0 : Int)).set 0 9) 0 32) = nLad (nClamp (leI bs)) 9 := by unfold nShr; rw [he9]
  rw [hs] at hrun
  have hc := clamp_facts (leI bs)
  have hz := uOf_ne (s := 1) Pl.F_one_ne (base_two (clamp_ndvd (leI bs)))
  have hz2 : nZero (nLad (nClamp (leI bs)) 9) = false := by
    rw [lad_nine _ hc.2.1, nZero_val]
    exact decide_eq_false hz.2
  have a0 : 0 + 32 ≤ bs.length ∧ 32 ≤ 32 := by omega
  exact am_val tyT_ok dnO_ok mixed_ Try.func8 (by kernel_rfl) hrun ⟨a0, h32, a0, ⟨by decide, by decide⟩, ⟨h32, hn9, hz2⟩, tB_iff.2 (beq_self_eq_true _), trivial⟩ (by kernel_rfl) (by kernel_rfl) (fun _ => ⟨none, 0⟩) w hgw
theorem lawDialBoth_fact (bs : List Int) (hl : bs.length = 32) (hw : ∀ z ∈ bs, (Lit.int .u8 z).wf = true) (cs : List Int) (hl2 : cs.length = 32) (hw2 : ∀ z ∈ cs, (Lit.int .u8 z).wf = true) (w : World) (hgw : GWok w.heap.size [] w) : Calls Try.prog 7 #[.agg (bs.map (Value.int .u8)).toArray, .agg (cs.map (Value.int .u8)).toArray] w fun e w' => e = .returned (.bool true) ∧ Below w.heap.size w w' := by
  have h1 : is32 bs := ⟨hl, wf_bs hw⟩
  have h2 : is32 cs := ⟨hl2, wf_bs hw2⟩
  have hrun := db_run (g2 bs) (g2 cs)
  rw [keyL_g2 hl, keyL_g2 hl2, cut_fullD hl, cut_fullD hl2] at hrun
  have ca := clamp_facts (leI bs)
  have cb := clamp_facts (leI cs)
  have na := clamp_ndvd (leI bs)
  have nb := clamp_ndvd (leI cs)
  rw [cut_byI, cut_byI, lad_nine _ ca.2.1, lad_nine _ cb.2.1] at hrun
  have e255 : (2 : Nat) ^ 255 = 57896044618658097711785492504343953926634992332820282019728792003956564819968 := by decide +kernel
  have ga := uOf_ne (s := 1) Pl.F_one_ne (base_two na)
  have gb := uOf_ne (s := 1) Pl.F_one_ne (base_two nb)
  have sa := lad_main eC_tie (Pt.mul (nClamp (leI cs)) eB) gb.1 gb.2 (nClamp (leI bs))
  have sb := lad_main eC_tie (Pt.mul (nClamp (leI bs)) eB) ga.1 ga.2 (nClamp (leI cs))
  rw [Nat.mod_eq_of_lt (by rw [e255]; exact ca.2.1)] at sa
  rw [Nat.mod_eq_of_lt (by rw [e255]; exact cb.2.1), Pt.mul_comm] at sb
  have ra : nShr bs (byI (uOf 1 (Pt.mul (nClamp (leI cs)) eB)).val) = (uOf 1 (Pt.mul (nClamp (leI bs)) (Pt.mul (nClamp (leI cs)) eB))).val := by
    unfold nShr
    rw [leI_val, place_val, sa]
  have rb : nShr cs (byI (uOf 1 (Pt.mul (nClamp (leI bs)) eB)).val) = (uOf 1 (Pt.mul (nClamp (leI bs)) (Pt.mul (nClamp (leI cs)) eB))).val := by
    unfold nShr
    rw [leI_val, place_val, sb]
  have hnz : nZero (uOf 1 (Pt.mul (nClamp (leI bs)) (Pt.mul (nClamp (leI cs)) eB))).val = false := by
    rw [nZero_val]
    refine decide_eq_false ?_
    rw [← Pt.mul_mul]
    exact (uOf_ne (s := 1) Pl.F_one_ne (base_two fun h => (Pl.Prm.dvd_mul Pl.pL_prm h).elim na nb)).2
  rw [ra, rb] at hrun
  have a0 : 0 + 32 ≤ bs.length ∧ 32 ≤ 32 := by omega
  have b0 : 0 + 32 ≤ cs.length ∧ 32 ≤ 32 := by omega
  exact am_val tyT_ok dbO_ok mixed_ Try.func7 (by kernel_rfl) hrun ⟨a0, h1, b0, h2, a0, len_byI _, ⟨h1, byI_32 _, hnz⟩, b0, len_byI _, ⟨h2, byI_32 _, hnz⟩, tB_iff.2 (beq_self_eq_true _), trivial⟩ (by kernel_rfl) (by kernel_rfl) (fun _ => ⟨none, 0⟩) w hgw
end
end Go.Proofs.Ytgeldhdijochdaa.Am
/- Plain law: the numbers of points of the curve and of its twist. Conditions: none. -/
namespace Go.Proofs.Ytgeldhdijochdaa.Am
set_option linter.unusedVariables false
set_option linter.unusedSimpArgs false
open Go
open Pl (F Kf Cv Pt pP inv toF pL pT)
set_option linter.unusedSectionVars false
variable [GT]
/-! ### A finite group's elements, so many times as there are -/
section
variable {C : Cv F}
def sumL : List (Pt C) → Pt C
  | [] => Pt.O
  | x :: l => x + sumL l
theorem sumL_perm {a b : List (Pt C)} (h : a.Perm b) : sumL a = sumL b := by
  induction h with
  | nil => rfl
  | cons x _ ih => rw [sumL, sumL, ih]
  | swap x y l => rw [sumL, sumL, sumL, sumL, ← Pt.add_assoc, ← Pt.add_assoc, Pt.add_comm y x]
  | trans _ _ h1 h2 => exact h1.trans h2
theorem sumL_shift (P : Pt C) : ∀ l : List (Pt C), sumL (l.map fun Q => Q + P) = sumL l + Pt.mul l.length P
  | [] => (Pt.add_O _).symm
  | x :: l => by
    rw [List.map_cons, sumL, sumL_shift P l, sumL, List.length_cons, Pt.mul, Pt.add_assoc, Pt.add_assoc, ← Pt.add_assoc P, Pt.add_comm P (sumL l), Pt.add_assoc, Pt.add_comm P]
theorem group_exp {l : List (Pt C)} (hn : l.Nodup) (hall : ∀ Q, Q ∈ l) (P : Pt C) : Pt.mul l.length P = Pt.O := by
  have hm : (l.map fun Q => Q + P).Nodup := by
    rw [List.Nodup, List.pairwise_map]
    exact hn.imp fun h e => h (Pt.add_right_cancel e)
  have hp : (l.map fun Q => Q + P).Perm l := (List.perm_ext_iff_of_nodup hm hn).2 fun Q => ⟨fun _ => hall Q, fun _ => List.mem_map.2 ⟨Q + P.neg, hall _, by rw [Pt.add_assoc, Pt.neg_add, Pt.add_O]⟩⟩
  have h := sumL_perm hp
  rw [sumL_shift] at h
  have h2 : Pt.mul l.length P + sumL l = Pt.O + sumL l := by rw [Pt.O_add, Pt.add_comm]; exact h
  exact Pt.add_right_cancel h2
end
/-! ### Roots -/
theorem m_neg {R : Type} [Lean.Grind.CommRing R] (a : R) : -a * -a = a * a := by grind
theorem sq_two {R : Type} [Lean.Grind.CommRing R] (a b : R) (h : a * a = b * b) : (a - b) * (a + b) = 0 := by grind
theorem two_of {R : Type} [Lean.Grind.CommRing R] (a : R) (h : a = -a) : 2 * a = 0 := by
  have : a + a = 0 := by
    have e : a + a = a + - -a := by grind
    rw [e, ← h]; grind
  have e : 2 * a = a + a := by grind
  rw [e]; exact this
theorem neg_add' {R : Type} [Lean.Grind.CommRing R] (a b : R) (h : a + b = 0) : a = -b := by grind
theorem sq_eq {a b : F} (h : a * a = b * b) : a = b ∨ a = -b := by
  rcases Pl.F_mul_eq_zero (sq_two _ _ h) with h | h
  · exact .inl (Pl.F_sub_zero h)
  · exact .inr (neg_add' _ _ h)
/-- All roots of t. -/
noncomputable def roots (t : F) : List F := open Classical in if t = 0 then [0] else if h : ∃ r : F, r * r = t then [h.choose, -h.choose] else []
theorem z_sq0 {R : Type} [Lean.Grind.CommRing R] : (0 : R) * 0 = 0 := by grind
theorem roots_mem (t x : F) : x ∈ roots t ↔ x * x = t := by
  unfold roots
  split
  · rename_i h
    rw [h, List.mem_singleton]
    exact ⟨fun e => by rw [e]; exact z_sq0, fun e => (Pl.F_mul_eq_zero e).elim id id⟩
  · split
    · rename_i h
      have hs := h.choose_spec
      simp only [List.mem_cons, List.not_mem_nil, or_false]
      constructor
      · rintro (e | e)
        · rw [e]; exact hs
        · rw [e, m_neg]; exact hs
      · intro e
        exact sq_eq (e.trans hs.symm)
    · rename_i h
      simp only [List.not_mem_nil, false_iff]
      exact fun e => h ⟨x, e⟩
theorem roots_nodup (t : F) : (roots t).Nodup := by
  unfold roots
  split
  · exact List.nodup_cons.2 ⟨by simp, List.nodup_nil⟩
  · rename_i h0
    split
    · rename_i h
      refine List.nodup_cons.2 ⟨?_, List.nodup_cons.2 ⟨by simp, List.nodup_nil⟩⟩
      simp only [List.mem_cons, List.not_mem_nil, or_false]
      intro e
      have h2 := (Pl.F_mul_eq_zero (two_of _ e)).resolve_left Pl.F_two_ne
      have hs := h.choose_spec
      rw [h2, z_sq0] at hs
      exact h0 hs.symm
    · exact List.nodup_nil
theorem roots_le (t : F) : (roots t).length ≤ 2 := by
  unfold roots
  split
  · decide
  · split
    · exact Nat.le_refl _
    · decide
/-- 2 is no square. -/
theorem two_pow_h2 : (2 : Nat) ^ Pl.h2 % pP = pP - 1 := Pl.half_two
theorem h2_split (j : Nat) : (2 * j + 1) * Pl.h2 = (pP - 1) * j + Pl.h2 := by
  rw [← Pl.h2_eq]
  generalize Pl.h2 = q
  rw [Nat.add_mul, Nat.one_mul, Nat.mul_comm q 2, Nat.mul_right_comm]
theorem pow_split (g a b n : Nat) : g ^ (a + b) % n = (g ^ a % n) * (g ^ b % n) % n := by rw [Nat.pow_add, Nat.mul_mod]
theorem odd_pow (j : Nat) : ¬ (2 ^ (2 * j + 1)) ^ Pl.h2 % pP = 1 := by
  have hone := Pl.pow_mul_one (n := pP) (g := 2) (a := pP - 1) (by decide +kernel) Pl.two_pow j
  rw [← Nat.pow_mul, h2_split j, pow_split, hone, Pl.half_two]
  decide +kernel
/-- Of t and t/2 just one is a square, where t isn't 0. -/
theorem sq_dich (t : F) (h : t ≠ 0) : ((∃ r : F, r * r = t) ∧ ¬ ∃ r : F, r * r = t * inv 2) ∨ ((¬ ∃ r : F, r * r = t) ∧ ∃ r : F, r * r = t * inv 2) := by
  have h2 := Pl.F_mul_inv Pl.F_two_ne
  have ht : t.val % pP ≠ 0 := by
    rw [val_modp]
    exact fun e => h (Fin.ext e)
  obtain ⟨k, hk⟩ := Pl.gen_of ht
  have tk : t = toF (2 ^ k) := by
    rw [← Pl.toF_self t]
    exact Pl.toF_eq.2 hk.symm
  -- an odd power of 2 is no square
  have odd : ∀ j r, ¬ (r * r : F) = toF (2 ^ (2 * j + 1)) := fun j r e => by
    have e2 : r.val * r.val % pP = 2 ^ (2 * j + 1) % pP := by
      have := congrArg Fin.val e
      rw [Fin.val_mul, Pl.toF_val] at this
      exact this
    have hA : 2 ^ (2 * j + 1) % pP < pP := Nat.mod_lt _ (by decide +kernel)
    rcases (Pl.euler hA).2 ⟨r.val, e2⟩ with h0 | h1
    · exact Pl.pow_ne_mod (a := 2) (by decide +kernel) (2 * j + 1) h0
    · have e3 : (2 ^ (2 * j + 1) % pP) ^ Pl.h2 % pP = (2 ^ (2 * j + 1)) ^ Pl.h2 % pP := Pl.pow_mod_congr _ _ _ _ (Nat.mod_mod _ _)
      rw [e3] at h1
      exact odd_pow j h1
  have even : ∀ j, ∃ r : F, r * r = toF (2 ^ (2 * j)) := fun j => ⟨toF (2 ^ j), by rw [← Pl.toF_mul, ← Nat.pow_add, Nat.two_mul]⟩
  have half : ∀ j, toF (2 ^ (j + 1)) * inv 2 = toF (2 ^ j) := fun j => by
    rw [Nat.pow_succ, Pl.toF_mul]
    have e2 : toF 2 = (2 : F) := by decide +kernel
    rw [e2]
    exact near_aux' _ _ _ h2
  rcases Nat.mod_two_eq_zero_or_one k with hp | hp
  · -- even: t is a square; t/2 is none: t/2 = 2^(k-1), or t = 1 and 1/2 = 2^(p-2)
    obtain ⟨j, rfl⟩ : ∃ j, k = 2 * j := ⟨k / 2, by omega⟩
    left
    rw [tk]
    refine ⟨even j, ?_⟩
    rintro ⟨r, hr⟩
    have e : toF (2 ^ (2 * j)) = toF (2 ^ (2 * (j + Pl.h2))) := by
      rw [Nat.mul_add, Nat.pow_add, Pl.toF_mul, Nat.mul_comm 2 Pl.h2, Pl.h2_eq]
      have : toF (2 ^ (pP - 1)) = 1 := by
        rw [← Pl.toF_one]
        exact Pl.toF_eq.2 (by rw [Pl.two_pow]; decide +kernel)
      rw [this]
      exact (ring_one _).symm
    have hh : 2 * (j + Pl.h2) = (2 * (j + Pl.h2 - 1) + 1) + 1 := by
      have : 0 < Pl.h2 := by decide +kernel
      omega
    rw [e, hh, half] at hr
    exact odd _ r hr
  · obtain ⟨j, rfl⟩ : ∃ j, k = 2 * j + 1 := ⟨k / 2, by omega⟩
    right
    rw [tk]
    refine ⟨fun ⟨r, hr⟩ => odd j r hr, ?_⟩
    rw [half]
    exact even j
theorem roots_pair (t : F) : (roots t).length + (roots (t * inv 2)).length = 2 := by
  have h2 : inv (2 : F) ≠ 0 := inv_ne Pl.F_two_ne
  by_cases h : t = 0
  · have e : t * inv 2 = 0 := by rw [h]; exact zero_mul' _
    unfold roots
    rw [if_pos e, if_pos h]
    rfl
  · have hne : t * inv 2 ≠ 0 := Pl.F_ne_mul h h2
    unfold roots
    rw [if_neg h, if_neg hne]
    rcases sq_dich t h with ⟨a, b⟩ | ⟨a, b⟩
    · rw [dif_pos a, dif_neg b]; rfl
    · rw [dif_neg a, dif_pos b]; rfl
end Go.Proofs.Ytgeldhdijochdaa.Am
/- Plain law: the curve has 8 L points, its twist 4 L'. Conditions: none. -/
namespace Go.Proofs.Ytgeldhdijochdaa.Am
set_option linter.unusedVariables false
set_option linter.unusedSimpArgs false
open Go
open Pl (F Kf Cv Pt pP inv toF pL pT Tie)
set_option linter.unusedSectionVars false
def cTN : Nat := 55487632915927625549282413919184614932259505768049324239291840100650878933168
theorem m2_pow : (pP - 2) ^ Pl.h2 % pP = pP - 1 := by
  have h := Pl.powm_eq pP 256 (pP - 2) Pl.h2 (by decide +kernel)
  rw [← h]
  decide +kernel
theorem m2_ns (z : F) : z * z ≠ toF (pP - 2) := by
  intro e
  have hlt : pP - 2 < pP := by decide +kernel
  have h : z.val * z.val % pP = pP - 2 := by
    have := congrArg Fin.val e
    rw [Fin.val_mul, Pl.toF_val, Nat.mod_eq_of_lt hlt] at this
    exact this
  rcases (Pl.euler hlt).2 ⟨z.val, h⟩ with h | h
  · exact absurd h (by decide +kernel)
  · rw [m2_pow] at h
    exact absurd h (by decide +kernel)
/-- The twist. -/
def eT : Cv F := ⟨toF (2 * dN), toF cTN, toF (pP - 2), by rw [← Pl.toF_mul]; exact Pl.toF_eq.2 (by decide +kernel), fun e => absurd (congrArg Fin.val e) (by decide +kernel), m2_ns⟩
theorem eT_a : eT.a = 2 * toF dN := by decide +kernel
theorem eT_d : eT.d = -2 := by decide +kernel
theorem eT_tie : Tie eT (-1) kF := .inr ⟨rfl, by decide +kernel⟩
theorem eT_a0 : eT.a ≠ 0 := fun e => absurd (congrArg Fin.val e) (by decide +kernel)
variable [GT]
/-! ### All y but 0 -/
def Yl : List F := (List.range (pP - 1)).map fun i => toF (i + 1)
theorem Yl_len : Yl.length = pP - 1 := by unfold Yl; rw [List.length_map, List.length_range]
theorem Yl_nodup : Yl.Nodup := by
  unfold Yl
  rw [List.Nodup, List.pairwise_map]
  refine List.Pairwise.imp_of_mem ?_ (List.nodup_range (n := pP - 1))
  intro i j hi hj hne e
  have h1 := List.mem_range.1 hi
  have h2 := List.mem_range.1 hj
  have h3 := Pl.toF_eq.1 e
  rw [Nat.mod_eq_of_lt (by omega), Nat.mod_eq_of_lt (by omega)] at h3
  exact hne (by omega)
theorem Yl_mem (y : F) : y ∈ Yl ↔ y ≠ 0 := by
  unfold Yl
  rw [List.mem_map]
  constructor
  · rintro ⟨i, hi, rfl⟩ e
    have h1 := List.mem_range.1 hi
    have h3 := Pl.toF_eq_zero.1 e
    rw [Nat.mod_eq_of_lt (by omega)] at h3
    omega
  · intro h
    have h0 : y.val ≠ 0 := fun e => h (Fin.ext e)
    have h1 := y.isLt
    refine ⟨y.val - 1, List.mem_range.2 (by omega), ?_⟩
    rw [show y.val - 1 + 1 = y.val by omega, Pl.toF_self]
/-! ### The points -/
def gE (y : F) : F := (y * y - 1) * inv (toF dN * (y * y) + 1)
theorem onE (x y : F) : eC.a * x * x + y * y = 1 + eC.d * x * x * y * y ↔ x * x = gE y :=
  ⟨fun h => (oa_eq _ _ _ _ (Pl.F_mul_inv (den_ne y)) h).symm, fun h => on_of _ _ _ _ (Pl.F_mul_inv (den_ne y)) h⟩
theorem tw_to {R : Type} [Lean.Grind.CommRing R] (d x y z i g : R) (hyz : y * z = 1) (hi : (d * (y * y) + 1) * i = 1) (hg : 2 * g = 1) (h : 2 * d * x * x + z * z = 1 + (-2) * x * x * z * z) : x * x = (y * y - 1) * i * g := by
  have e1 : (2 * d * x * x + z * z) * (y * y) = 2 * d * x * x * (y * y) + (y * z) * (y * z) := by grind
  have e2 : (1 + (-2) * x * x * z * z) * (y * y) = y * y - 2 * (x * x) * ((y * z) * (y * z)) := by grind
  rw [h, e2, hyz] at e1
  have e3 : 2 * (x * x) * (d * (y * y) + 1) = y * y - 1 := by grind
  have e4 : x * x = (2 * g) * ((d * (y * y) + 1) * i) * (x * x) := by rw [hi, hg]; grind
  rw [e4]
  have e5 : (2 * g) * ((d * (y * y) + 1) * i) * (x * x) = (2 * (x * x) * (d * (y * y) + 1)) * i * g := by grind
  rw [e5, e3]
theorem tw_from {R : Type} [Lean.Grind.CommRing R] (d x y z i g : R) (hyz : y * z = 1) (hi : (d * (y * y) + 1) * i = 1) (hg : 2 * g = 1) (h : x * x = (y * y - 1) * i * g) : 2 * d * x * x + z * z = 1 + (-2) * x * x * z * z := by
  have e3 : 2 * (x * x) * (d * (y * y) + 1) = y * y - 1 := by
    rw [h]
    have : 2 * ((y * y - 1) * i * g) * (d * (y * y) + 1) = (2 * g) * ((d * (y * y) + 1) * i) * (y * y - 1) := by grind
    rw [this, hi, hg]; grind
  have e4 : (2 * (x * x) * (d * (y * y) + 1)) * (z * z) = (y * y - 1) * (z * z) := by rw [e3]
  have e5 : (2 * (x * x) * (d * (y * y) + 1)) * (z * z) = 2 * d * (x * x) * ((y * z) * (y * z)) + 2 * (x * x) * (z * z) := by grind
  have e6 : (y * y - 1) * (z * z) = (y * z) * (y * z) - z * z := by grind
  rw [e5, e6, hyz] at e4
  grind
theorem onT (x y : F) (hy : y ≠ 0) : eT.a * x * x + inv y * inv y = 1 + eT.d * x * x * inv y * inv y ↔ x * x = gE y * inv 2 := by
  have h1 := Pl.F_mul_inv hy
  have h2 := Pl.F_mul_inv (den_ne y)
  have h3 := Pl.F_mul_inv Pl.F_two_ne
  rw [eT_a, eT_d]
  exact ⟨tw_to _ _ _ _ _ _ h1 h2 h3, tw_from _ _ _ _ _ _ h1 h2 h3⟩
theorem on0_to {R : Type} [Lean.Grind.CommRing R] (a d x i : R) (hi : a * i = 1) (h : a * x * x + 0 * 0 = 1 + d * x * x * 0 * 0) : x * x = i := by
  have e : a * (x * x) = 1 := by grind
  have e2 : x * x = (a * i) * (x * x) := by rw [hi]; grind
  rw [e2]
  have e3 : (a * i) * (x * x) = (a * (x * x)) * i := by grind
  rw [e3, e]; grind
theorem on0_from {R : Type} [Lean.Grind.CommRing R] (a d x i : R) (hi : a * i = 1) (h : x * x = i) : a * x * x + 0 * 0 = 1 + d * x * x * 0 * 0 := by
  have e : a * (x * x) = 1 := by rw [h]; exact hi
  grind
theorem inv2_aux {R : Type} [Lean.Grind.CommRing R] (y i j : R) (h : y * i = 1) (k : i * j = 1) : j = y := by
  have e : j = (y * i) * j := by rw [h]; grind
  rw [e]
  have e2 : y * i * j = y * (i * j) := by grind
  rw [e2, k]; grind
theorem invsq_aux {R : Type} [Lean.Grind.CommRing R] (a c i j : R) (hc : c * c = a) (hi : c * i = 1) (hj : a * j = 1) : i * i = j := by
  have e : i * i = (a * j) * (i * i) := by rw [hj]; grind
  rw [e, ← hc]
  have e2 : c * c * j * (i * i) = (c * i) * (c * i) * j := by grind
  rw [e2, hi]; grind
theorem ge0_aux {R : Type} [Lean.Grind.CommRing R] (i : R) (h : 1 * i = 1) : (0 * 0 - 1) * i = -1 := by grind
theorem onT0 (x : F) : eT.a * x * x + 0 * 0 = 1 + eT.d * x * x * 0 * 0 ↔ x * x = inv eT.a := by
  have ha := eT_a0
  have hi := Pl.F_mul_inv ha
  exact ⟨on0_to _ _ _ _ hi, on0_from _ _ _ _ hi⟩
section
variable {C : Cv F}
open Classical in
noncomputable def mkP (C : Cv F) (y x : F) : Pt C := if h : C.a * x * x + y * y = 1 + C.d * x * x * y * y then ⟨x, y, h⟩ else Pt.O
theorem mkP_of {x y : F} (h : C.a * x * x + y * y = 1 + C.d * x * x * y * y) : mkP C y x = ⟨x, y, h⟩ := by
  unfold mkP
  rw [dif_pos h]
/-- All points whose y is told by a list, with the roots of a function. -/
theorem pts_nodup (f : F → F) (e : F → F) (l : List F) (hl : l.Nodup) (hf : ∀ a ∈ l, ∀ b ∈ l, f a = f b → a = b) (hon : ∀ a ∈ l, ∀ x, x * x = e a → C.a * x * x + f a * f a = 1 + C.d * x * x * f a * f a) : (l.flatMap fun a => (roots (e a)).map (mkP C (f a))).Nodup := by
  rw [List.Nodup, List.pairwise_flatMap]
  constructor
  · intro a ha
    rw [List.pairwise_map]
    refine List.Pairwise.imp_of_mem ?_ (roots_nodup (e a))
    intro x y hx hy hne he
    rw [mkP_of (hon a ha x ((roots_mem _ _).1 hx)), mkP_of (hon a ha y ((roots_mem _ _).1 hy))] at he
    exact hne (congrArg Pt.x he)
  · refine List.Pairwise.imp_of_mem ?_ hl
    intro a b ha hb hne P hP Q hQ he
    obtain ⟨x, hx, rfl⟩ := List.mem_map.1 hP
    obtain ⟨y, hy, rfl⟩ := List.mem_map.1 hQ
    rw [mkP_of (hon a ha x ((roots_mem _ _).1 hx)), mkP_of (hon b hb y ((roots_mem _ _).1 hy))] at he
    exact hne (hf a ha b hb (congrArg Pt.y he))
theorem pts_y (f : F → F) (e : F → F) (l : List F) (hon : ∀ a ∈ l, ∀ x, x * x = e a → C.a * x * x + f a * f a = 1 + C.d * x * x * f a * f a) {P : Pt C} (h : P ∈ l.flatMap fun a => (roots (e a)).map (mkP C (f a))) : ∃ a ∈ l, P.y = f a := by
  obtain ⟨a, ha, hP⟩ := List.mem_flatMap.1 h
  obtain ⟨x, hx, rfl⟩ := List.mem_map.1 hP
  exact ⟨a, ha, by rw [mkP_of (hon a ha x ((roots_mem _ _).1 hx))]⟩
end
noncomputable def lenS (e : F → F) : List F → Nat := fun l => (l.map fun a => (roots (e a)).length).sum
theorem pts_len {C : Cv F} (f : F → F) (e : F → F) (l : List F) : (l.flatMap fun a => (roots (e a)).map (mkP C (f a))).length = lenS e l := by
  rw [List.length_flatMap]
  unfold lenS
  congr 1
  exact List.map_congr_left fun a _ => List.length_map ..
theorem lenS_pair (e : F → F) : ∀ l : List F, lenS e l + lenS (fun y => e y * inv 2) l = 2 * l.length
  | [] => rfl
  | a :: l => by
    have ih := lenS_pair e l
    have h : (roots (e a)).length + (roots ((fun y => e y * inv 2) a)).length = 2 := roots_pair (e a)
    unfold lenS at ih ⊢
    rw [List.map_cons, List.map_cons, List.sum_cons, List.sum_cons, List.length_cons]
    omega
theorem lenS_le (e : F → F) : ∀ l : List F, lenS e l ≤ 2 * l.length
  | [] => Nat.le_refl _
  | a :: l => by
    have ih := lenS_le e l
    have h := roots_le (e a)
    unfold lenS at ih ⊢
    rw [List.map_cons, List.sum_cons, List.length_cons]
    omega
/-! ### The curve's and the twist's points -/
noncomputable def LEl (l : List F) : List EP := ([0].flatMap fun a => (roots (gE a)).map (mkP eC a)) ++ l.flatMap fun a => (roots (gE a)).map (mkP eC a)
noncomputable def LTl (l : List F) : List (Pt eT) := ([0].flatMap fun a => (roots (inv eT.a)).map (mkP eT a)) ++ l.flatMap fun a => (roots (gE a * inv 2)).map (mkP eT (inv a))
noncomputable def LE : List EP := LEl Yl
noncomputable def LT : List (Pt eT) := LTl Yl
theorem LE_all (P : EP) : P ∈ LE := by
  have hx := (onE P.x P.y).1 P.on
  have hm : P = mkP eC P.y P.x := by rw [mkP_of P.on]
  have hr := (roots_mem (gE P.y) P.x).2 hx
  refine List.mem_append.2 ?_
  by_cases h : P.y = 0
  · refine .inl (List.mem_flatMap.2 ⟨0, List.mem_singleton.2 rfl, List.mem_map.2 ⟨P.x, ?_, ?_⟩⟩)
    · rw [← h]; exact hr
    · rw [← h]; exact hm.symm
  · exact .inr (List.mem_flatMap.2 ⟨P.y, (Yl_mem _).2 h, List.mem_map.2 ⟨P.x, hr, hm.symm⟩⟩)
theorem LE_nodup : LE.Nodup := by
  have o0 : ∀ a ∈ [(0 : F)], ∀ x, x * x = gE a → eC.a * x * x + a * a = 1 + eC.d * x * x * a * a := fun a _ x h => (onE x a).2 h
  have o1 : ∀ a ∈ Yl, ∀ x, x * x = gE a → eC.a * x * x + a * a = 1 + eC.d * x * x * a * a := fun a _ x h => (onE x a).2 h
  refine List.nodup_append.2 ⟨pts_nodup (fun a => a) gE [0] (List.nodup_cons.2 ⟨List.not_mem_nil, List.nodup_nil⟩) (fun _ _ _ _ h => h) o0, pts_nodup (fun a => a) gE Yl Yl_nodup (fun _ _ _ _ h => h) o1, fun P hP Q hQ e => ?_⟩
  obtain ⟨a, ha, e1⟩ := pts_y (fun a => a) gE [0] o0 hP
  obtain ⟨b, hb, e2⟩ := pts_y (fun a => a) gE Yl o1 hQ
  rw [List.mem_singleton.1 ha] at e1
  rw [e] at e1
  exact (Yl_mem b).1 hb (e2.symm.trans e1)
theorem inv_inv' {y : F} (h : y ≠ 0) : inv (inv y) = y := by
  have h1 := Pl.F_mul_inv h
  have h2 := Pl.F_mul_inv (inv_ne h)
  exact inv2_aux _ _ _ h1 h2
theorem LT_all (P : Pt eT) : P ∈ LT := by
  have hm : P = mkP eT P.y P.x := by rw [mkP_of P.on]
  refine List.mem_append.2 ?_
  by_cases h : P.y = 0
  · have hon := P.on
    rw [h] at hon
    have hr := (roots_mem (inv eT.a) P.x).2 ((onT0 P.x).1 hon)
    refine .inl (List.mem_flatMap.2 ⟨0, List.mem_singleton.2 rfl, List.mem_map.2 ⟨P.x, hr, ?_⟩⟩)
    rw [← h]; exact hm.symm
  · have hi := inv_ne h
    have he := inv_inv' h
    have hon := P.on
    rw [← he] at hon
    have hr := (roots_mem (gE (inv P.y) * inv 2) P.x).2 ((onT P.x (inv P.y) hi).1 hon)
    exact .inr (List.mem_flatMap.2 ⟨inv P.y, (Yl_mem _).2 hi, List.mem_map.2 ⟨P.x, hr, by rw [he]; exact hm.symm⟩⟩)
theorem LT_nodup : LT.Nodup := by
  have o0 : ∀ a ∈ [(0 : F)], ∀ x, x * x = inv eT.a → eT.a * x * x + a * a = 1 + eT.d * x * x * a * a := fun a ha x h => by
    rw [List.mem_singleton.1 ha]; exact (onT0 x).2 h
  have o1 : ∀ a ∈ Yl, ∀ x, x * x = gE a * inv 2 → eT.a * x * x + inv a * inv a = 1 + eT.d * x * x * inv a * inv a := fun a ha x h => (onT x a ((Yl_mem a).1 ha)).2 h
  refine List.nodup_append.2 ⟨pts_nodup (fun a => a) (fun _ => inv eT.a) [0] (List.nodup_cons.2 ⟨List.not_mem_nil, List.nodup_nil⟩) (fun _ _ _ _ h => h) o0, pts_nodup inv (fun y => gE y * inv 2) Yl Yl_nodup (fun a ha b hb h => by
    rw [← inv_inv' ((Yl_mem a).1 ha), h, inv_inv' ((Yl_mem b).1 hb)]) o1, fun P hP Q hQ e => ?_⟩
  obtain ⟨a, ha, e1⟩ := pts_y (fun a => a) (fun _ => inv eT.a) [0] o0 hP
  obtain ⟨b, hb, e2⟩ := pts_y inv (fun y => gE y * inv 2) Yl o1 hQ
  rw [List.mem_singleton.1 ha] at e1
  rw [e] at e1
  exact inv_ne ((Yl_mem b).1 hb) (e2.symm.trans e1)
theorem roots_two {t r : F} (h0 : t ≠ 0) (h : r * r = t) : (roots t).length = 2 := by
  unfold roots
  rw [if_neg h0, dif_pos ⟨r, h⟩]
  rfl
theorem m1_ne : (-1 : F) ≠ 0 := fun e => absurd (congrArg Fin.val e) (by decide +kernel)
theorem gE_zero : gE 0 = -1 := by
  have h1 := Pl.F_mul_inv Pl.F_one_ne
  unfold gE
  rw [zero_aux]
  exact ge0_aux _ h1
theorem lenS_two {r : F} (e : F → F) (a : F) (h0 : e a ≠ 0) (h : r * r = e a) : lenS e [a] = 2 := by
  unfold lenS
  rw [List.map_cons, List.map_nil, List.sum_cons, List.sum_nil, Nat.add_zero]
  exact roots_two h0 h
theorem LE_len (l : List F) : (LEl l).length = 2 + lenS gE l := by
  unfold LEl
  rw [List.length_append, pts_len (fun a => a) gE l, pts_len (fun a => a) gE [0]]
  rw [lenS_two gE 0 (by rw [gE_zero]; exact m1_ne) (by rw [gE_zero]; exact iN_sq)]
theorem LT_len (l : List F) : (LTl l).length = 2 + lenS (fun y => gE y * inv 2) l := by
  unfold LTl
  rw [List.length_append, pts_len inv (fun y => gE y * inv 2) l, pts_len (fun a => a) (fun _ => inv eT.a) [0]]
  have hi := Pl.F_mul_inv eT.c0
  rw [lenS_two (r := inv eT.c) (fun _ => inv eT.a) 0 (inv_ne eT_a0) (invsq_aux _ _ _ _ eT.hc hi (Pl.F_mul_inv eT_a0))]
theorem counts (l : List F) (hl : l.length = pP - 1) : (LEl l).length + (LTl l).length = 2 * pP + 2 ∧ (LEl l).length ≤ 2 * pP ∧ 0 < (LEl l).length := by
  have h1 := LE_len l
  have h2 := LT_len l
  have h3 := lenS_pair gE l
  have h4 := lenS_le gE l
  have hp : 1 < pP := by decide +kernel
  rw [hl] at h3 h4
  generalize (LEl l).length = n1 at *
  generalize (LTl l).length = n2 at *
  generalize lenS gE l = s1 at *
  generalize lenS (fun y => gE y * inv 2) l = s2 at *
  omega
/-! ### A point of order 8 L -/
def t8x : Nat := 14399317868200118260347934320527232580618823971194345261214217575416788799818
def t8y : Nat := 55188659117513257062467267217118295137698188065244968500265048394206261417927
def e8P : EP := ⟨toF t8x, toF t8y, by decide +kernel⟩
def fT8 : P4 := ⟨t8x, t8y, 1, t8x * t8y % pP⟩
theorem fT8_v : (fFar e8P).v = fT8 := by
  rw [← far_v]
  unfold pFar fT8
  rw [show e8P.x.val = t8x from by decide +kernel, show e8P.y.val = t8y from by decide +kernel]
  congr 1
theorem e8_mul (n : Nat) (h : n < 2 ^ 256) : ∃ o : F4, tmRd d2N n fT8 256 fO = o.v ∧ Rep o (Pt.mul n e8P) := by
  obtain ⟨o, h1, h2⟩ := tmR_rep n e8P 256 0 (fFar (Pt.O : EP)) (far_rep _)
  rw [Nat.zero_mul, Nat.zero_add, Nat.mod_eq_of_lt h] at h2
  rw [tmR_d, nTwice_lit, fT8_v, fO_v] at h1
  exact ⟨o, h1, h2⟩
theorem k8e : (tmRd d2N 8 fT8 256 fO).x = 0 ∧ (tmRd d2N 8 fT8 256 fO).y = (tmRd d2N 8 fT8 256 fO).z := by decide +kernel
theorem k4e : (tmRd d2N 4 fT8 256 fO).y ≠ (tmRd d2N 4 fT8 256 fO).z := by decide +kernel
theorem e8_eight : Pt.mul 8 e8P = Pt.O := by
  obtain ⟨o, h1, h2⟩ := e8_mul 8 (by decide +kernel)
  have h3 := k8e
  rw [h1] at h3
  have hx : o.x = 0 := Fin.ext h3.1
  have hy : o.y = o.z := Fin.ext h3.2
  refine Pt.ext ?_ ?_
  · have := h2.x
    rw [hx] at this
    exact (Pl.F_mul_eq_zero this.symm).resolve_right h2.z
  · have := h2.y
    rw [hy] at this
    exact mul_self_cancel h2.z this
theorem e8_four : Pt.mul 4 e8P ≠ Pt.O := fun h => by
  obtain ⟨o, h1, h2⟩ := e8_mul 4 (by decide +kernel)
  have h3 := k4e
  rw [h1] at h3
  rw [h] at h2
  have : o.y = 1 * o.z := h2.y
  exact h3 (congrArg Fin.val (this.trans (one_mul' o.z)))
theorem e8_dvd {n : Nat} (h : Pt.mul n e8P = Pt.O) : 8 ∣ n := by
  have hg := gcd_zero e8P 8 n e8_eight h
  have hd := Nat.gcd_dvd_left 8 n
  have hn := Nat.gcd_dvd_right 8 n
  generalize Nat.gcd 8 n = g at *
  have key : ∀ g : Nat, g ≤ 8 → g ∣ 8 → g = 8 ∨ g ∣ 4 := by decide
  rcases key g (Nat.le_of_dvd (by decide) hd) hd with rfl | ⟨t, ht⟩
  · exact hn
  · have : Pt.mul 4 e8P = Pt.O := by rw [ht, Nat.mul_comm, Pt.mul_mul, hg, Pt.mul_O]
    exact absurd this e8_four
theorem pL_odd : Nat.Coprime 8 pL := by decide +kernel
/-- What annuls all points is a multiple of 8 L. -/
theorem all_dvd {n : Nat} (h : ∀ P : EP, Pt.mul n P = Pt.O) : 8 * pL ∣ n := by
  have h1 := e8_dvd (h e8P)
  have h2 := base_zero (h eB)
  exact Nat.Coprime.mul_dvd_of_dvd_of_dvd pL_odd h1 h2
theorem count_num (n m : Nat) (h : 8 * pL ∣ n) (h1 : n + m = 2 * pP + 2) (h2 : n ≤ 2 * pP) (h3 : 0 < n) : n = 8 * pL ∧ m = 4 * pT := by
  obtain ⟨t, rfl⟩ := h
  have hb : 2 * pP < 8 * pL * 2 := by decide +kernel
  have he : 2 * pP + 2 = 8 * pL + 4 * pT := by decide +kernel
  have ht : t = 1 := by
    have t1 : t < 2 := Nat.lt_of_not_le fun h => by
      have := Nat.mul_le_mul_left (8 * pL) h
      exact absurd (Nat.lt_of_le_of_lt (Nat.le_trans this h2) hb) (Nat.lt_irrefl _)
    have t0 : t ≠ 0 := fun e => by rw [e, Nat.mul_zero] at h3; exact absurd h3 (Nat.lt_irrefl _)
    omega
  rw [ht, Nat.mul_one] at h1 ⊢
  refine ⟨rfl, ?_⟩
  rw [he] at h1
  exact Nat.add_left_cancel h1
theorem LE_exp (P : EP) : Pt.mul LE.length P = Pt.O := group_exp LE_nodup LE_all P
theorem LT_exp (P : Pt eT) : Pt.mul LT.length P = Pt.O := group_exp LT_nodup LT_all P
theorem both_exp : (∀ P : EP, Pt.mul (8 * pL) P = Pt.O) ∧ ∀ P : Pt eT, Pt.mul (4 * pT) P = Pt.O := by
  have hc := counts Yl Yl_len
  have h1 : ∀ P : EP, Pt.mul (LEl Yl).length P = Pt.O := LE_exp
  have h2 : ∀ P : Pt eT, Pt.mul (LTl Yl).length P = Pt.O := LT_exp
  generalize (LEl Yl).length = n at *
  generalize (LTl Yl).length = m at *
  obtain ⟨e1, e2⟩ := count_num n m (all_dvd h1) hc.1 hc.2.1 hc.2.2
  rw [e1] at h1
  rw [e2] at h2
  exact ⟨h1, h2⟩
end Go.Proofs.Ytgeldhdijochdaa.Am
