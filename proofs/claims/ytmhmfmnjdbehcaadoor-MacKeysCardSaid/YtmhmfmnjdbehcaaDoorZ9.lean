/- The keyed sums: the contract. Conditions: none. -/
import Derived.Test.YtmhmfmnjdbehcaaDoorZ8
import Derived.Test.YtmhmfmnjdbehcaaDoorRows
import Derived.WalkKit
import Derived.ProofKit
import Derived.OpenShut
import Derived.ChangeOld
import Derived.Below
import Derived.Test.YtmhmfmnjdbehcaaDoorZ5
import Derived.ChangeSlices
set_option linter.unusedSectionVars false
namespace Go.Proofs.YtmhmfmnjdbehcaaDoor.Am
set_option linter.unusedVariables false
set_option linter.unusedSimpArgs false
open Go Go.RowKit
set_option linter.unusedSectionVars false
variable [GT] [GRnd]
def msF1 : List CB → Option BR
  | [.sl .u8 k, .rs _ [.sl .u8 p]] => some { pre := k.length ≤ 800000 ∧ p.length ≤ 800000, val := .av (.one (.s 0 0 48 48)), new := [⟨0, 36, [.arr .u8 (macL k (p))]⟩] }
  | _ => none
theorem ms_ends1 [G384] (cbs : List CB) (r : BR) (hF : msF1 cbs = some r) (hp : r.pre) : EndsB Tryd.prog tyT [] fMS cbs r := by
  unfold msF1 at hF
  split at hF
  · rename_i k cap p
    injection hF with hF
    subst hF
    obtain ⟨hk, hl⟩ : k.length ≤ 800000 ∧ p.length ≤ 800000 := hp
    intro κ
    have hrun := ms_run1 κ k cap p
    have h8 : kStart384.length = 8 := rfl
    simp only [cutI_all, cut128, List.nil_append] at hrun
    rw [keyL_g2 (abA_len h8 _), keyL_g2 (abA_len (abA_len h8 _) _)] at hrun
    simp only [abA_app, lf_app, List.append_assoc] at hrun
    have hP := padL_len k 54
    have hQ := padL_len k 92
    rw [sumW_eq _ _ _ (by simp only [List.length_append, hP, Int.natCast_add]; omega), cut48 _ (shaL_len _ _)] at hrun
    have h := FromK.run (m0 := 0) tyT_ok msO1_ok mixed_ hrun ?_
    · exact ⟨[.fin], _, .av (.one (.s 0 0 48 48)), [0], .inr rfl, h, by kernel_rfl, by kernel_rfl, by kernel_rfl⟩
    · have k1 := KN_le (padL k 54)
      have m1 := lf_len (padL k 54)
      have k2 := KN_le (lf (padL k 54) ++ p)
      have m2 := lf_len (padL k 54 ++ p)
      simp only [List.length_append] at k1 m1 k2 m2
      simp only [allP_cons, allP_nil, and_true, true_and, true_or, or_true, h8, abA_len, List.length_append, List.length_nil, hP, hQ, keyL_len, shaL_len]
      omega
  · cases hF
theorem msum_ent1 [G384] (sh : List ShB) (hs : sh.length = 2 := by rfl) : EntOK Tryd.prog 30 (entB sh msF1) :=
  ok_B tyT_ok Tryd.func30 (by kernel_rfl) (by kernel_rfl) [] (fun x hx => by cases hx) (by rw [hs]; kernel_rfl) ms_ends1
def msF2 : List CB → Option BR
  | [.sl .u8 k, .rs _ [.sl .u8 p, .sl .u8 q]] => some { pre := k.length ≤ 800000 ∧ p.length + q.length ≤ 800000, val := .av (.one (.s 0 0 48 48)), new := [⟨0, 36, [.arr .u8 (macL k (p ++ q))]⟩] }
  | _ => none
theorem ms_ends2 [G384] (cbs : List CB) (r : BR) (hF : msF2 cbs = some r) (hp : r.pre) : EndsB Tryd.prog tyT [] fMS cbs r := by
  unfold msF2 at hF
  split at hF
  · rename_i k cap p q
    injection hF with hF
    subst hF
    obtain ⟨hk, hl⟩ : k.length ≤ 800000 ∧ p.length + q.length ≤ 800000 := hp
    intro κ
    have hrun := ms_run2 κ k cap p q
    have h8 : kStart384.length = 8 := rfl
    simp only [cutI_all, cut128, List.nil_append] at hrun
    rw [keyL_g2 (abA_len h8 _), keyL_g2 (abA_len (abA_len (abA_len h8 _) _) _)] at hrun
    simp only [abA_app, lf_app, List.append_assoc] at hrun
    have hP := padL_len k 54
    have hQ := padL_len k 92
    rw [sumW_eq _ _ _ (by simp only [List.length_append, hP, Int.natCast_add]; omega), cut48 _ (shaL_len _ _)] at hrun
    have h := FromK.run (m0 := 0) tyT_ok msO2_ok mixed_ hrun ?_
    · exact ⟨[.fin], _, .av (.one (.s 0 0 48 48)), [0], .inr rfl, h, by kernel_rfl, by kernel_rfl, by kernel_rfl⟩
    · have k1 := KN_le (padL k 54)
      have m1 := lf_len (padL k 54)
      have k2 := KN_le (lf (padL k 54 ++ p) ++ q)
      have m2 := lf_len (padL k 54 ++ (p ++ q))
      have m3 := lf_len (padL k 54 ++ p)
      simp only [List.length_append] at k1 m1 k2 m2 m3
      simp only [allP_cons, allP_nil, and_true, true_and, true_or, or_true, h8, abA_len, List.length_append, List.length_nil, hP, hQ, keyL_len, shaL_len]
      omega
  · cases hF
theorem msum_ent2 [G384] (sh : List ShB) (hs : sh.length = 2 := by rfl) : EntOK Tryd.prog 30 (entB sh msF2) :=
  ok_B tyT_ok Tryd.func30 (by kernel_rfl) (by kernel_rfl) [] (fun x hx => by cases hx) (by rw [hs]; kernel_rfl) ms_ends2
def msF3 : List CB → Option BR
  | [.sl .u8 k, .rs _ [.sl .u8 p, .sl .u8 q, .sl .u8 u]] => some { pre := k.length ≤ 800000 ∧ p.length + q.length + u.length ≤ 800000, val := .av (.one (.s 0 0 48 48)), new := [⟨0, 36, [.arr .u8 (macL k (p ++ (q ++ u)))]⟩] }
  | _ => none
theorem ms_ends3 [G384] (cbs : List CB) (r : BR) (hF : msF3 cbs = some r) (hp : r.pre) : EndsB Tryd.prog tyT [] fMS cbs r := by
  unfold msF3 at hF
  split at hF
  · rename_i k cap p q u
    injection hF with hF
    subst hF
    obtain ⟨hk, hl⟩ : k.length ≤ 800000 ∧ p.length + q.length + u.length ≤ 800000 := hp
    intro κ
    have hrun := ms_run3 κ k cap p q u
    have h8 : kStart384.length = 8 := rfl
    simp only [cutI_all, cut128, List.nil_append] at hrun
    rw [keyL_g2 (abA_len h8 _), keyL_g2 (abA_len (abA_len (abA_len (abA_len h8 _) _) _) _)] at hrun
    simp only [abA_app, lf_app, List.append_assoc] at hrun
    have hP := padL_len k 54
    have hQ := padL_len k 92
    rw [sumW_eq _ _ _ (by simp only [List.length_append, hP, Int.natCast_add]; omega), cut48 _ (shaL_len _ _)] at hrun
    have h := FromK.run (m0 := 0) tyT_ok msO3_ok mixed_ hrun ?_
    · exact ⟨[.fin], _, .av (.one (.s 0 0 48 48)), [0], .inr rfl, h, by kernel_rfl, by kernel_rfl, by kernel_rfl⟩
    · have k1 := KN_le (padL k 54)
      have m1 := lf_len (padL k 54)
      have k2 := KN_le (lf (padL k 54 ++ (p ++ q)) ++ u)
      have m2 := lf_len (padL k 54 ++ (p ++ (q ++ u)))
      have m3 := lf_len (padL k 54 ++ (p ++ q))
      simp only [List.length_append] at k1 m1 k2 m2 m3
      simp only [allP_cons, allP_nil, and_true, true_and, true_or, or_true, h8, abA_len, List.length_append, List.length_nil, hP, hQ, keyL_len, shaL_len]
      omega
  · cases hF
theorem msum_ent3 [G384] (sh : List ShB) (hs : sh.length = 2 := by rfl) : EntOK Tryd.prog 30 (entB sh msF3) :=
  ok_B tyT_ok Tryd.func30 (by kernel_rfl) (by kernel_rfl) [] (fun x hx => by cases hx) (by rw [hs]; kernel_rfl) ms_ends3
end Go.Proofs.YtmhmfmnjdbehcaaDoor.Am
/- The keyed sum of nothing. Conditions: none. -/
namespace Go.Proofs.YtmhmfmnjdbehcaaDoor.Am
set_option linter.unusedVariables false
set_option linter.unusedSimpArgs false
open Go Go.RowKit
set_option linter.unusedSectionVars false
variable [GT] [GRnd]
def a0B (sf : Nat → Int) (i : Nat) (n z : Int) : List CB := [.mu 63 [.ag .u64 (keyL 8 sf), .kp i, .sg (.v (.int .i64 n)), .sg (.v (.int .i64 z))], .av (.one (.v (.slice none 0 0)))]
theorem a0_run (κ : Nat → Value) (sf : Nat → Int) (i : Nat) (n z : Int) : runF tyT [] noH [(1, 1)] 1 [] [] fAd (bA (a0B sf i n z) 0 1) (bH κ (a0B sf i n z) 0 1) 1 [] = some ([], { tm := tmL 45 [], hp := [(0, ⟨0, 63, bkC (κ i) sf n z⟩)], nx := 1, gl := [] }, []) := by kernel_rfl
def a0F : List CB → Option BR
  | [.mu ty [.ag .u64 s, .kp i, .sg (.v (.int .i64 n)), .sg (.v (.int .i64 z))], .av (.one (.v (.slice none 0 0)))] => some { pre := ty = 63 ∧ s.length = 8, val := .tup [], upd := [[.s (.arr .u64 s), .k i, .s (.v (.int .i64 n)), .s (.v (.int .i64 z))]] }
  | _ => none
theorem a0_ends (cbs : List CB) (r : BR) (hF : a0F cbs = some r) (hp : r.pre) : EndsB Tryd.prog tyT [] fAd cbs r := by
  unfold a0F at hF
  split at hF
  · rename_i ty s i n z
    injection hF with hF
    subst hF
    obtain ⟨rfl, hs⟩ : ty = 63 ∧ s.length = 8 := hp
    intro κ
    have h := FromK.run (m0 := 1) tyT_ok nil_ok mixed_ (a0_run κ (g2 s) i n z) trivial
    unfold a0B bkC at h
    rw [keyL_g2 hs] at h
    exact ⟨[], _, .tup [], [], .inl rfl, h, by kernel_rfl, by kernel_rfl, by kernel_rfl⟩
  · cases hF
theorem add0_ent (sh : List ShB) (hs : sh.length = 2 := by rfl) : EntOK Tryd.prog 19 (entB sh a0F) :=
  ok_B tyT_ok Tryd.func19 (by kernel_rfl) (by kernel_rfl) [] (fun x hx => by cases hx) (by rw [hs]; kernel_rfl) a0_ends
noncomputable def beO0 : List (Nat × Ent) := [(18, entB [] nwF384), (54, entB [.sl .u8, .av] paF), (19, eOr (entB [.mu 63 [.ag .u64 8, .sl .u8, .sg, .sg], .rs [.sl .u8]] adF) (entB [.mu 63 [.ag .u64 8, .kp, .sg, .sg], .av] a0F))]
theorem beO0_ok [G384] : OOK Tryd.prog beO0 := ook_of (l := [(18, entB [] nwF384), (54, entB [.sl .u8, .av] paF), (19, eOr (entB [.mu 63 [.ag .u64 8, .sl .u8, .sg, .sg], .rs [.sl .u8]] adF) (entB [.mu 63 [.ag .u64 8, .kp, .sg, .sg], .av] a0F))]) ⟨new384_ent _, pad_ent _, eOr_ok (add_ent _) (add0_ent _), trivial⟩
noncomputable def eBegin0 : Ent := inl tyT beO0 noH [] 2000 Tryd.f41 []
theorem begin0_ent [G384] : EntOK Tryd.prog 41 eBegin0 := inl_ok tyT_ok beO0_ok mixed_ Tryd.func41 (by kernel_rfl) (by kernel_rfl) _
noncomputable def msO0 : List (Nat × Ent) := [(41, eBegin0), (42, eTag)]
theorem msO0_ok [G384] : OOK Tryd.prog msO0 := ook_of (l := [(41, eBegin0), (42, eTag)]) ⟨begin0_ent, tag_ent, trivial⟩
theorem ms_run0 (κ : Nat → Value) (k : List Int) : runF tyT msO0 noH [] 0 [4] [4] fMS (bA [.sl .u8 k, .av (.one (.v (.slice none 0 0)))] 0 0) (bH κ [.sl .u8 k, .av (.one (.v (.slice none 0 0)))] 0 0) 1 [] = some ([.fin], { tm := tmL 9 [(4, .av (.one (.s 0 0 48 48)))], hp := [(0, ⟨0, 36, [.arr .u8 (keyL 48 (g2 (shaL kStart384 (cutI (padL (cutI k 0 k.length) 92) 0 128 ++ cutI (sumW (keyL 8 (g2 (abA kStart384 ([] ++ (cutI (padL (cutI k 0 k.length) 54) 0 128))))) (lf ([] ++ (cutI (padL (cutI k 0 k.length) 54) 0 128))) ((0 : Int) + ((cutI (padL (cutI k 0 k.length) 54) 0 128).length : Int))) 0 48))))]⟩)], nx := 1, gl := [] }, [True, 0 + k.length ≤ k.length, (cutI k 0 k.length).length ≤ 900000, 0 + k.length ≤ k.length, (cutI k 0 k.length).length ≤ 900000, 0 + 128 ≤ (padL (cutI k 0 k.length) 54).length ∧ 128 ≤ 128, 63 = 63 ∧ kStart384.length = 8 ∧ ([] : List Int).length + (cutI (padL (cutI k 0 k.length) 54) 0 128).length ≤ 900000 ∧ (0 : Int) ≤ 0 ∧ (0 : Int) ≤ 1000000, 63 = 63 ∧ (keyL 8 (g2 (abA kStart384 ([] ++ (cutI (padL (cutI k 0 k.length) 54) 0 128))))).length = 8, 128 * KN ([] ++ (cutI (padL (cutI k 0 k.length) 54) 0 128)) + (([] ++ (cutI (padL (cutI k 0 k.length) 54) 0 128)).length - 128 * KN ([] ++ (cutI (padL (cutI k 0 k.length) 54) 0 128))) ≤ ([] ++ (cutI (padL (cutI k 0 k.length) 54) 0 128)).length, (keyL 8 (g2 (abA kStart384 ([] ++ (cutI (padL (cutI k 0 k.length) 54) 0 128))))).length = 8 ∧ (lf ([] ++ (cutI (padL (cutI k 0 k.length) 54) 0 128))).length ≤ 1000 ∧ 0 ≤ ((0 : Int) + ((cutI (padL (cutI k 0 k.length) 54) 0 128).length : Int)) ∧ ((0 : Int) + ((cutI (padL (cutI k 0 k.length) 54) 0 128).length : Int)) ≤ 1000000 ∧ ((48 : Int) = 64 ∨ (48 : Int) = 48), 0 + 128 ≤ (padL (cutI k 0 k.length) 92).length ∧ 128 ≤ 128, 0 + 48 ≤ (sumW (keyL 8 (g2 (abA kStart384 ([] ++ (cutI (padL (cutI k 0 k.length) 54) 0 128))))) (lf ([] ++ (cutI (padL (cutI k 0 k.length) 54) 0 128))) ((0 : Int) + ((cutI (padL (cutI k 0 k.length) 54) 0 128).length : Int))).length, (cutI (padL (cutI k 0 k.length) 92) 0 128).length + (cutI (sumW (keyL 8 (g2 (abA kStart384 ([] ++ (cutI (padL (cutI k 0 k.length) 54) 0 128))))) (lf ([] ++ (cutI (padL (cutI k 0 k.length) 54) 0 128))) ((0 : Int) + ((cutI (padL (cutI k 0 k.length) 54) 0 128).length : Int))) 0 48).length ≤ 900000]) := by kernel_rfl
def msF0 : List CB → Option BR
  | [.sl .u8 k, .av (.one (.v (.slice none 0 0)))] => some { pre := k.length ≤ 800000, val := .av (.one (.s 0 0 48 48)), new := [⟨0, 36, [.arr .u8 (macL k [])]⟩] }
  | _ => none
theorem ms_ends0 [G384] (cbs : List CB) (r : BR) (hF : msF0 cbs = some r) (hp : r.pre) : EndsB Tryd.prog tyT [] fMS cbs r := by
  unfold msF0 at hF
  split at hF
  · rename_i k
    injection hF with hF
    subst hF
    have hk : k.length ≤ 800000 := hp
    intro κ
    have hrun := ms_run0 κ k
    have h8 : kStart384.length = 8 := rfl
    simp only [cutI_all, cut128, List.nil_append] at hrun
    rw [keyL_g2 (abA_len h8 _)] at hrun
    have hP := padL_len k 54
    have hQ := padL_len k 92
    rw [sumW_eq _ _ _ (by simp only [hP]; omega), cut48 _ (shaL_len _ _)] at hrun
    have h := FromK.run (m0 := 0) tyT_ok msO0_ok mixed_ hrun ?_
    · rw [← List.append_nil (padL k 54)] at h
      exact ⟨[.fin], _, .av (.one (.s 0 0 48 48)), [0], .inr rfl, h, by kernel_rfl, by kernel_rfl, by kernel_rfl⟩
    · have k1 := KN_le (padL k 54)
      have m1 := lf_len (padL k 54)
      simp only [allP_cons, allP_nil, and_true, true_and, true_or, or_true, h8, abA_len, List.length_append, List.length_nil, hP, hQ, keyL_len, shaL_len]
      omega
  · cases hF
theorem msum_ent0 [G384] (sh : List ShB) (hs : sh.length = 2 := by rfl) : EntOK Tryd.prog 30 (entB sh msF0) :=
  ok_B tyT_ok Tryd.func30 (by kernel_rfl) (by kernel_rfl) [] (fun x hx => by cases hx) (by rw [hs]; kernel_rfl) ms_ends0
end Go.Proofs.YtmhmfmnjdbehcaaDoor.Am
/- The document's keyed sum. Conditions: none. -/
namespace Go.Proofs.YtmhmfmnjdbehcaaDoor.Am
set_option linter.unusedVariables false
set_option linter.unusedSimpArgs false
open Go Go.RowKit
set_option linter.unusedSectionVars false
variable [GT] [GRnd]
noncomputable abbrev fR3 : Func := Tryd.f31
noncomputable def r3O : List (Nat × Ent) := [(22, entB [.sl .u8] srF)]
theorem r3O_ok [G384] : OOK Tryd.prog r3O := ook_of (l := [(22, entB [.sl .u8] srF)]) ⟨Short_ent _, trivial⟩
def r3B (k b : List Int) : List CB := [.sl .u8 k, .sl .u8 b]
def r3A (q ty : Nat) (k b : List Int) : St := { tm := tmL 45 [(0, .av (.one (.r 0 0 k.length 0))), (1, .av (.one (.r 1 0 b.length 0))), (5, .av (.one (.s 2 0 0 0))), (6, .av (.one (.s 3 0 0 0))), (7, ofV (.int .i64 0))], hp := [(0, ⟨q, ty, [.arr .u8 k]⟩), (1, ⟨2, 0, [.arr .u8 b]⟩), (2, ⟨0, 5, []⟩), (3, ⟨0, 5, []⟩)], nx := 4, gl := [] }
def r3S (q ty : Nat) (k b x y : List Int) (lx ly i : Nat) : St := { tm := tmL 45 [(0, .av (.one (.r 0 0 k.length 0))), (1, .av (.one (.r 1 0 b.length 0))), (5, .av (.one (.r 2 0 lx 0))), (6, .av (.one (.r 3 0 ly 0))), (7, ofV (.int .i64 (i : Nat)))], hp := [(0, ⟨q, ty, [.arr .u8 k]⟩), (1, ⟨2, 0, [.arr .u8 b]⟩), (2, ⟨1, 5, [.arr .u8 x]⟩), (3, ⟨1, 5, [.arr .u8 y]⟩)], nx := 4, gl := [] }
def r3E (o : List Int) : St := { tm := tmL 45 [(4, .av (.one (.r 0 0 48 0)))], hp := [(0, ⟨1, 5, [.arr .u8 o]⟩)], nx := 1, gl := [] }
def shS (a : List Int) : List Int := keyL 48 (g2 (shaL kStart384 a))
theorem r3_long (κ : Nat → Value) (k b : List Int) : runF tyT r3O (atH 1 2 (isB true) noH) [] 0 [2, 1, 3, 4] [0, 1, 5, 6, 7] fR3 (bA (r3B k b) 0 0) (bH κ (r3B k b) 0 0) 2 [] = some (toAt fR3 5 [], r3A 1 5 (shS (cutI k 0 k.length)) b, [tB (decide ((k.length : Int) > 128)) true, 0 + k.length ≤ k.length, isBs (cutI k 0 k.length) ∧ (cutI k 0 k.length).length ≤ 900000]) := by kernel_rfl
theorem r3_short (κ : Nat → Value) (k b : List Int) : runF tyT r3O (atH 1 2 (isB false) noH) [] 0 [0, 1, 2, 3] [0, 1, 5, 6, 7] fR3 (bA (r3B k b) 0 0) (bH κ (r3B k b) 0 0) 2 [] = some (toAt fR3 5 [], r3A 2 0 k b, [tB (decide ((k.length : Int) > 128)) false]) := by kernel_rfl
theorem r3_z1_q2 (k b : List Int) (k_ : Nat) : runN tyT r3O (atH 5 1 (isB true) (atH 8 3 (isB true) (atH 9 2 symH (atH 9 3 symH noH)))) [] 2000 0 [0, 1, 5, 7] [0, 1, 5, 6, 7] (inAt fR3 5 [] k_) (r3A 2 0 k b) = some (hdAt fR3 5 [] k_, r3S 2 0 k b [ixor .u8 (k.getD 0 0) 54] [ixor .u8 (k.getD 0 0) 92] 1 1 1, [tB true true, tB (decide ((0 : Int) < k.length)) true, 0 + k.length ≤ widths [Seg.arr .u8 k], (0 : Int) ≤ 0 ∧ 0 ≤ k.length - 1, 1 ≤ k.length, 0 < k.length]) := by kernel_rfl
theorem r3_z0_q2 (k b : List Int) (k_ : Nat) : runN tyT r3O (atH 5 1 (isB true) (atH 8 3 (isB false) noH)) [] 2000 0 [0, 1, 5, 7] [0, 1, 5, 6, 7] (inAt fR3 5 [] k_) (r3A 2 0 k b) = some (hdAt fR3 5 [] k_, r3S 2 0 k b [54] [92] 1 1 1, [tB true true, tB (decide ((0 : Int) < k.length)) false]) := by kernel_rfl
theorem r3_g1_q2 (k b x y : List Int) (lx ly i k_ : Nat) : runN tyT r3O (atH 5 1 (isB true) (atH 8 3 (isB true) (atH 9 2 symH (atH 9 3 symH (atH 10 4 symH (atH 11 4 symH (atH 6 1 (isI .i64 ((i + 1 : Nat) : Int)) noH))))))) [] 2000 0 [0, 1, 5, 7] [0, 1, 5, 6, 7] (inAt fR3 5 [] k_) (r3S 2 0 k b x y lx ly i) = some (hdAt fR3 5 [] k_, r3S 2 0 k b (x ++ [ixor .u8 (k.getD i 0) 54]) (y ++ [ixor .u8 (k.getD i 0) 92]) (widths [Seg.arr .u8 x] + 1) (widths [Seg.arr .u8 y] + 1) (i + 1), [tB (decide ((i : Int) < 128)) true, tB (decide ((i : Int) < k.length)) true, 0 + k.length ≤ widths [Seg.arr .u8 k], 0 ≤ (i : Int) ∧ i ≤ k.length - 1, 1 ≤ k.length, i < k.length, lx = widths [Seg.arr .u8 x], 1 ≤ 1, (widths [Seg.arr .u8 x] + 1) * 2 ≤ 140737488355328, ly = widths [Seg.arr .u8 y], 1 ≤ 1, (widths [Seg.arr .u8 y] + 1) * 2 ≤ 140737488355328, tI .i64 (IntKind.wrap .i64 ((i : Int) + 1)) ((i + 1 : Nat) : Int)]) := by kernel_rfl
theorem r3_g0_q2 (k b x y : List Int) (lx ly i k_ : Nat) : runN tyT r3O (atH 5 1 (isB true) (atH 8 3 (isB false) (atH 10 4 symH (atH 11 4 symH (atH 6 1 (isI .i64 ((i + 1 : Nat) : Int)) noH))))) [] 2000 0 [0, 1, 5, 7] [0, 1, 5, 6, 7] (inAt fR3 5 [] k_) (r3S 2 0 k b x y lx ly i) = some (hdAt fR3 5 [] k_, r3S 2 0 k b (x ++ [54]) (y ++ [92]) (widths [Seg.arr .u8 x] + 1) (widths [Seg.arr .u8 y] + 1) (i + 1), [tB (decide ((i : Int) < 128)) true, tB (decide ((i : Int) < k.length)) false, lx = widths [Seg.arr .u8 x], 1 ≤ 1, (widths [Seg.arr .u8 x] + 1) * 2 ≤ 140737488355328, ly = widths [Seg.arr .u8 y], 1 ≤ 1, (widths [Seg.arr .u8 y] + 1) * 2 ≤ 140737488355328, tI .i64 (IntKind.wrap .i64 ((i : Int) + 1)) ((i + 1 : Nat) : Int)]) := by kernel_rfl
theorem r3_end_q2 (k b x y : List Int) (lx ly k_ : Nat) : runN tyT r3O (atH 12 3 symH (atH 12 5 symH noH)) [] 2000 0 [7] [4] (inAt fR3 5 [] k_) (r3S 2 0 k b x y lx ly 128) = some ([.fin], r3E (shS (cutI (y ++ (shS (cutI (x ++ b.take b.length) 0 (widths [Seg.arr .u8 x] + b.length))).take 48) 0 (widths [Seg.arr .u8 y] + 48))), [lx = widths [Seg.arr .u8 x], 0 + b.length ≤ widths [Seg.arr .u8 b], (widths [Seg.arr .u8 x] + b.length) * 2 ≤ 140737488355328, 0 + (widths [Seg.arr .u8 x] + b.length) ≤ (x ++ b.take b.length).length, isBs (cutI (x ++ b.take b.length) 0 (widths [Seg.arr .u8 x] + b.length)) ∧ (cutI (x ++ b.take b.length) 0 (widths [Seg.arr .u8 x] + b.length)).length ≤ 900000, ly = widths [Seg.arr .u8 y], 48 ≤ widths [Seg.arr .u8 (shS (cutI (x ++ b.take b.length) 0 (widths [Seg.arr .u8 x] + b.length)))], (widths [Seg.arr .u8 y] + 48) * 2 ≤ 140737488355328, 0 + (widths [Seg.arr .u8 y] + 48) ≤ (y ++ (shS (cutI (x ++ b.take b.length) 0 (widths [Seg.arr .u8 x] + b.length))).take 48).length, isBs (cutI (y ++ (shS (cutI (x ++ b.take b.length) 0 (widths [Seg.arr .u8 x] + b.length))).take 48) 0 (widths [Seg.arr .u8 y] + 48)) ∧ (cutI (y ++ (shS (cutI (x ++ b.take b.length) 0 (widths [Seg.arr .u8 x] + b.length))).take 48) 0 (widths [Seg.arr .u8 y] + 48)).length ≤ 900000]) := by kernel_rfl
theorem r3_z1_q1 (k b : List Int) (k_ : Nat) : runN tyT r3O (atH 5 1 (isB true) (atH 8 3 (isB true) (atH 9 2 symH (atH 9 3 symH noH)))) [] 2000 0 [0, 1, 5, 7] [0, 1, 5, 6, 7] (inAt fR3 5 [] k_) (r3A 1 5 k b) = some (hdAt fR3 5 [] k_, r3S 1 5 k b [ixor .u8 (k.getD 0 0) 54] [ixor .u8 (k.getD 0 0) 92] 1 1 1, [tB true true, tB (decide ((0 : Int) < k.length)) true, 0 + k.length ≤ widths [Seg.arr .u8 k], (0 : Int) ≤ 0 ∧ 0 ≤ k.length - 1, 1 ≤ k.length, 0 < k.length]) := by kernel_rfl
theorem r3_z0_q1 (k b : List Int) (k_ : Nat) : runN tyT r3O (atH 5 1 (isB true) (atH 8 3 (isB false) noH)) [] 2000 0 [0, 1, 5, 7] [0, 1, 5, 6, 7] (inAt fR3 5 [] k_) (r3A 1 5 k b) = some (hdAt fR3 5 [] k_, r3S 1 5 k b [54] [92] 1 1 1, [tB true true, tB (decide ((0 : Int) < k.length)) false]) := by kernel_rfl
theorem r3_g1_q1 (k b x y : List Int) (lx ly i k_ : Nat) : runN tyT r3O (atH 5 1 (isB true) (atH 8 3 (isB true) (atH 9 2 symH (atH 9 3 symH (atH 10 4 symH (atH 11 4 symH (atH 6 1 (isI .i64 ((i + 1 : Nat) : Int)) noH))))))) [] 2000 0 [0, 1, 5, 7] [0, 1, 5, 6, 7] (inAt fR3 5 [] k_) (r3S 1 5 k b x y lx ly i) = some (hdAt fR3 5 [] k_, r3S 1 5 k b (x ++ [ixor .u8 (k.getD i 0) 54]) (y ++ [ixor .u8 (k.getD i 0) 92]) (widths [Seg.arr .u8 x] + 1) (widths [Seg.arr .u8 y] + 1) (i + 1), [tB (decide ((i : Int) < 128)) true, tB (decide ((i : Int) < k.length)) true, 0 + k.length ≤ widths [Seg.arr .u8 k], 0 ≤ (i : Int) ∧ i ≤ k.length - 1, 1 ≤ k.length, i < k.length, lx = widths [Seg.arr .u8 x], 1 ≤ 1, (widths [Seg.arr .u8 x] + 1) * 2 ≤ 140737488355328, ly = widths [Seg.arr .u8 y], 1 ≤ 1, (widths [Seg.arr .u8 y] + 1) * 2 ≤ 140737488355328, tI .i64 (IntKind.wrap .i64 ((i : Int) + 1)) ((i + 1 : Nat) : Int)]) := by kernel_rfl
theorem r3_g0_q1 (k b x y : List Int) (lx ly i k_ : Nat) : runN tyT r3O (atH 5 1 (isB true) (atH 8 3 (isB false) (atH 10 4 symH (atH 11 4 symH (atH 6 1 (isI .i64 ((i + 1 : Nat) : Int)) noH))))) [] 2000 0 [0, 1, 5, 7] [0, 1, 5, 6, 7] (inAt fR3 5 [] k_) (r3S 1 5 k b x y lx ly i) = some (hdAt fR3 5 [] k_, r3S 1 5 k b (x ++ [54]) (y ++ [92]) (widths [Seg.arr .u8 x] + 1) (widths [Seg.arr .u8 y] + 1) (i + 1), [tB (decide ((i : Int) < 128)) true, tB (decide ((i : Int) < k.length)) false, lx = widths [Seg.arr .u8 x], 1 ≤ 1, (widths [Seg.arr .u8 x] + 1) * 2 ≤ 140737488355328, ly = widths [Seg.arr .u8 y], 1 ≤ 1, (widths [Seg.arr .u8 y] + 1) * 2 ≤ 140737488355328, tI .i64 (IntKind.wrap .i64 ((i : Int) + 1)) ((i + 1 : Nat) : Int)]) := by kernel_rfl
theorem r3_end_q1 (k b x y : List Int) (lx ly k_ : Nat) : runN tyT r3O (atH 12 3 symH (atH 12 5 symH noH)) [] 2000 0 [7] [4] (inAt fR3 5 [] k_) (r3S 1 5 k b x y lx ly 128) = some ([.fin], r3E (shS (cutI (y ++ (shS (cutI (x ++ b.take b.length) 0 (widths [Seg.arr .u8 x] + b.length))).take 48) 0 (widths [Seg.arr .u8 y] + 48))), [lx = widths [Seg.arr .u8 x], 0 + b.length ≤ widths [Seg.arr .u8 b], (widths [Seg.arr .u8 x] + b.length) * 2 ≤ 140737488355328, 0 + (widths [Seg.arr .u8 x] + b.length) ≤ (x ++ b.take b.length).length, isBs (cutI (x ++ b.take b.length) 0 (widths [Seg.arr .u8 x] + b.length)) ∧ (cutI (x ++ b.take b.length) 0 (widths [Seg.arr .u8 x] + b.length)).length ≤ 900000, ly = widths [Seg.arr .u8 y], 48 ≤ widths [Seg.arr .u8 (shS (cutI (x ++ b.take b.length) 0 (widths [Seg.arr .u8 x] + b.length)))], (widths [Seg.arr .u8 y] + 48) * 2 ≤ 140737488355328, 0 + (widths [Seg.arr .u8 y] + 48) ≤ (y ++ (shS (cutI (x ++ b.take b.length) 0 (widths [Seg.arr .u8 x] + b.length))).take 48).length, isBs (cutI (y ++ (shS (cutI (x ++ b.take b.length) 0 (widths [Seg.arr .u8 x] + b.length))).take 48) 0 (widths [Seg.arr .u8 y] + 48)) ∧ (cutI (y ++ (shS (cutI (x ++ b.take b.length) 0 (widths [Seg.arr .u8 x] + b.length))).take 48) 0 (widths [Seg.arr .u8 y] + 48)).length ≤ 900000]) := by kernel_rfl
end Go.Proofs.YtmhmfmnjdbehcaaDoor.Am
/- The document's keyed sum: the contract. Conditions: none. -/
namespace Go.Proofs.YtmhmfmnjdbehcaaDoor.Am
set_option linter.unusedVariables false
set_option linter.unusedSimpArgs false
open Go Go.RowKit
set_option linter.unusedSectionVars false
variable [GT] [GRnd]
def pf (k : List Int) (c : Int) (j : Nat) : Int := ixor .u8 (g2 k j) c
theorem g2_out {k : List Int} {j : Nat} (h : k.length ≤ j) : g2 k j = 0 := by
  unfold g2
  rw [List.getD_eq_getElem?_getD, List.getElem?_eq_none h]
  rfl
theorem pf54 {k : List Int} {j : Nat} (h : k.length ≤ j) : pf k 54 j = 54 := by
  unfold pf
  rw [g2_out h]
  decide
theorem pf92 {k : List Int} {j : Nat} (h : k.length ≤ j) : pf k 92 j = 92 := by
  unfold pf
  rw [g2_out h]
  decide
theorem isBs_sha (s a : List Int) : isBs (shaL s a) := isBs_keyL fun i _ => wB_in _
theorem isBs_shS (a : List Int) : isBs (shS a) := isBs_keyL fun i _ => g2_in (isBs_sha _ _) i
theorem shS_len (a : List Int) : (shS a).length = 48 := keyL_len _ _
theorem isBs_pad (k : List Int) (c : Int) : isBs (padL k c) := isBs_keyL fun i _ => wB_in _
theorem isBs_mac (k a : List Int) : isBs (macL k a) := isBs_shS _
theorem pad_of (k : List Int) (c : Int) : keyL 128 (pf (kN k) c) = padL k c := rfl
theorem r3_rounds_q2 [G384] (kk b : List Int) (hk : kk.length ≤ 128) (hb : b.length ≤ 800000) (hbs : isBs b) : ∀ (r i : Nat), i + r = 128 → 1 ≤ i → Reaches Tryd.prog 0 (hdAt fR3 5 [] (r + 1)) (r3S 2 0 kk b (keyL i (pf kk 54)) (keyL i (pf kk 92)) i i i) [.fin] (r3E (shS (keyL 128 (pf kk 92) ++ shS (keyL 128 (pf kk 54) ++ b))))
  | 0, i, h, h1 => by
    obtain rfl : i = 128 := by omega
    have hrun := r3_end_q2 kk b (keyL 128 (pf kk 54)) (keyL 128 (pf kk 92)) 128 128 0
    have ex : isBs (keyL 128 (pf kk 54)) := isBs_keyL fun i _ => wB_in _
    have ey : isBs (keyL 128 (pf kk 92)) := isBs_keyL fun i _ => wB_in _
    have l1 : (keyL 128 (pf kk 54)).length = 128 := keyL_len _ _
    have l2 : (keyL 128 (pf kk 92)).length = 128 := keyL_len _ _
    generalize keyL 128 (pf kk 54) = x at hrun ex l1
    generalize keyL 128 (pf kk 92) = y at hrun ey l2
    have c1 : cutI (x ++ b) 0 (128 + b.length) = x ++ b := by
      have := cutI_all (x ++ b)
      rw [List.length_append, l1] at this
      exact this
    have t1 : (shS (x ++ b)).take 48 = shS (x ++ b) := List.take_of_length_le (by rw [shS_len]; omega)
    have c2 : cutI (y ++ shS (x ++ b)) 0 (128 + 48) = y ++ shS (x ++ b) := by
      have := cutI_all (y ++ shS (x ++ b))
      rw [List.length_append, l2, shS_len] at this
      exact this
    rw [List.take_length, widths_o, widths_o, widths_o, widths_o, l1, l2, c1, t1, c2] at hrun
    refine Reaches.oneK (Reaches.runK tyT_ok r3O_ok mixed_ hrun ?_)
    have hb1 := isBs_app ex hbs
    have hb2 := isBs_app ey (isBs_shS (x ++ b))
    simp only [allP_cons, allP_nil, and_true, true_and, hb1, hb2, List.length_append, l1, l2, shS_len]
    omega
  | r + 1, i, h, h1 => by
    have e5 := w64 (z := ((i : Nat) : Int) + 1) (by omega) (by omega)
    have ih := r3_rounds_q2 kk b hk hb hbs r (i + 1) (by omega) (by omega)
    by_cases hi : i < kk.length
    · have hrun := r3_g1_q2 kk b (keyL i (pf kk 54)) (keyL i (pf kk 92)) i i i (r + 1)
      rw [show ixor .u8 (kk.getD i 0) 54 = pf kk 54 i from rfl, show ixor .u8 (kk.getD i 0) 92 = pf kk 92 i from rfl, ← keyL_succ, ← keyL_succ, widths_o, widths_o, keyL_len, keyL_len] at hrun
      refine (Reaches.oneK (Reaches.runK tyT_ok r3O_ok mixed_ hrun ?_)).trans ih
      simp only [allP_cons, allP_nil, and_true, true_and, tB_lt, tI_iff, widths_o]
      omega
    · have hrun := r3_g0_q2 kk b (keyL i (pf kk 54)) (keyL i (pf kk 92)) i i i (r + 1)
      rw [widths_o, widths_o, keyL_len, keyL_len] at hrun
      rw [keyL_succ, keyL_succ, pf54 (by omega), pf92 (by omega)] at ih
      refine (Reaches.oneK (Reaches.runK tyT_ok r3O_ok mixed_ hrun ?_)).trans ih
      simp only [allP_cons, allP_nil, and_true, true_and, tB_lt, tB_nlt, tI_iff]
      omega
theorem r3_loop_q2 [G384] (kk b : List Int) (hk : kk.length ≤ 128) (hb : b.length ≤ 800000) (hbs : isBs b) : Reaches Tryd.prog 0 (toAt fR3 5 []) (r3A 2 0 kk b) [.fin] (r3E (shS (keyL 128 (pf kk 92) ++ shS (keyL 128 (pf kk 54) ++ b)))) := by
  have ih := r3_rounds_q2 kk b hk hb hbs 127 1 rfl (Nat.le_refl _)
  refine Reaches.roundsK 129 ?_
  by_cases hi : 0 < kk.length
  · refine (Reaches.oneK (Reaches.runK tyT_ok r3O_ok mixed_ (r3_z1_q2 kk b 128) ?_)).trans ih
    refine ⟨tB_iff.2 rfl, tB_lt.2 (by omega), ?_⟩
    simp only [allP_cons, allP_nil, and_true, true_and, widths_o]
    omega
  · have e1 : keyL 1 (pf kk 54) = [54] := by
      show [pf kk 54 0] = _
      rw [pf54 (by omega)]
    have e2 : keyL 1 (pf kk 92) = [92] := by
      show [pf kk 92 0] = _
      rw [pf92 (by omega)]
    rw [e1, e2] at ih
    refine (Reaches.oneK (Reaches.runK tyT_ok r3O_ok mixed_ (r3_z0_q2 kk b 128) ?_)).trans ih
    exact ⟨tB_iff.2 rfl, tB_nlt.2 (by omega), trivial⟩
theorem r3_rounds_q1 [G384] (kk b : List Int) (hk : kk.length ≤ 128) (hb : b.length ≤ 800000) (hbs : isBs b) : ∀ (r i : Nat), i + r = 128 → 1 ≤ i → Reaches Tryd.prog 0 (hdAt fR3 5 [] (r + 1)) (r3S 1 5 kk b (keyL i (pf kk 54)) (keyL i (pf kk 92)) i i i) [.fin] (r3E (shS (keyL 128 (pf kk 92) ++ shS (keyL 128 (pf kk 54) ++ b))))
  | 0, i, h, h1 => by
    obtain rfl : i = 128 := by omega
    have hrun := r3_end_q1 kk b (keyL 128 (pf kk 54)) (keyL 128 (pf kk 92)) 128 128 0
    have ex : isBs (keyL 128 (pf kk 54)) := isBs_keyL fun i _ => wB_in _
    have ey : isBs (keyL 128 (pf kk 92)) := isBs_keyL fun i _ => wB_in _
    have l1 : (keyL 128 (pf kk 54)).length = 128 := keyL_len _ _
    have l2 : (keyL 128 (pf kk 92)).length = 128 := keyL_len _ _
    generalize keyL 128 (pf kk 54) = x at hrun ex l1
    generalize keyL 128 (pf kk 92) = y at hrun ey l2
    have c1 : cutI (x ++ b) 0 (128 + b.length) = x ++ b := by
      have := cutI_all (x ++ b)
      rw [List.length_append, l1] at this
      exact this
    have t1 : (shS (x ++ b)).take 48 = shS (x ++ b) := List.take_of_length_le (by rw [shS_len]; omega)
    have c2 : cutI (y ++ shS (x ++ b)) 0 (128 + 48) = y ++ shS (x ++ b) := by
      have := cutI_all (y ++ shS (x ++ b))
      rw [List.length_append, l2, shS_len] at this
      exact this
    rw [List.take_length, widths_o, widths_o, widths_o, widths_o, l1, l2, c1, t1, c2] at hrun
    refine Reaches.oneK (Reaches.runK tyT_ok r3O_ok mixed_ hrun ?_)
    have hb1 := isBs_app ex hbs
    have hb2 := isBs_app ey (isBs_shS (x ++ b))
    simp only [allP_cons, allP_nil, and_true, true_and, hb1, hb2, List.length_append, l1, l2, shS_len]
    omega
  | r + 1, i, h, h1 => by
    have e5 := w64 (z := ((i : Nat) : Int) + 1) (by omega) (by omega)
    have ih := r3_rounds_q1 kk b hk hb hbs r (i + 1) (by omega) (by omega)
    by_cases hi : i < kk.length
    · have hrun := r3_g1_q1 kk b (keyL i (pf kk 54)) (keyL i (pf kk 92)) i i i (r + 1)
      rw [show ixor .u8 (kk.getD i 0) 54 = pf kk 54 i from rfl, show ixor .u8 (kk.getD i 0) 92 = pf kk 92 i from rfl, ← keyL_succ, ← keyL_succ, widths_o, widths_o, keyL_len, keyL_len] at hrun
      refine (Reaches.oneK (Reaches.runK tyT_ok r3O_ok mixed_ hrun ?_)).trans ih
      simp only [allP_cons, allP_nil, and_true, true_and, tB_lt, tI_iff, widths_o]
      omega
    · have hrun := r3_g0_q1 kk b (keyL i (pf kk 54)) (keyL i (pf kk 92)) i i i (r + 1)
      rw [widths_o, widths_o, keyL_len, keyL_len] at hrun
      rw [keyL_succ, keyL_succ, pf54 (by omega), pf92 (by omega)] at ih
      refine (Reaches.oneK (Reaches.runK tyT_ok r3O_ok mixed_ hrun ?_)).trans ih
      simp only [allP_cons, allP_nil, and_true, true_and, tB_lt, tB_nlt, tI_iff]
      omega
theorem r3_loop_q1 [G384] (kk b : List Int) (hk : kk.length ≤ 128) (hb : b.length ≤ 800000) (hbs : isBs b) : Reaches Tryd.prog 0 (toAt fR3 5 []) (r3A 1 5 kk b) [.fin] (r3E (shS (keyL 128 (pf kk 92) ++ shS (keyL 128 (pf kk 54) ++ b)))) := by
  have ih := r3_rounds_q1 kk b hk hb hbs 127 1 rfl (Nat.le_refl _)
  refine Reaches.roundsK 129 ?_
  by_cases hi : 0 < kk.length
  · refine (Reaches.oneK (Reaches.runK tyT_ok r3O_ok mixed_ (r3_z1_q1 kk b 128) ?_)).trans ih
    refine ⟨tB_iff.2 rfl, tB_lt.2 (by omega), ?_⟩
    simp only [allP_cons, allP_nil, and_true, true_and, widths_o]
    omega
  · have e1 : keyL 1 (pf kk 54) = [54] := by
      show [pf kk 54 0] = _
      rw [pf54 (by omega)]
    have e2 : keyL 1 (pf kk 92) = [92] := by
      show [pf kk 92 0] = _
      rw [pf92 (by omega)]
    rw [e1, e2] at ih
    refine (Reaches.oneK (Reaches.runK tyT_ok r3O_ok mixed_ (r3_z0_q1 kk b 128) ?_)).trans ih
    exact ⟨tB_iff.2 rfl, tB_nlt.2 (by omega), trivial⟩
def r3F : List CB → Option BR
  | [.sl .u8 k, .sl .u8 b] => some { pre := isBs k ∧ isBs b ∧ k.length ≤ 800000 ∧ b.length ≤ 800000, val := .av (.one (.r 0 0 48 0)), new := [⟨1, 5, [.arr .u8 (macL k b)]⟩] }
  | _ => none
theorem r3_ends [G384] (cbs : List CB) (r : BR) (hF : r3F cbs = some r) (hp : r.pre) : EndsB Tryd.prog tyT [] fR3 cbs r := by
  unfold r3F at hF
  split at hF
  · rename_i k b
    injection hF with hF
    subst hF
    obtain ⟨hk, hb, lk, lb⟩ : isBs k ∧ isBs b ∧ k.length ≤ 800000 ∧ b.length ≤ 800000 := hp
    intro κ
    have h : FromK Tryd.prog 0 fR3 (bA (r3B k b) 0 0) (bH κ (r3B k b) 0 0) 2 [] [.fin] (r3E (macL k b)) := by
      by_cases h128 : 128 < k.length
      · have hst := r3_long κ k b
        rw [cutI_all] at hst
        have ek : kN k = shS k := by unfold kN; rw [if_pos h128]; rfl
        have hl := r3_loop_q1 (shS k) b (by rw [shS_len]; omega) lb hb
        rw [← ek, pad_of, pad_of] at hl
        rw [← ek] at hst
        refine (FromK.run (m0 := 0) tyT_ok r3O_ok mixed_ hst ?_).trans hl
        simp only [allP_cons, allP_nil, and_true, tB_gt, hk, true_and]
        omega
      · have hst := r3_short κ k b
        have ek : kN k = k := by unfold kN; rw [if_neg h128]
        have hl := r3_loop_q2 k b (by omega) lb hb
        have e54 : keyL 128 (pf k 54) = padL k 54 := by rw [← pad_of, ek]
        have e92 : keyL 128 (pf k 92) = padL k 92 := by rw [← pad_of, ek]
        rw [e54, e92] at hl
        refine (FromK.run (m0 := 0) tyT_ok r3O_ok mixed_ hst ?_).trans hl
        simp only [allP_cons, allP_nil, and_true, tB_ngt]
        omega
    exact ⟨[.fin], _, .av (.one (.r 0 0 48 0)), [0], .inr rfl, h, by kernel_rfl, by kernel_rfl, by kernel_rfl⟩
  · cases hF
theorem r3sum_ent [G384] (sh : List ShB) (hs : sh.length = 2 := by rfl) : EntOK Tryd.prog 31 (entB sh r3F) :=
  ok_B tyT_ok Tryd.func31 (by kernel_rfl) (by kernel_rfl) [] (fun x hx => by cases hx) (by rw [hs]; kernel_rfl) r3_ends
end Go.Proofs.YtmhmfmnjdbehcaaDoor.Am
/- The keyed sums' Check. Conditions: none. -/
namespace Go.Proofs.YtmhmfmnjdbehcaaDoor.Am
set_option linter.unusedVariables false
set_option linter.unusedSimpArgs false
open Go Go.RowKit
set_option linter.unusedSectionVars false
variable [GT] [GRnd]
noncomputable abbrev fCk : Func := Tryd.f32
theorem cutM (k a : List Int) : cutI (macL k a) 0 48 = macL k a := by
  have := cutI_all (macL k a)
  rw [macL_len] at this
  exact this
/-- What Check answers. -/
def ckZ (b : Bool) : Int := if b then 0 else 8
def ckE (z : Int) : St := { tm := tmL 13 [(6, ofV (.int .i64 z))], hp := [], nx := 0, gl := [] }
noncomputable def ckO1 : List (Nat × Ent) := [(30, entB [.sl .u8, .rs [.sl .u8]] msF1), (43, entB [.sl .u8, .sl .u8] smF)]
theorem ckO1_ok [G384] : OOK Tryd.prog ckO1 := ook_of (l := [(30, entB [.sl .u8, .rs [.sl .u8]] msF1), (43, entB [.sl .u8, .sl .u8] smF)]) ⟨msum_ent1 _, same_ent _, trivial⟩
theorem ck_false1 (κ : Nat → Value) (k s : List Int) (cap : Nat) (p : List Int) : runF tyT ckO1 (atH 1 5 (isB true) noH) [] 0 [] [6] fCk (bA [.sl .u8 k, .sl .u8 s, .rs cap [.sl .u8 p]] 0 0) (bH κ [.sl .u8 k, .sl .u8 s, .rs cap [.sl .u8 p]] 0 0) 4 [] = some ([.fin], ckE 8, [0 + k.length ≤ k.length, 0 + p.length ≤ p.length, (cutI k 0 k.length).length ≤ 800000 ∧ (cutI p 0 p.length).length ≤ 800000, 0 + s.length ≤ s.length, 0 + 48 ≤ (macL (cutI k 0 k.length) ((cutI p 0 p.length))).length ∧ 48 ≤ 48, isBs (cutI s 0 s.length) ∧ isBs (cutI (macL (cutI k 0 k.length) ((cutI p 0 p.length))) 0 48) ∧ (cutI s 0 s.length).length ≤ 1000000, tB (!decide (cutI s 0 s.length = cutI (macL (cutI k 0 k.length) ((cutI p 0 p.length))) 0 48)) true]) := by kernel_rfl
theorem ck_true1 (κ : Nat → Value) (k s : List Int) (cap : Nat) (p : List Int) : runF tyT ckO1 (atH 1 5 (isB false) noH) [] 0 [] [6] fCk (bA [.sl .u8 k, .sl .u8 s, .rs cap [.sl .u8 p]] 0 0) (bH κ [.sl .u8 k, .sl .u8 s, .rs cap [.sl .u8 p]] 0 0) 4 [] = some ([.fin], ckE 0, [0 + k.length ≤ k.length, 0 + p.length ≤ p.length, (cutI k 0 k.length).length ≤ 800000 ∧ (cutI p 0 p.length).length ≤ 800000, 0 + s.length ≤ s.length, 0 + 48 ≤ (macL (cutI k 0 k.length) ((cutI p 0 p.length))).length ∧ 48 ≤ 48, isBs (cutI s 0 s.length) ∧ isBs (cutI (macL (cutI k 0 k.length) ((cutI p 0 p.length))) 0 48) ∧ (cutI s 0 s.length).length ≤ 1000000, tB (!decide (cutI s 0 s.length = cutI (macL (cutI k 0 k.length) ((cutI p 0 p.length))) 0 48)) false]) := by kernel_rfl
def ckF1 : List CB → Option BR
  | [.sl .u8 k, .sl .u8 s, .rs _ [.sl .u8 p]] => some { pre := isBs s ∧ s.length ≤ 1000000 ∧ k.length ≤ 800000 ∧ p.length ≤ 800000, val := .av (.one (.v (.int .i64 (ckZ (decide (s = macL k (p))))))) }
  | _ => none
theorem ck_ends1 [G384] (cbs : List CB) (r : BR) (hF : ckF1 cbs = some r) (hp : r.pre) : EndsB Tryd.prog tyT [] fCk cbs r := by
  unfold ckF1 at hF
  split at hF
  · rename_i k s cap p
    injection hF with hF
    subst hF
    obtain ⟨hs, ls, lk, hl⟩ : isBs s ∧ s.length ≤ 1000000 ∧ k.length ≤ 800000 ∧ p.length ≤ 800000 := hp
    intro κ
    have h : FromK Tryd.prog 0 fCk (bA [.sl .u8 k, .sl .u8 s, .rs cap [.sl .u8 p]] 0 0) (bH κ [.sl .u8 k, .sl .u8 s, .rs cap [.sl .u8 p]] 0 0) 4 [] [.fin] (ckE (ckZ (decide (s = macL k (p))))) := by
      have hm := isBs_mac k (p)
      have lm := macL_len k (p)
      by_cases he : s = macL k (p)
      · have hrun := ck_true1 κ k s cap p
        simp only [cutI_all, cutM] at hrun
        rw [decide_eq_true he]
        refine FromK.run (m0 := 0) tyT_ok ckO1_ok mixed_ hrun ?_
        simp only [allP_cons, allP_nil, and_true, true_and, tB_iff, decide_eq_true he, Bool.not_true, hs, hm, lm]
        omega
      · have hrun := ck_false1 κ k s cap p
        simp only [cutI_all, cutM] at hrun
        rw [decide_eq_false he]
        refine FromK.run (m0 := 0) tyT_ok ckO1_ok mixed_ hrun ?_
        simp only [allP_cons, allP_nil, and_true, true_and, tB_iff, decide_eq_false he, Bool.not_false, hs, hm, lm]
        omega
    exact ⟨[.fin], _, .av (.one (.v (.int .i64 (ckZ (decide (s = macL k (p))))))), [], .inr rfl, h, by kernel_rfl, by kernel_rfl, by kernel_rfl⟩
  · cases hF
theorem check_ent1 [G384] (sh : List ShB) (hs : sh.length = 3 := by rfl) : EntOK Tryd.prog 32 (entB sh ckF1) :=
  ok_B tyT_ok Tryd.func32 (by kernel_rfl) (by kernel_rfl) [] (fun x hx => by cases hx) (by rw [hs]; kernel_rfl) ck_ends1
noncomputable def ckO2 : List (Nat × Ent) := [(30, entB [.sl .u8, .rs [.sl .u8, .sl .u8]] msF2), (43, entB [.sl .u8, .sl .u8] smF)]
theorem ckO2_ok [G384] : OOK Tryd.prog ckO2 := ook_of (l := [(30, entB [.sl .u8, .rs [.sl .u8, .sl .u8]] msF2), (43, entB [.sl .u8, .sl .u8] smF)]) ⟨msum_ent2 _, same_ent _, trivial⟩
theorem ck_false2 (κ : Nat → Value) (k s : List Int) (cap : Nat) (p q : List Int) : runF tyT ckO2 (atH 1 5 (isB true) noH) [] 0 [] [6] fCk (bA [.sl .u8 k, .sl .u8 s, .rs cap [.sl .u8 p, .sl .u8 q]] 0 0) (bH κ [.sl .u8 k, .sl .u8 s, .rs cap [.sl .u8 p, .sl .u8 q]] 0 0) 5 [] = some ([.fin], ckE 8, [0 + k.length ≤ k.length, 0 + p.length ≤ p.length, 0 + q.length ≤ q.length, (cutI k 0 k.length).length ≤ 800000 ∧ (cutI p 0 p.length).length + (cutI q 0 q.length).length ≤ 800000, 0 + s.length ≤ s.length, 0 + 48 ≤ (macL (cutI k 0 k.length) ((cutI p 0 p.length) ++ (cutI q 0 q.length))).length ∧ 48 ≤ 48, isBs (cutI s 0 s.length) ∧ isBs (cutI (macL (cutI k 0 k.length) ((cutI p 0 p.length) ++ (cutI q 0 q.length))) 0 48) ∧ (cutI s 0 s.length).length ≤ 1000000, tB (!decide (cutI s 0 s.length = cutI (macL (cutI k 0 k.length) ((cutI p 0 p.length) ++ (cutI q 0 q.length))) 0 48)) true]) := by kernel_rfl
theorem ck_true2 (κ : Nat → Value) (k s : List Int) (cap : Nat) (p q : List Int) : runF tyT ckO2 (atH 1 5 (isB false) noH) [] 0 [] [6] fCk (bA [.sl .u8 k, .sl .u8 s, .rs cap [.sl .u8 p, .sl .u8 q]] 0 0) (bH κ [.sl .u8 k, .sl .u8 s, .rs cap [.sl .u8 p, .sl .u8 q]] 0 0) 5 [] = some ([.fin], ckE 0, [0 + k.length ≤ k.length, 0 + p.length ≤ p.length, 0 + q.length ≤ q.length, (cutI k 0 k.length).length ≤ 800000 ∧ (cutI p 0 p.length).length + (cutI q 0 q.length).length ≤ 800000, 0 + s.length ≤ s.length, 0 + 48 ≤ (macL (cutI k 0 k.length) ((cutI p 0 p.length) ++ (cutI q 0 q.length))).length ∧ 48 ≤ 48, isBs (cutI s 0 s.length) ∧ isBs (cutI (macL (cutI k 0 k.length) ((cutI p 0 p.length) ++ (cutI q 0 q.length))) 0 48) ∧ (cutI s 0 s.length).length ≤ 1000000, tB (!decide (cutI s 0 s.length = cutI (macL (cutI k 0 k.length) ((cutI p 0 p.length) ++ (cutI q 0 q.length))) 0 48)) false]) := by kernel_rfl
def ckF2 : List CB → Option BR
  | [.sl .u8 k, .sl .u8 s, .rs _ [.sl .u8 p, .sl .u8 q]] => some { pre := isBs s ∧ s.length ≤ 1000000 ∧ k.length ≤ 800000 ∧ p.length + q.length ≤ 800000, val := .av (.one (.v (.int .i64 (ckZ (decide (s = macL k (p ++ q))))))) }
  | _ => none
theorem ck_ends2 [G384] (cbs : List CB) (r : BR) (hF : ckF2 cbs = some r) (hp : r.pre) : EndsB Tryd.prog tyT [] fCk cbs r := by
  unfold ckF2 at hF
  split at hF
  · rename_i k s cap p q
    injection hF with hF
    subst hF
    obtain ⟨hs, ls, lk, hl⟩ : isBs s ∧ s.length ≤ 1000000 ∧ k.length ≤ 800000 ∧ p.length + q.length ≤ 800000 := hp
    intro κ
    have h : FromK Tryd.prog 0 fCk (bA [.sl .u8 k, .sl .u8 s, .rs cap [.sl .u8 p, .sl .u8 q]] 0 0) (bH κ [.sl .u8 k, .sl .u8 s, .rs cap [.sl .u8 p, .sl .u8 q]] 0 0) 5 [] [.fin] (ckE (ckZ (decide (s = macL k (p ++ q))))) := by
      have hm := isBs_mac k (p ++ q)
      have lm := macL_len k (p ++ q)
      by_cases he : s = macL k (p ++ q)
      · have hrun := ck_true2 κ k s cap p q
        simp only [cutI_all, cutM] at hrun
        rw [decide_eq_true he]
        refine FromK.run (m0 := 0) tyT_ok ckO2_ok mixed_ hrun ?_
        simp only [allP_cons, allP_nil, and_true, true_and, tB_iff, decide_eq_true he, Bool.not_true, hs, hm, lm]
        omega
      · have hrun := ck_false2 κ k s cap p q
        simp only [cutI_all, cutM] at hrun
        rw [decide_eq_false he]
        refine FromK.run (m0 := 0) tyT_ok ckO2_ok mixed_ hrun ?_
        simp only [allP_cons, allP_nil, and_true, true_and, tB_iff, decide_eq_false he, Bool.not_false, hs, hm, lm]
        omega
    exact ⟨[.fin], _, .av (.one (.v (.int .i64 (ckZ (decide (s = macL k (p ++ q))))))), [], .inr rfl, h, by kernel_rfl, by kernel_rfl, by kernel_rfl⟩
  · cases hF
theorem check_ent2 [G384] (sh : List ShB) (hs : sh.length = 3 := by rfl) : EntOK Tryd.prog 32 (entB sh ckF2) :=
  ok_B tyT_ok Tryd.func32 (by kernel_rfl) (by kernel_rfl) [] (fun x hx => by cases hx) (by rw [hs]; kernel_rfl) ck_ends2
end Go.Proofs.YtmhmfmnjdbehcaaDoor.Am
/- Opening arrays of bytes, and rows of them, at a law's call. Conditions: none. -/
namespace Go.Proofs.YtmhmfmnjdbehcaaDoor
set_option linter.unusedVariables false
set_option linter.unusedSimpArgs false
open Go Go.ChangeShapes Go.WideShapes Go.ChangeAt Go.RowKit

theorem own_ : ownKnob Tryd.prog.godebug = none := by kernel_rfl
theorem laidOut_ : laidOutB Tryd.prog = true := by kernel_rfl
theorem ints_of {k : IntKind} : ∀ l : List Value, (∀ i, i < l.length → ∃ z, l[i]? = some (.int k z) ∧ (Lit.int k z).wf = true) → ∃ bs : List Int, l = bs.map (Value.int k) ∧ ∀ z ∈ bs, (Lit.int k z).wf = true
  | [], _ => ⟨[], rfl, by simp⟩
  | x :: l, h => by
    obtain ⟨z, hz, hw⟩ := h 0 (by simp)
    obtain ⟨bs, hb, hbw⟩ := ints_of l fun i hi => by
      obtain ⟨z, hz, hw⟩ := h (i + 1) (by simp; omega)
      exact ⟨z, by simpa using hz, hw⟩
    simp only [List.getElem?_cons_zero, Option.some.injEq] at hz
    subst hz
    refine ⟨z :: bs, by rw [hb]; rfl, fun y hy => ?_⟩
    rcases List.mem_cons.1 hy with rfl | hy
    · exact hw
    · exact hbw y hy
/-- An array of integers that comes in. -/
theorem open_arr {H : Type} {enc : TypeId × Value → H} {W : World} {base : Nat} {b0 : Nat} {spare : Nat → Bool} {held : Bool} {v : Value} {d : DataW H} {ps : List MemPlace} {t e : TypeId} {n : Nat} {k : IntKind}
    (ht : Tryd.prog.underlying t = some (.array n e)) (he : Tryd.prog.underlying e = some (.int k)) (hct : Tryd.prog.cellsOf t = n) (hce : Tryd.prog.cellsOf e = 1)
    (hval : Value.okWide Tryd.prog W .any b0 t v) (h : DataW.Trod enc Tryd.prog W base spare held t v d ps) :
    ∃ bs : List Int, bs.length = n ∧ (∀ z ∈ bs, (Lit.int k z).wf = true) ∧ v = .agg (bs.map (Value.int k)).toArray := by
  obtain ⟨cs, rfl, hsz, _⟩ : ∃ cs, v = .agg cs ∧ cs.size = Tryd.prog.cellsOf t ∧ Row.okWide Tryd.prog W .any b0 t cs := by
    simpa [Value.okWide, ht] using hval
  rw [hct] at hsz
  obtain ⟨fuel, hf⟩ := h
  obtain ⟨xs, m, _, _, hl, hxs, hel⟩ := DataW.trod_array ht hf
  obtain ⟨l⟩ := cs
  have hl' : l.length = n := hsz
  have hc : (Value.agg ⟨l⟩).cells.toList = l := rfl
  obtain ⟨bs, hb, hw⟩ := ints_of (k := k) l fun i hi => by
    have := hel i (by omega)
    rw [hc, hce, Nat.mul_one, List.getElem?_eq_getElem (by omega)] at this
    obtain ⟨z, hz, _, hzw⟩ := DataW.trod_int he this
    refine ⟨z, ?_, hzw⟩
    have h2 := congrArg (fun q => q[0]?) hz
    simpa [List.getElem?_take, List.getElem?_drop] using h2
  exact ⟨bs, by rw [hb] at hl'; simpa using hl', hw, by rw [hb]⟩

/-- What is known of a row of integers that came in. -/
def IsRow (k : IntKind) (w : World) (a : Option Addr) (len cap : Nat) (zs : List Int) : Prop :=
  (a = none ∧ len = 0 ∧ cap = 0 ∧ zs = []) ∨
  ∃ x, a = some x ∧ len ≤ cap ∧ cap ≤ maxLen ∧ zs.length = cap ∧ (∀ i, i < zs.length → w.cell? (x.add i) = some (.int k (zs.getD i 0))) ∧ ∀ n ∈ zs, (Lit.int k n).wf = true

end Go.Proofs.YtmhmfmnjdbehcaaDoor
/- Opening slices of integers at a law's call, as the machine takes them; and a law's call. Conditions: none. -/
namespace Go.Proofs.YtmhmfmnjdbehcaaDoor
set_option linter.unusedVariables false
set_option linter.unusedSimpArgs false
open Go Go.ChangeShapes Go.WideShapes Go.ChangeAt Go.RowKit

theorem has_lt {P : Program} {w : World} {r : Reach} {base : Nat} {a : Addr} {e : TypeId} {n : Nat} (h : w.has P r base a e n) : a.block < w.heap.size := by
  obtain ⟨_, _, row, cells, hs, _⟩ := h
  unfold World.shape? at hs
  split at hs
  · rename_i hb
    exact (Array.getElem?_eq_some_iff.1 hb).1
  all_goals first | cases hs | (rename_i hb; exact (Array.getElem?_eq_some_iff.1 hb).1)
/-- A slice of integers that comes in. -/
theorem open_sl {H : Type} {enc : TypeId × Value → H} {W : World} {base : Nat} {b0 : Nat} {spare : Nat → Bool} {held : Bool} {v : Value} {d : DataW H} {ps : List MemPlace} {t e : TypeId} {k : IntKind}
    (ht : Tryd.prog.underlying t = some (.slice e)) (he : Tryd.prog.underlying e = some (.int k)) (hce : Tryd.prog.cellsOf e = 1)
    (hval : Value.okWide Tryd.prog W .any b0 t v) (h : DataW.Trod enc Tryd.prog W base spare held t v d ps) :
    ∃ a cap, ∃ zs : List Int, v = .slice a zs.length cap ∧ Am.RowAt W ⟨a, cap⟩ k zs ∧ ∀ z ∈ zs, (Lit.int k z).wf = true := by
  obtain ⟨a, len, cap, rfl⟩ := okWide_slice ht hval
  have hlt : ∀ x, a = some x → x.block < W.heap.size := fun x hx => by
    subst hx
    simp only [Value.okWide, ht, Cell.okWide, Cell.ok] at hval
    exact has_lt hval.2.2
  obtain ⟨fuel, hf⟩ := h
  rcases open_ints ht he hce hf with ⟨hcs, _⟩ | ⟨x, l, c, zs, hcs, _, hl, hm, hz, _, hcell, hwz⟩
  · simp [Value.cells] at hcs
    obtain ⟨rfl, rfl, rfl⟩ := hcs
    exact ⟨none, 0, [], rfl, ⟨Nat.le_refl _, .inl rfl, fun x hx => by cases hx⟩, by simp⟩
  · simp [Value.cells] at hcs
    obtain ⟨rfl, rfl, rfl⟩ := hcs
    have hzl : len ≤ zs.length := by rw [hz]; split <;> omega
    have hlen : (zs.take len).length = len := by rw [List.length_take]; omega
    refine ⟨some x, cap, zs.take len, by rw [hlen], ⟨by rw [hlen]; exact hl, .inr ⟨x, rfl, fun j u hj => ?_⟩, hlt⟩, fun z hz' => hwz z (List.mem_of_mem_take hz')⟩
    have hjl : j < len := by
      have := (List.getElem?_eq_some_iff.1 hj).1
      rw [List.length_map, hlen] at this; exact this
    rw [List.getElem?_map, List.getElem?_take, if_pos hjl, List.getElem?_eq_getElem (by omega)] at hj
    simp only [Option.map_some, Option.some.injEq] at hj
    subst hj
    have := hcell j (by omega)
    simpa [List.getD_eq_getElem?_getD, List.getElem?_eq_getElem (show j < zs.length by omega)] using this
end Go.Proofs.YtmhmfmnjdbehcaaDoor
namespace Go.Proofs.YtmhmfmnjdbehcaaDoor.Am
open Go Go.RowKit
variable [GT]
omit [GT] in
/-- Rows that come in, as blocks to be read. -/
def rowsH : List (Loc × IntKind × List Int) → Nat → List (Nat × Blk)
  | [], _ => []
  | (_, k, zs) :: l, n => (n, ⟨2, 0, [.arr k zs]⟩) :: rowsH l (n + 1)
omit [GT] in
theorem rowsH_spec : ∀ (l : List (Loc × IntKind × List Int)) (n i : Nat) (b : Blk), look (rowsH l n) i = some b → n ≤ i ∧ i < n + l.length ∧ ∃ x, l[i - n]? = some x ∧ b = ⟨2, 0, [.arr x.2.1 x.2.2]⟩
  | [], n, i, b, h => by cases h
  | (g, k, zs) :: l, n, i, b, h => by
    simp only [rowsH, look_cons] at h
    by_cases hi : n = i
    · subst hi
      rw [if_pos rfl] at h
      injection h with h
      subst h
      exact ⟨Nat.le_refl _, by simp, (g, k, zs), by simp, rfl⟩
    · rw [if_neg hi] at h
      obtain ⟨h1, h2, x, hx, hb⟩ := rowsH_spec l (n + 1) i b h
      refine ⟨by omega, by simp only [List.length_cons]; omega, x, ?_, hb⟩
      rw [show i - n = (i - (n + 1)) + 1 by omega, List.getElem?_cons_succ]
      exact hx
theorem hr_rows {w : World} (l : List (Loc × IntKind × List Int)) (h : ∀ x ∈ l, RowAt w x.1 x.2.1 x.2.2) (hgw : GWok w.heap.size [] w) : HR (fun i => (l.map (·.1)).getD i ⟨none, 0⟩) (· < l.length) w.heap.size [] (look (rowsH l 0)) w := by
  have hall : ∀ i b, look (rowsH l 0) i = some b → i < l.length ∧ ∃ k zs, b = ⟨2, 0, [.arr k zs]⟩ ∧ RowAt w ((l.map (·.1)).getD i ⟨none, 0⟩) k zs := fun i b hb => by
    obtain ⟨_, h2, x, hx, rfl⟩ := rowsH_spec _ _ _ _ hb
    rw [Nat.sub_zero] at hx
    refine ⟨by omega, _, _, rfl, ?_⟩
    have e : (l.map (·.1)).getD i ⟨none, 0⟩ = x.1 := by simp [List.getD_eq_getElem?_getD, hx]
    rw [e]
    exact h x (List.mem_of_getElem? hx)
  refine ⟨Nat.le_refl _, fun i b hb => ?_, fun i b x hb hx => ?_, fun i b x hb hk hx => ?_, fun i j bi bj x y hi hj hij hk hx hy => ?_, hgw⟩
  · obtain ⟨h2, k, zs, rfl, h3, h4, _⟩ := hall i b hb
    refine ⟨h2, fun s hs => (by simp at hs; subst hs; trivial), ?_⟩
    show (segsVals _ _).length ≤ _ ∧ _
    rw [segsVals_one]
    refine ⟨by simpa [Seg.vals] using h3, ?_⟩
    rcases h4 with rfl | h4
    · exact .inl rfl
    · exact .inr h4
  · obtain ⟨_, k, zs, rfl, _, _, h5⟩ := hall i b hb
    exact h5 x hx
  · obtain ⟨_, k, zs, rfl, _⟩ := hall i b hb
    simp at hk
  · obtain ⟨_, k, zs, rfl, _⟩ := hall i bi hi
    simp at hk
/-- A law's run that ends in true. -/
theorem law_reach {f : FuncId} {fn : Func} (hf : Tryd.prog.funcs[f]? = some fn) {avs : List SV} {hp : List (Nat × Blk)} {k : Nat} {todo : List AI} {st : St} (hR : From Tryd.prog fn avs hp k [] todo st) (hfin : todo = [] ∨ todo = [.fin]) (hv : resVal tyT st fn.results.toList = some (ofV (.bool true))) (hlen : Nat.ble avs.length fn.ntmps = true) (hin : avs.all (svB fun i => Nat.blt i k) = true) {ρc : Nat → Loc} {w : World} (hG : HR ρc (· < k) w.heap.size [] (look hp) w) :
    Calls Tryd.prog f (avs.map (SV.conc ρc)).toArray w fun e w' => e = .returned (.bool true) ∧ Below w.heap.size w w' := by
  obtain ⟨c, hc, hRe⟩ := hR
  exact reach_val tyT_ok hf hc hfin hRe hv (by rfl) hlen (fun s hs => svB_in (f := fun i => Nat.blt i k) (fun i h => Nat.le_of_ble_eq_true h) (List.all_eq_true.1 hin s hs)) hG (fun _ => ⟨none, 0⟩)
omit [GT] in
theorem conc_s0 {ρ : Nat → Loc} {i n cap : Nat} : SV.conc ρ (.av (.one (.s i 0 n cap))) = .slice (ρ i).a n cap := by
  simp only [SV.conc, AV.conc, Seg.conc]
  cases (ρ i).a <;> simp [Addr.add]
end Go.Proofs.YtmhmfmnjdbehcaaDoor.Am
/- Law 03's awake. Conditions: none. -/
namespace Go.Proofs.YtmhmfmnjdbehcaaDoor.Am
set_option linter.unusedVariables false
set_option linter.unusedSimpArgs false
open Go Go.RowKit
set_option linter.unusedSectionVars false
section
variable [GT] [GRnd]
noncomputable def exO0 : List (Nat × Ent) := [(30, entB [.sl .u8, .rs [.sl .u8]] msF1)]
theorem exO0_ok [G384] : OOK Tryd.prog exO0 := ook_of (l := [(30, entB [.sl .u8, .rs [.sl .u8]] msF1)]) ⟨msum_ent1 _, trivial⟩
noncomputable def eExp0 : Ent := inl tyT exO0 noH [(8, 1)] 2000 Tryd.f28 []
theorem exp0_ent [G384] : EntOK Tryd.prog 28 eExp0 := inl_ok tyT_ok exO0_ok mixed_ Tryd.func28 (by kernel_rfl) (by kernel_rfl) _
noncomputable def aw3O : List (Nat × Ent) := [(28, eExp0), (30, entB [.sl .u8, .av] msF0)]
theorem aw3O_ok [G384] : OOK Tryd.prog aw3O := ook_of (l := [(28, eExp0), (30, entB [.sl .u8, .av] msF0)]) ⟨exp0_ent, msum_ent0 _, trivial⟩
noncomputable def eAwake3 : Ent := inl tyT aw3O noH [] 2000 Tryd.f27 []
theorem awake3_ent [G384] : EntOK Tryd.prog 27 eAwake3 := inl_ok tyT_ok aw3O_ok mixed_ Tryd.func27 (by kernel_rfl) (by kernel_rfl) _
/-- What awake leans on. -/
def aw3P : List Prop := [0 + 48 ≤ (List.replicate 48 (0 : Int)).length ∧ 48 ≤ 48, 1 ≤ 1, (cutI (List.replicate 48 (0 : Int)) 0 48).length ≤ 800000 ∧ (cutI [(107 : Int)] 0 1).length ≤ 800000, 1 ≤ 1, (cutI [(107 : Int)] 0 1).length ≤ 800000]
noncomputable abbrev fA3 : Func := Tryd.f27
theorem aw3_run : runF tyT aw3O noH [] 0 [] [0] fA3 [] [] 0 [] = some ([.fin], { tm := tmL 23 [(0, ofV (.bool true))], hp := [], nx := 0, gl := [] }, aw3P) := by kernel_rfl
end
end Go.Proofs.YtmhmfmnjdbehcaaDoor.Am
/- Law 03's Sums: the runs. Conditions: none. -/
namespace Go.Proofs.YtmhmfmnjdbehcaaDoor.Am
set_option linter.unusedVariables false
set_option linter.unusedSimpArgs false
open Go Go.RowKit
set_option linter.unusedSectionVars false
section
variable [GT] [GRnd]
noncomputable abbrev fLM : Func := Tryd.f10
noncomputable def lmO : List (Nat × Ent) := [(27, eAwake3), (31, entB [.sl .u8, .sl .u8] r3F), (30, entB [.sl .u8, .rs [.sl .u8, .sl .u8]] msF2), (32, eOr (entB [.sl .u8, .sl .u8, .rs [.sl .u8]] ckF1) (entB [.sl .u8, .sl .u8, .rs [.sl .u8, .sl .u8]] ckF2))]
theorem lmO_ok [G384] : OOK Tryd.prog lmO := ook_of (l := [(27, eAwake3), (31, entB [.sl .u8, .sl .u8] r3F), (30, entB [.sl .u8, .rs [.sl .u8, .sl .u8]] msF2), (32, eOr (entB [.sl .u8, .sl .u8, .rs [.sl .u8]] ckF1) (entB [.sl .u8, .sl .u8, .rs [.sl .u8, .sl .u8]] ckF2))]) ⟨awake3_ent, r3sum_ent _, msum_ent2 _, eOr_ok (check_ent1 _) (check_ent2 _), trivial⟩
def lmA (k p q o : List Int) (ck cp cq co : Nat) : List SV := [.av (.one (.s 0 0 k.length ck)), .av (.agg [.s 1 0 p.length cp, .s 2 0 q.length cq]), .av (.one (.s 3 0 o.length co))]
def lmP (k p q o : List Int) : List (Nat × Blk) := [(0, ⟨2, 0, [.arr .u8 k]⟩), (1, ⟨2, 0, [.arr .u8 p]⟩), (2, ⟨2, 0, [.arr .u8 q]⟩), (3, ⟨2, 0, [.arr .u8 o]⟩)]
def lmE (k p q o : List Int) (b : Bool) : St := { tm := tmL 94 [(6, ofV (.bool b))], hp := lmP k p q o, nx := 4, gl := [] }
theorem lm_long0 (k p q o : List Int) (ck cp cq co : Nat) : runF tyT lmO (atH 1 7 (isB true) noH) [] 4 [] [6] fLM (lmA k p q o ck cp cq co) (lmP k p q o) 4 [] = some ([.fin], lmE k p q o true, [0 + 48 ≤ (List.replicate 48 (0 : Int)).length ∧ 48 ≤ 48, 1 ≤ 1, (cutI (List.replicate 48 (0 : Int)) 0 48).length ≤ 800000 ∧ (cutI [(107 : Int)] 0 1).length ≤ 800000, 1 ≤ 1, (cutI [(107 : Int)] 0 1).length ≤ 800000, tB (decide ((k.length : Int) > 400)) true, 0 + 48 ≤ (List.replicate 48 (0 : Int)).length ∧ 48 ≤ 48, 1 ≤ 1, (cutI (List.replicate 48 (0 : Int)) 0 48).length ≤ 800000 ∧ (cutI [(107 : Int)] 0 1).length ≤ 800000, 1 ≤ 1, (cutI [(107 : Int)] 0 1).length ≤ 800000]) := by kernel_rfl
theorem lm_long1 (k p q o : List Int) (ck cp cq co : Nat) : runF tyT lmO (atH 1 7 (isB false) (atH 1 13 (isB true) noH)) [] 4 [] [6] fLM (lmA k p q o ck cp cq co) (lmP k p q o) 4 [] = some ([.fin], lmE k p q o true, [0 + 48 ≤ (List.replicate 48 (0 : Int)).length ∧ 48 ≤ 48, 1 ≤ 1, (cutI (List.replicate 48 (0 : Int)) 0 48).length ≤ 800000 ∧ (cutI [(107 : Int)] 0 1).length ≤ 800000, 1 ≤ 1, (cutI [(107 : Int)] 0 1).length ≤ 800000, tB (decide ((k.length : Int) > 400)) false, tB (decide ((p.length : Int) > 200)) true, 0 + 48 ≤ (List.replicate 48 (0 : Int)).length ∧ 48 ≤ 48, 1 ≤ 1, (cutI (List.replicate 48 (0 : Int)) 0 48).length ≤ 800000 ∧ (cutI [(107 : Int)] 0 1).length ≤ 800000, 1 ≤ 1, (cutI [(107 : Int)] 0 1).length ≤ 800000]) := by kernel_rfl
theorem lm_long2 (k p q o : List Int) (ck cp cq co : Nat) : runF tyT lmO (atH 1 7 (isB false) (atH 1 13 (isB false) (atH 1 19 (isB true) noH))) [] 4 [] [6] fLM (lmA k p q o ck cp cq co) (lmP k p q o) 4 [] = some ([.fin], lmE k p q o true, [0 + 48 ≤ (List.replicate 48 (0 : Int)).length ∧ 48 ≤ 48, 1 ≤ 1, (cutI (List.replicate 48 (0 : Int)) 0 48).length ≤ 800000 ∧ (cutI [(107 : Int)] 0 1).length ≤ 800000, 1 ≤ 1, (cutI [(107 : Int)] 0 1).length ≤ 800000, tB (decide ((k.length : Int) > 400)) false, tB (decide ((p.length : Int) > 200)) false, tB (decide ((q.length : Int) > 200)) true, 0 + 48 ≤ (List.replicate 48 (0 : Int)).length ∧ 48 ≤ 48, 1 ≤ 1, (cutI (List.replicate 48 (0 : Int)) 0 48).length ≤ 800000 ∧ (cutI [(107 : Int)] 0 1).length ≤ 800000, 1 ≤ 1, (cutI [(107 : Int)] 0 1).length ≤ 800000]) := by kernel_rfl
theorem lm_long3 (k p q o : List Int) (ck cp cq co : Nat) : runF tyT lmO (atH 1 7 (isB false) (atH 1 13 (isB false) (atH 1 19 (isB false) (atH 1 23 (isB true) noH)))) [] 4 [] [6] fLM (lmA k p q o ck cp cq co) (lmP k p q o) 4 [] = some ([.fin], lmE k p q o true, [0 + 48 ≤ (List.replicate 48 (0 : Int)).length ∧ 48 ≤ 48, 1 ≤ 1, (cutI (List.replicate 48 (0 : Int)) 0 48).length ≤ 800000 ∧ (cutI [(107 : Int)] 0 1).length ≤ 800000, 1 ≤ 1, (cutI [(107 : Int)] 0 1).length ≤ 800000, tB (decide ((k.length : Int) > 400)) false, tB (decide ((p.length : Int) > 200)) false, tB (decide ((q.length : Int) > 200)) false, tB (decide ((o.length : Int) > 100)) true, 0 + 48 ≤ (List.replicate 48 (0 : Int)).length ∧ 48 ≤ 48, 1 ≤ 1, (cutI (List.replicate 48 (0 : Int)) 0 48).length ≤ 800000 ∧ (cutI [(107 : Int)] 0 1).length ≤ 800000, 1 ≤ 1, (cutI [(107 : Int)] 0 1).length ≤ 800000]) := by kernel_rfl
theorem lm_true (k p q o : List Int) (ck cp cq co : Nat) : runF tyT lmO (atH 1 7 (isB false) (atH 1 13 (isB false) (atH 1 19 (isB false) (atH 1 23 (isB false) (atH 3 3 symH (atH 3 6 symH (atH 8 1 symH (atH 8 3 symH (atH 8 5 (isB true) (atH 8 9 (isB true) (atH 8 13 symH (atH 8 15 symH (atH 8 19 (isB true) (atH 8 22 (isB true) noH)))))))))))))) [] 4 [] [6] fLM (lmA k p q o ck cp cq co) (lmP k p q o) 4 [] = some ([.fin], lmE k p q o true, [0 + 48 ≤ (List.replicate 48 (0 : Int)).length ∧ 48 ≤ 48, 1 ≤ 1, (cutI (List.replicate 48 (0 : Int)) 0 48).length ≤ 800000 ∧ (cutI [(107 : Int)] 0 1).length ≤ 800000, 1 ≤ 1, (cutI [(107 : Int)] 0 1).length ≤ 800000, tB (decide ((k.length : Int) > 400)) false, tB (decide ((p.length : Int) > 200)) false, tB (decide ((q.length : Int) > 200)) false, tB (decide ((o.length : Int) > 100)) false, 0 = widths [] ∧ 0 = widths [], 0 + p.length ≤ widths [Seg.arr .u8 p], (0 + p.length) * 2 ≤ 140737488355328, 0 + p.length = widths [Seg.arr .u8 (p.take p.length)], 0 + q.length ≤ widths [Seg.arr .u8 q], (widths [Seg.arr .u8 (p.take p.length)] + q.length) * 2 ≤ 140737488355328, 0 + k.length ≤ k.length ∧ k.length ≤ ck, 0 + (widths [Seg.arr .u8 (p.take p.length)] + q.length) ≤ (p.take p.length ++ q.take q.length).length, isBs (cutI k 0 k.length) ∧ isBs (cutI (p.take p.length ++ q.take q.length) 0 (widths [Seg.arr .u8 (p.take p.length)] + q.length)) ∧ (cutI k 0 k.length).length ≤ 800000 ∧ (cutI (p.take p.length ++ q.take q.length) 0 (widths [Seg.arr .u8 (p.take p.length)] + q.length)).length ≤ 800000, 0 + k.length ≤ k.length ∧ k.length ≤ ck, 0 + p.length ≤ p.length ∧ p.length ≤ cp, 0 + q.length ≤ q.length ∧ q.length ≤ cq, (cutI k 0 k.length).length ≤ 800000 ∧ (cutI p 0 p.length).length + (cutI q 0 q.length).length ≤ 800000, 0 + k.length ≤ k.length ∧ k.length ≤ ck, 0 + 48 ≤ (macL (cutI k 0 k.length) (cutI (p.take p.length ++ q.take q.length) 0 (widths [Seg.arr .u8 (p.take p.length)] + q.length))).length, 0 + p.length ≤ p.length ∧ p.length ≤ cp, 0 + q.length ≤ q.length ∧ q.length ≤ cq, isBs (cutI (macL (cutI k 0 k.length) (cutI (p.take p.length ++ q.take q.length) 0 (widths [Seg.arr .u8 (p.take p.length)] + q.length))) 0 48) ∧ (cutI (macL (cutI k 0 k.length) (cutI (p.take p.length ++ q.take q.length) 0 (widths [Seg.arr .u8 (p.take p.length)] + q.length))) 0 48).length ≤ 1000000 ∧ (cutI k 0 k.length).length ≤ 800000 ∧ (cutI p 0 p.length).length + (cutI q 0 q.length).length ≤ 800000, 0 + k.length ≤ k.length ∧ k.length ≤ ck, 0 + o.length ≤ o.length ∧ o.length ≤ co, 0 + (widths [Seg.arr .u8 (p.take p.length)] + q.length) ≤ (p.take p.length ++ q.take q.length).length, isBs (cutI o 0 o.length) ∧ (cutI o 0 o.length).length ≤ 1000000 ∧ (cutI k 0 k.length).length ≤ 800000 ∧ (cutI (p.take p.length ++ q.take q.length) 0 (widths [Seg.arr .u8 (p.take p.length)] + q.length)).length ≤ 800000, 48 ≤ widths [Seg.arr .u8 (macL (cutI k 0 k.length) (cutI p 0 p.length ++ cutI q 0 q.length))], 0 + 48 ≤ widths [Seg.arr .u8 (macL (cutI k 0 k.length) (cutI (p.take p.length ++ q.take q.length) 0 (widths [Seg.arr .u8 (p.take p.length)] + q.length)))], tB ((strOf ((macL (cutI k 0 k.length) (cutI p 0 p.length ++ cutI q 0 q.length)).take 48 ++ [])).toList == (strOf ((macL (cutI k 0 k.length) (cutI (p.take p.length ++ q.take q.length) 0 (widths [Seg.arr .u8 (p.take p.length)] + q.length))).take 48 ++ [])).toList) true, tB (ckZ (decide (cutI (macL (cutI k 0 k.length) (cutI (p.take p.length ++ q.take q.length) 0 (widths [Seg.arr .u8 (p.take p.length)] + q.length))) 0 48 = (macL (cutI k 0 k.length) (cutI p 0 p.length ++ cutI q 0 q.length)))) == 0) true, 0 + o.length ≤ widths [Seg.arr .u8 o], 0 + 48 ≤ widths [Seg.arr .u8 (macL (cutI k 0 k.length) (cutI (p.take p.length ++ q.take q.length) 0 (widths [Seg.arr .u8 (p.take p.length)] + q.length)))], tB ((ckZ (decide (cutI o 0 o.length = (macL (cutI k 0 k.length) (cutI (p.take p.length ++ q.take q.length) 0 (widths [Seg.arr .u8 (p.take p.length)] + q.length))))) == 0) == ((strOf (o.take o.length ++ [])).toList == (strOf ((macL (cutI k 0 k.length) (cutI (p.take p.length ++ q.take q.length) 0 (widths [Seg.arr .u8 (p.take p.length)] + q.length))).take 48 ++ [])).toList)) true, tB (ckZ (decide (cutI o 0 o.length = (macL (cutI k 0 k.length) (cutI (p.take p.length ++ q.take q.length) 0 (widths [Seg.arr .u8 (p.take p.length)] + q.length))))) == 0) true]) := by kernel_rfl
theorem lm_false (k p q o : List Int) (ck cp cq co : Nat) : runF tyT lmO (atH 1 7 (isB false) (atH 1 13 (isB false) (atH 1 19 (isB false) (atH 1 23 (isB false) (atH 3 3 symH (atH 3 6 symH (atH 8 1 symH (atH 8 3 symH (atH 8 5 (isB true) (atH 8 9 (isB true) (atH 8 13 symH (atH 8 15 symH (atH 8 19 (isB true) (atH 8 22 (isB false) noH)))))))))))))) [] 4 [] [6] fLM (lmA k p q o ck cp cq co) (lmP k p q o) 4 [] = some ([.fin], lmE k p q o (ckZ (decide (cutI o 0 o.length = (macL (cutI k 0 k.length) (cutI (p.take p.length ++ q.take q.length) 0 (widths [Seg.arr .u8 (p.take p.length)] + q.length))))) == 8), [0 + 48 ≤ (List.replicate 48 (0 : Int)).length ∧ 48 ≤ 48, 1 ≤ 1, (cutI (List.replicate 48 (0 : Int)) 0 48).length ≤ 800000 ∧ (cutI [(107 : Int)] 0 1).length ≤ 800000, 1 ≤ 1, (cutI [(107 : Int)] 0 1).length ≤ 800000, tB (decide ((k.length : Int) > 400)) false, tB (decide ((p.length : Int) > 200)) false, tB (decide ((q.length : Int) > 200)) false, tB (decide ((o.length : Int) > 100)) false, 0 = widths [] ∧ 0 = widths [], 0 + p.length ≤ widths [Seg.arr .u8 p], (0 + p.length) * 2 ≤ 140737488355328, 0 + p.length = widths [Seg.arr .u8 (p.take p.length)], 0 + q.length ≤ widths [Seg.arr .u8 q], (widths [Seg.arr .u8 (p.take p.length)] + q.length) * 2 ≤ 140737488355328, 0 + k.length ≤ k.length ∧ k.length ≤ ck, 0 + (widths [Seg.arr .u8 (p.take p.length)] + q.length) ≤ (p.take p.length ++ q.take q.length).length, isBs (cutI k 0 k.length) ∧ isBs (cutI (p.take p.length ++ q.take q.length) 0 (widths [Seg.arr .u8 (p.take p.length)] + q.length)) ∧ (cutI k 0 k.length).length ≤ 800000 ∧ (cutI (p.take p.length ++ q.take q.length) 0 (widths [Seg.arr .u8 (p.take p.length)] + q.length)).length ≤ 800000, 0 + k.length ≤ k.length ∧ k.length ≤ ck, 0 + p.length ≤ p.length ∧ p.length ≤ cp, 0 + q.length ≤ q.length ∧ q.length ≤ cq, (cutI k 0 k.length).length ≤ 800000 ∧ (cutI p 0 p.length).length + (cutI q 0 q.length).length ≤ 800000, 0 + k.length ≤ k.length ∧ k.length ≤ ck, 0 + 48 ≤ (macL (cutI k 0 k.length) (cutI (p.take p.length ++ q.take q.length) 0 (widths [Seg.arr .u8 (p.take p.length)] + q.length))).length, 0 + p.length ≤ p.length ∧ p.length ≤ cp, 0 + q.length ≤ q.length ∧ q.length ≤ cq, isBs (cutI (macL (cutI k 0 k.length) (cutI (p.take p.length ++ q.take q.length) 0 (widths [Seg.arr .u8 (p.take p.length)] + q.length))) 0 48) ∧ (cutI (macL (cutI k 0 k.length) (cutI (p.take p.length ++ q.take q.length) 0 (widths [Seg.arr .u8 (p.take p.length)] + q.length))) 0 48).length ≤ 1000000 ∧ (cutI k 0 k.length).length ≤ 800000 ∧ (cutI p 0 p.length).length + (cutI q 0 q.length).length ≤ 800000, 0 + k.length ≤ k.length ∧ k.length ≤ ck, 0 + o.length ≤ o.length ∧ o.length ≤ co, 0 + (widths [Seg.arr .u8 (p.take p.length)] + q.length) ≤ (p.take p.length ++ q.take q.length).length, isBs (cutI o 0 o.length) ∧ (cutI o 0 o.length).length ≤ 1000000 ∧ (cutI k 0 k.length).length ≤ 800000 ∧ (cutI (p.take p.length ++ q.take q.length) 0 (widths [Seg.arr .u8 (p.take p.length)] + q.length)).length ≤ 800000, 48 ≤ widths [Seg.arr .u8 (macL (cutI k 0 k.length) (cutI p 0 p.length ++ cutI q 0 q.length))], 0 + 48 ≤ widths [Seg.arr .u8 (macL (cutI k 0 k.length) (cutI (p.take p.length ++ q.take q.length) 0 (widths [Seg.arr .u8 (p.take p.length)] + q.length)))], tB ((strOf ((macL (cutI k 0 k.length) (cutI p 0 p.length ++ cutI q 0 q.length)).take 48 ++ [])).toList == (strOf ((macL (cutI k 0 k.length) (cutI (p.take p.length ++ q.take q.length) 0 (widths [Seg.arr .u8 (p.take p.length)] + q.length))).take 48 ++ [])).toList) true, tB (ckZ (decide (cutI (macL (cutI k 0 k.length) (cutI (p.take p.length ++ q.take q.length) 0 (widths [Seg.arr .u8 (p.take p.length)] + q.length))) 0 48 = (macL (cutI k 0 k.length) (cutI p 0 p.length ++ cutI q 0 q.length)))) == 0) true, 0 + o.length ≤ widths [Seg.arr .u8 o], 0 + 48 ≤ widths [Seg.arr .u8 (macL (cutI k 0 k.length) (cutI (p.take p.length ++ q.take q.length) 0 (widths [Seg.arr .u8 (p.take p.length)] + q.length)))], tB ((ckZ (decide (cutI o 0 o.length = (macL (cutI k 0 k.length) (cutI (p.take p.length ++ q.take q.length) 0 (widths [Seg.arr .u8 (p.take p.length)] + q.length))))) == 0) == ((strOf (o.take o.length ++ [])).toList == (strOf ((macL (cutI k 0 k.length) (cutI (p.take p.length ++ q.take q.length) 0 (widths [Seg.arr .u8 (p.take p.length)] + q.length))).take 48 ++ [])).toList)) true, tB (ckZ (decide (cutI o 0 o.length = (macL (cutI k 0 k.length) (cutI (p.take p.length ++ q.take q.length) 0 (widths [Seg.arr .u8 (p.take p.length)] + q.length))))) == 0) false]) := by kernel_rfl
end
end Go.Proofs.YtmhmfmnjdbehcaaDoor.Am
/- Opening arrays of two slices of integers at a law's call. Conditions: none. -/
namespace Go.Proofs.YtmhmfmnjdbehcaaDoor
set_option linter.unusedVariables false
set_option linter.unusedSimpArgs false
open Go Go.ChangeShapes Go.WideShapes Go.ChangeAt Go.RowKit

/-- A slice of integers, by its cell. -/
theorem open_slc {H : Type} {enc : TypeId × Value → H} {W : World} {base b0 : Nat} {spare : Nat → Bool} {held : Bool} {v : Value} {x : DataW H × List MemPlace} {fuel : Nat} {t e : TypeId} {k : IntKind}
    (ht : Tryd.prog.underlying t = some (.slice e)) (he : Tryd.prog.underlying e = some (.int k)) (hce : Tryd.prog.cellsOf e = 1)
    (hval : Cell.okWide Tryd.prog W .any b0 t v) (hf : DataW.trod enc Tryd.prog W base spare held fuel t [v] = some x) :
    ∃ a cap, ∃ zs : List Int, v = .slice a zs.length cap ∧ Am.RowAt W ⟨a, cap⟩ k zs ∧ ∀ z ∈ zs, (Lit.int k z).wf = true := by
  rcases open_ints ht he hce hf with ⟨hcs, _⟩ | ⟨x, l, c, zs, hcs, _, hl, hm, hz, _, hcell, hwz⟩
  · simp at hcs
    subst hcs
    exact ⟨none, 0, [], rfl, ⟨Nat.le_refl _, .inl rfl, fun x hx => by cases hx⟩, by simp⟩
  · simp at hcs
    subst hcs
    have hlt : ∀ y, some x = some y → y.block < W.heap.size := fun y hy => by
      injection hy with hy
      subst hy
      simp only [Cell.okWide, ht, Cell.ok] at hval
      exact has_lt hval.2.2
    have hzl : l ≤ zs.length := by rw [hz]; split <;> omega
    have hlen : (zs.take l).length = l := by rw [List.length_take]; omega
    refine ⟨some x, c, zs.take l, by rw [hlen], ⟨by rw [hlen]; exact hl, .inr ⟨x, rfl, fun j u hj => ?_⟩, hlt⟩, fun z hz' => hwz z (List.mem_of_mem_take hz')⟩
    have hjl : j < l := by
      have := (List.getElem?_eq_some_iff.1 hj).1
      rw [List.length_map, hlen] at this; exact this
    rw [List.getElem?_map, List.getElem?_take, if_pos hjl, List.getElem?_eq_getElem (by omega)] at hj
    simp only [Option.map_some, Option.some.injEq] at hj
    subst hj
    have := hcell j (by omega)
    simpa [List.getD_eq_getElem?_getD, List.getElem?_eq_getElem (show j < zs.length by omega)] using this
/-- An array of two slices of integers that comes in. -/
theorem open_sl2 {H : Type} {enc : TypeId × Value → H} {W : World} {base b0 : Nat} {spare : Nat → Bool} {held : Bool} {v : Value} {d : DataW H} {ps : List MemPlace} {t s e : TypeId} {k : IntKind}
    (ht : Tryd.prog.underlying t = some (.array 2 s)) (hs : Tryd.prog.underlying s = some (.slice e)) (he : Tryd.prog.underlying e = some (.int k)) (hcs : Tryd.prog.cellsOf s = 1) (hct : Tryd.prog.cellsOf t = 2) (hce : Tryd.prog.cellsOf e = 1) (hts : Tryd.prog.cellTypes Tryd.prog.depth t = some [s, s])
    (hval : Value.okWide Tryd.prog W .any b0 t v) (h : DataW.Trod enc Tryd.prog W base spare held t v d ps) :
    ∃ a cap, ∃ zs : List Int, ∃ a' cap', ∃ zs' : List Int, v = .agg #[.slice a zs.length cap, .slice a' zs'.length cap'] ∧ (Am.RowAt W ⟨a, cap⟩ k zs ∧ ∀ z ∈ zs, (Lit.int k z).wf = true) ∧ (Am.RowAt W ⟨a', cap'⟩ k zs' ∧ ∀ z ∈ zs', (Lit.int k z).wf = true) := by
  obtain ⟨cs, rfl, hsz, ts, hts', _, hrow⟩ : ∃ cs, v = .agg cs ∧ cs.size = Tryd.prog.cellsOf t ∧ Row.okWide Tryd.prog W .any b0 t cs := by
    simpa [Value.okWide, ht] using hval
  rw [hts] at hts'
  injection hts' with hts'
  subst hts'
  rw [hct] at hsz
  obtain ⟨fuel, hf⟩ := h
  obtain ⟨xs, m, _, _, hl, hxs, hel⟩ := DataW.trod_array ht hf
  obtain ⟨l⟩ := cs
  match l, hsz with
  | [u, w], _ =>
    have e0 := hel 0 (by omega)
    have e1 := hel 1 (by omega)
    rw [hcs] at e0 e1
    obtain ⟨t0, h0, o0⟩ := hrow 0 u rfl
    obtain ⟨t1, h1, o1⟩ := hrow 1 w rfl
    simp at h0 h1
    subst h0 h1
    have hx0 : xs[0]? = some xs[0] := List.getElem?_eq_getElem (by omega)
    have hx1 : xs[1]? = some xs[1] := List.getElem?_eq_getElem (by omega)
    rw [hx0] at e0
    rw [hx1] at e1
    obtain ⟨a, cap, zs, rfl, r0, w0⟩ := open_slc hs he hce o0 e0
    obtain ⟨a', cap', zs', rfl, r1, w1⟩ := open_slc hs he hce o1 e1
    exact ⟨a, cap, zs, a', cap', zs', rfl, ⟨r0, w0⟩, ⟨r1, w1⟩⟩
end Go.Proofs.YtmhmfmnjdbehcaaDoor
/- Strings of bytes: equal only where the bytes are (plain law). Conditions: none. -/
namespace Go.Proofs.YtmhmfmnjdbehcaaDoor.Am
set_option linter.unusedVariables false
set_option linter.unusedSimpArgs false
open Go
theorem loop_eq (b : ByteArray) : ∀ (n i : Nat) (r : List UInt8), b.size - i = n → ByteArray.toList.loop b i r = r.reverse ++ b.data.toList.drop i
  | 0, i, r, h => by
    rw [ByteArray.toList.loop, if_neg (by omega), List.drop_eq_nil_of_le (by have : b.data.toList.length = b.size := rfl; omega), List.append_nil]
  | n + 1, i, r, h => by
    have hi : i < b.size := by omega
    rw [ByteArray.toList.loop, if_pos hi, loop_eq b n (i + 1) _ (by omega), List.reverse_cons, List.append_assoc]
    congr 1
    have hl : i < b.data.toList.length := hi
    rw [List.drop_eq_getElem_cons hl]
    simp [ByteArray.get!, hi]
theorem toList_eq (b : ByteArray) : b.toList = b.data.toList := by
  unfold ByteArray.toList
  rw [loop_eq b _ 0 [] rfl]
  rfl
theorem strOf_inj {a b : List Int} (ha : isBs a) (hb : isBs b) (h : (strOf a).toList = (strOf b).toList) : a = b := by
  rw [toList_eq, toList_eq] at h
  have h2 : a.map (fun z => UInt8.ofNat z.toNat) = b.map fun z => UInt8.ofNat z.toNat := h
  have h3 : ∀ {l : List Int}, isBs l → (l.map fun z => UInt8.ofNat z.toNat).map (fun u => (u.toNat : Int)) = l := fun {l} hl => by
    rw [List.map_map]
    refine (List.map_congr_left fun z hz => ?_).trans (List.map_id l)
    have := hl z hz
    show ((UInt8.ofNat z.toNat).toNat : Int) = z
    have e : (UInt8.ofNat z.toNat).toNat = z.toNat % 256 := rfl
    rw [e]
    omega
  rw [← h3 ha, h2, h3 hb]
end Go.Proofs.YtmhmfmnjdbehcaaDoor.Am
/- Law 03's Sums. Conditions: none. -/
namespace Go.Proofs.YtmhmfmnjdbehcaaDoor.Am
set_option linter.unusedVariables false
set_option linter.unusedSimpArgs false
open Go Go.RowKit
set_option linter.unusedSectionVars false
section
variable [GT] [GRnd]
theorem ckZ_t : ckZ true = 0 := rfl
theorem ckZ_f : ckZ false = 8 := rfl
theorem z0_ : ((0 : Int) == 0) = true := rfl
theorem z8_ : ((8 : Int) == 0) = false := rfl
theorem w0_ : widths [] = 0 := rfl
theorem lm_ok [G384] (k p q o : List Int) (ck cp cq co : Nat) (hk : k.length ≤ 400) (hp : p.length ≤ 200) (hq : q.length ≤ 200) (ho : o.length ≤ 100) (lk : k.length ≤ ck) (lp : p.length ≤ cp) (lq : q.length ≤ cq) (lo : o.length ≤ co) (bk : isBs k) (bp : isBs p) (bq : isBs q) (bo : isBs o) : From Tryd.prog fLM (lmA k p q o ck cp cq co) (lmP k p q o) 4 [] [.fin] (lmE k p q o true) := by
  have cA : cutI (p ++ q) 0 (p.length + q.length) = p ++ q := by rw [← List.length_append, cutI_all]
  have lm := macL_len k (p ++ q)
  have bm := isBs_mac k (p ++ q)
  have bA' := isBs_app bp bq
  have t48 : (macL k (p ++ q)).take 48 = macL k (p ++ q) := List.take_of_length_le (by omega)
  by_cases he : o = macL k (p ++ q)
  · subst he
    have hrun := lm_true k p q (macL k (p ++ q)) ck cp cq co
    simp only [List.take_length, widths_o, cA, cutI_all, cutM, t48] at hrun
    refine From.run tyT_ok lmO_ok mixed_ hrun ?_
    refine ⟨⟨by decide, by decide⟩, by decide, ⟨by decide, by decide⟩, by decide, by decide, tB_ngt.2 (by omega), tB_ngt.2 (by omega), tB_ngt.2 (by omega), tB_ngt.2 (by omega), ?_⟩
    simp only [allP_cons, allP_nil, and_true, true_and, tB_iff, bk, bp, bq, bo, bm, bA', lm, decide_true, ckZ_t, ckZ_f, z0_, z8_, w0_, List.append_nil, beq_self_eq_true, List.length_append, t48, List.take_length]
    omega
  · have hrun := lm_false k p q o ck cp cq co
    simp only [List.take_length, widths_o, cA, cutI_all, cutM, t48, decide_eq_false he] at hrun
    refine From.run tyT_ok lmO_ok mixed_ hrun ?_
    refine ⟨⟨by decide, by decide⟩, by decide, ⟨by decide, by decide⟩, by decide, by decide, tB_ngt.2 (by omega), tB_ngt.2 (by omega), tB_ngt.2 (by omega), tB_ngt.2 (by omega), ?_⟩
    have hne : ((strOf o).toList == (strOf (macL k (p ++ q))).toList) = false := by
      rw [beq_eq_false_iff_ne]
      exact fun e => he (strOf_inj bo bm e)
    simp only [allP_cons, allP_nil, and_true, true_and, tB_iff, bk, bp, bq, bo, bm, bA', lm, decide_true, decide_eq_false he, ckZ_t, ckZ_f, z0_, z8_, w0_, List.append_nil, beq_self_eq_true, widths, List.length_append, t48, List.take_length, hne]
    omega
end
end Go.Proofs.YtmhmfmnjdbehcaaDoor.Am
/- Law 03's Sums: the law. Conditions: none. -/
namespace Go.Proofs.YtmhmfmnjdbehcaaDoor.Am
set_option linter.unusedVariables false
set_option linter.unusedSimpArgs false
open Go Go.RowKit
set_option linter.unusedSectionVars false
section
variable [GT] [GRnd]
omit [GT] [GRnd] in
theorem wf_isB {z : Int} (h : (Lit.int .u8 z).wf = true) : 0 ≤ z ∧ z < 256 := by
  have := bounds_u8 h
  omega
omit [GT] [GRnd] in
theorem wf_isBs {l : List Int} (h : ∀ z ∈ l, (Lit.int .u8 z).wf = true) : isBs l := fun z hz => wf_isB (h z hz)
theorem lawMacSums_fact [G384] (k p q o : List Int) (pk pp pq po : Option Addr) (ck cp cq co : Nat) {W : World} (hgw : GWok W.heap.size [] W) (rk : RowAt W ⟨pk, ck⟩ .u8 k ∧ ∀ z ∈ k, (Lit.int .u8 z).wf = true) (rp : RowAt W ⟨pp, cp⟩ .u8 p ∧ ∀ z ∈ p, (Lit.int .u8 z).wf = true) (rq : RowAt W ⟨pq, cq⟩ .u8 q ∧ ∀ z ∈ q, (Lit.int .u8 z).wf = true) (ro : RowAt W ⟨po, co⟩ .u8 o ∧ ∀ z ∈ o, (Lit.int .u8 z).wf = true) : Calls Tryd.prog 10 #[.slice pk k.length ck, .agg #[.slice pp p.length cp, .slice pq q.length cq], .slice po o.length co] W fun e w' => e = .returned (.bool true) ∧ Below W.heap.size W w' := by
  have hG := hr_rows [(⟨pk, ck⟩, .u8, k), (⟨pp, cp⟩, .u8, p), (⟨pq, cq⟩, .u8, q), (⟨po, co⟩, .u8, o)] (fun x hx => by
    simp only [List.mem_cons, List.not_mem_nil, or_false] at hx
    rcases hx with rfl | rfl | rfl | rfl
    · exact rk.1
    · exact rp.1
    · exact rq.1
    · exact ro.1) hgw
  have hR : From Tryd.prog fLM (lmA k p q o ck cp cq co) (lmP k p q o) 4 [] [.fin] (lmE k p q o true) := by
    by_cases h1 : k.length ≤ 400
    · by_cases h2 : p.length ≤ 200
      · by_cases h3 : q.length ≤ 200
        · by_cases h4 : o.length ≤ 100
          · exact lm_ok k p q o ck cp cq co h1 h2 h3 h4 rk.1.1 rp.1.1 rq.1.1 ro.1.1 (wf_isBs rk.2) (wf_isBs rp.2) (wf_isBs rq.2) (wf_isBs ro.2)
          · exact From.run tyT_ok lmO_ok mixed_ (lm_long3 k p q o ck cp cq co) ⟨⟨by decide, by decide⟩, by decide, ⟨by decide, by decide⟩, by decide, by decide, tB_ngt.2 (by omega), tB_ngt.2 (by omega), tB_ngt.2 (by omega), tB_gt.2 (by omega), ⟨by decide, by decide⟩, by decide, ⟨by decide, by decide⟩, by decide, by decide, trivial⟩
        · exact From.run tyT_ok lmO_ok mixed_ (lm_long2 k p q o ck cp cq co) ⟨⟨by decide, by decide⟩, by decide, ⟨by decide, by decide⟩, by decide, by decide, tB_ngt.2 (by omega), tB_ngt.2 (by omega), tB_gt.2 (by omega), ⟨by decide, by decide⟩, by decide, ⟨by decide, by decide⟩, by decide, by decide, trivial⟩
      · exact From.run tyT_ok lmO_ok mixed_ (lm_long1 k p q o ck cp cq co) ⟨⟨by decide, by decide⟩, by decide, ⟨by decide, by decide⟩, by decide, by decide, tB_ngt.2 (by omega), tB_gt.2 (by omega), ⟨by decide, by decide⟩, by decide, ⟨by decide, by decide⟩, by decide, by decide, trivial⟩
    · exact From.run tyT_ok lmO_ok mixed_ (lm_long0 k p q o ck cp cq co) ⟨⟨by decide, by decide⟩, by decide, ⟨by decide, by decide⟩, by decide, by decide, tB_gt.2 (by omega), ⟨by decide, by decide⟩, by decide, ⟨by decide, by decide⟩, by decide, by decide, trivial⟩
  have := law_reach Tryd.func10 hR (.inr rfl) (by kernel_rfl) (by kernel_rfl) (by kernel_rfl) hG
  have e2 : SV.conc (fun i => ([(⟨pk, ck⟩, IntKind.u8, k), (⟨pp, cp⟩, .u8, p), (⟨pq, cq⟩, .u8, q), (⟨po, co⟩, .u8, o)].map (·.1)).getD i ⟨none, 0⟩) (.av (.agg [.s 1 0 p.length cp, .s 2 0 q.length cq])) = .agg #[.slice pp p.length cp, .slice pq q.length cq] := by
    simp only [SV.conc, AV.conc, segsVals, List.flatMap_cons, List.flatMap_nil, Seg.vals, Seg.conc]
    cases pp <;> cases pq <;> simp [Addr.add]
  simp only [lmA, List.map_cons, List.map_nil, conc_s0] at this e2
  rw [e2] at this
  exact this
end
end Go.Proofs.YtmhmfmnjdbehcaaDoor.Am
/- mac.Expand. Conditions: none. -/
namespace Go.Proofs.YtmhmfmnjdbehcaaDoor.Am
set_option linter.unusedVariables false
set_option linter.unusedSimpArgs false
open Go Go.RowKit
set_option linter.unusedSectionVars false
section
variable [GT] [GRnd]
noncomputable abbrev fEx : Func := Tryd.f28
noncomputable def xeO : List (Nat × Ent) := [(30, eOr (entB [.sl .u8, .rs [.sl .u8]] msF1) (entB [.sl .u8, .rs [.sl .u8, .sl .u8, .sl .u8]] msF3))]
theorem xeO_ok [G384] : OOK Tryd.prog xeO := ook_of (l := [(30, eOr (entB [.sl .u8, .rs [.sl .u8]] msF1) (entB [.sl .u8, .rs [.sl .u8, .sl .u8, .sl .u8]] msF3))]) ⟨eOr_ok (msum_ent1 _) (msum_ent3 _), trivial⟩
def xeB (k s f : List Int) (n : Int) : List CB := [.sl .u8 k, .sl .u8 s, .sl .u8 f, .av (.one (.v (.int .i64 n)))]
def xeS0 (f m : List Int) (n : Int) : St := { tm := tmL 48 [(2, .av (.one (.r 0 0 f.length 0))), (3, ofV (.int .i64 n)), (10, .av (.one (.s 1 0 48 48))), (11, ofV (.slice none 0 0)), (12, ofV (.slice none 0 0)), (13, ofV (.int .u8 1))], hp := [(0, ⟨2, 0, [.arr .u8 f]⟩), (1, ⟨0, 36, [.arr .u8 m]⟩)], nx := 2, gl := [] }
def xeS (f m t o : List Int) (n i : Int) (L : Nat) : St := { tm := tmL 48 [(2, .av (.one (.r 0 0 f.length 0))), (3, ofV (.int .i64 n)), (10, .av (.one (.s 1 0 48 48))), (11, .av (.one (.r 2 0 L 0))), (12, .av (.one (.s 3 0 48 48))), (13, ofV (.int .u8 i))], hp := [(0, ⟨2, 0, [.arr .u8 f]⟩), (1, ⟨0, 36, [.arr .u8 m]⟩), (2, ⟨1, 5, [.arr .u8 o]⟩), (3, ⟨0, 36, [.arr .u8 t]⟩)], nx := 4, gl := [] }
def xeEb : St := { tm := tmL 48 [(8, ofV (.slice none 0 0)), (9, ofV (.int .i64 1))], hp := [], nx := 0, gl := [] }
def xeEz : St := { tm := tmL 48 [(8, ofV (.slice none 0 0)), (9, ofV (.int .i64 0))], hp := [], nx := 0, gl := [] }
def xeE (o : List Int) (n : Nat) : St := { tm := tmL 48 [(8, .av (.one (.s 0 0 n n))), (9, ofV (.int .i64 0))], hp := [(0, ⟨1, 5, [.arr .u8 o]⟩)], nx := 1, gl := [] }
theorem xe_bad1 (κ : Nat → Value) (k s f : List Int) (n : Int) : runF tyT xeO (atH 1 2 (isB true) noH) [] 0 [] [8, 9] fEx (bA (xeB k s f n) 0 0) (bH κ (xeB k s f n) 0 0) 3 [] = some ([.fin], xeEb, [tB (decide (n < 0)) true]) := by kernel_rfl
theorem xe_bad2 (κ : Nat → Value) (k s f : List Int) (n : Int) : runF tyT xeO (atH 1 2 (isB false) (atH 1 5 (isB true) noH)) [] 0 [] [8, 9] fEx (bA (xeB k s f n) 0 0) (bH κ (xeB k s f n) 0 0) 3 [] = some ([.fin], xeEb, [tB (decide (n < 0)) false, tB (decide (n > 1000)) true]) := by kernel_rfl
theorem xe_salt0 (κ : Nat → Value) (k s f : List Int) (n : Int) : runF tyT xeO (atH 1 2 (isB false) (atH 1 5 (isB false) (atH 3 2 (isB true) noH))) [] 0 [2, 5] [2, 3, 10, 11, 12, 13] fEx (bA (xeB k s f n) 0 0) (bH κ (xeB k s f n) 0 0) 3 [] = some (toAt fEx 8 [], xeS0 f (macL (cutI (List.replicate 48 0) 0 48) (cutI k 0 k.length)) n, [tB (decide (n < 0)) false, tB (decide (n > 1000)) false, tB ((s.length : Int) == 0) true, 0 + 48 ≤ (List.replicate 48 (0 : Int)).length ∧ 48 ≤ 48, 0 + k.length ≤ k.length, (cutI (List.replicate 48 (0 : Int)) 0 48).length ≤ 800000 ∧ (cutI k 0 k.length).length ≤ 800000]) := by kernel_rfl
theorem xe_salt1 (κ : Nat → Value) (k s f : List Int) (n : Int) : runF tyT xeO (atH 1 2 (isB false) (atH 1 5 (isB false) (atH 3 2 (isB false) noH))) [] 0 [2, 4] [2, 3, 10, 11, 12, 13] fEx (bA (xeB k s f n) 0 0) (bH κ (xeB k s f n) 0 0) 3 [] = some (toAt fEx 8 [], xeS0 f (macL (cutI s 0 s.length) (cutI k 0 k.length)) n, [tB (decide (n < 0)) false, tB (decide (n > 1000)) false, tB ((s.length : Int) == 0) false, 0 + s.length ≤ s.length, 0 + k.length ≤ k.length, (cutI s 0 s.length).length ≤ 800000 ∧ (cutI k 0 k.length).length ≤ 800000]) := by kernel_rfl
theorem xe_first (f m : List Int) (n : Int) (k_ : Nat) : runN tyT xeO (atH 8 3 (isB true) (atH 11 2 symH noH)) [] 2000 0 [0, 1, 5, 4] [2, 3, 10, 11, 12, 13] (inAt fEx 8 [] k_) (xeS0 f m n) = some (hdAt fEx 8 [] k_, xeS f m (macL (cutI m 0 48) ([] ++ (cutI f 0 f.length ++ cutI [1] 0 1))) (List.take 48 (List.drop 0 (macL (cutI m 0 48) ([] ++ (cutI f 0 f.length ++ cutI [1] 0 1))))) n 2 48, [tB (decide (0 < n)) true, 0 + 48 ≤ m.length ∧ 48 ≤ 48, 0 + f.length ≤ f.length, 0 + 1 ≤ [(1 : Int)].length ∧ 1 ≤ 1, (cutI m 0 48).length ≤ 800000 ∧ ([] : List Int).length + (cutI f 0 f.length).length + (cutI [(1 : Int)] 0 1).length ≤ 800000, 48 ≤ widths [Seg.arr .u8 (macL (cutI m 0 48) ([] ++ (cutI f 0 f.length ++ cutI [1] 0 1)))], 96 ≤ 140737488355328]) := by kernel_rfl
theorem xe_none (f m : List Int) (n : Int) (k_ : Nat) : runN tyT xeO (atH 8 3 (isB false) (atH 12 3 symH noH)) [] 2000 0 [] [8, 9] (inAt fEx 8 [] k_) (xeS0 f m n) = some ([.fin], xeEz, [tB (decide (0 < n)) false, 0 ≤ n ∧ n.toNat ≤ 0, 0 ≤ n ∧ n.toNat ≤ n.toNat]) := by kernel_rfl
theorem xe_round (f m t o : List Int) (n : Int) (i L k_ : Nat) : runN tyT xeO (atH 8 3 (isB true) (atH 11 2 symH (atH 9 1 (isI .u8 ((i + 1 : Nat) : Int)) noH))) [] 2000 0 [0, 1, 7, 6] [2, 3, 10, 11, 12, 13] (inAt fEx 8 [] k_) (xeS f m t o n i L) = some (hdAt fEx 8 [] k_, xeS f m (macL (cutI m 0 48) (cutI t 0 48 ++ (cutI f 0 f.length ++ cutI [(i : Int)] 0 1))) (o ++ List.take 48 (List.drop 0 (macL (cutI m 0 48) (cutI t 0 48 ++ (cutI f 0 f.length ++ cutI [(i : Int)] 0 1))))) n ((i + 1 : Nat) : Int) (widths [Seg.arr .u8 o] + 48), [tB (decide ((L : Int) < n)) true, 0 + 48 ≤ m.length ∧ 48 ≤ 48, 0 + 48 ≤ t.length ∧ 48 ≤ 48, 0 + f.length ≤ f.length, 0 + 1 ≤ [(i : Int)].length ∧ 1 ≤ 1, (cutI m 0 48).length ≤ 800000 ∧ (cutI t 0 48).length + (cutI f 0 f.length).length + (cutI [(i : Int)] 0 1).length ≤ 800000, L = widths [Seg.arr .u8 o], 48 ≤ widths [Seg.arr .u8 (macL (cutI m 0 48) (cutI t 0 48 ++ (cutI f 0 f.length ++ cutI [(i : Int)] 0 1)))], (widths [Seg.arr .u8 o] + 48) * 2 ≤ 140737488355328, tI .u8 (IntKind.wrap .u8 ((i : Int) + 1)) ((i + 1 : Nat) : Int)]) := by kernel_rfl
theorem xe_last (f m t o : List Int) (n : Int) (i L k_ : Nat) : runN tyT xeO (atH 8 3 (isB false) (atH 12 3 symH noH)) [] 2000 0 [2] [8, 9] (inAt fEx 8 [] k_) (xeS f m t o n i L) = some ([.fin], xeE o n.toNat, [tB (decide ((L : Int) < n)) false, 0 + L ≤ widths [Seg.arr .u8 o], 0 ≤ n ∧ n.toNat ≤ widths [Seg.arr .u8 o] - 0, 0 ≤ n ∧ n.toNat ≤ n.toNat, 1 ≤ n.toNat]) := by kernel_rfl
/-- The parts of a key out of a key, and all so far. -/
def eaT (m f : List Int) : Nat → List Int
  | 0 => []
  | i + 1 => macL m (eaT m f i ++ (f ++ [((i + 1 : Nat) : Int)]))
def eaO (m f : List Int) : Nat → List Int
  | 0 => []
  | i + 1 => eaO m f i ++ eaT m f (i + 1)
/-- The salt; the key between. -/
def saltL (s : List Int) : List Int := if s.length = 0 then List.replicate 48 0 else s
def exM (k s : List Int) : List Int := macL (saltL s) k
theorem eaT_len (m f : List Int) (i : Nat) : (eaT m f (i + 1)).length = 48 := macL_len _ _
theorem eaO_len (m f : List Int) : ∀ i, (eaO m f i).length = 48 * i
  | 0 => rfl
  | i + 1 => by
    show (eaO m f i ++ eaT m f (i + 1)).length = _
    rw [List.length_append, eaT_len, eaO_len m f i]
    omega
theorem cut_full {l : List Int} {n : Nat} (h : l.length = n) : cutI l 0 n = l := by rw [← h, cutI_all]
theorem take_full {l : List Int} {n : Nat} (h : l.length = n) : List.take n (List.drop 0 l) = l := by rw [List.drop_zero, ← h, List.take_length]
theorem xe_rounds [G384] (f m : List Int) (n : Nat) (hm : m.length = 48) (hf : f.length ≤ 700000) (h1 : 1 ≤ n) (h2 : n ≤ 1000) : ∀ (r i : Nat), i + 1 + r = (n + 47) / 48 → Reaches Tryd.prog 0 (hdAt fEx 8 [] (r + 1)) (xeS f m (eaT m f (i + 1)) (eaO m f (i + 1)) n ((i + 2 : Nat) : Int) (48 * (i + 1))) [.fin] (xeE (eaO m f ((n + 47) / 48)) n)
  | 0, i, e => by
    have e1 : (n + 47) / 48 = i + 1 := by omega
    rw [e1]
    refine Reaches.oneK (Reaches.runK tyT_ok xeO_ok mixed_ (xe_last f m (eaT m f (i + 1)) (eaO m f (i + 1)) n (i + 2) (48 * (i + 1)) 0) ?_)
    simp only [allP_cons, allP_nil, and_true, true_and, tB_nlt, widths_o, eaO_len]
    omega
  | r + 1, i, e => by
    have ih := xe_rounds f m n hm hf h1 h2 r (i + 1) (by omega)
    have hrun := xe_round f m (eaT m f (i + 1)) (eaO m f (i + 1)) n (i + 2) (48 * (i + 1)) (r + 1)
    rw [cut_full hm, cut_full (eaT_len m f i), cutI_all, cut_full (l := [((i + 2 : Nat) : Int)]) (n := 1) rfl, take_full (macL_len _ _), widths_o, eaO_len] at hrun
    refine (Reaches.oneK (Reaches.runK tyT_ok xeO_ok mixed_ hrun ?_)).trans ih
    simp only [allP_cons, allP_nil, and_true, true_and, tB_lt, tI_iff, widths_o, eaO_len, eaT_len, hm, macL_len, List.length_cons, List.length_nil]
    rw [wB_def]
    omega
theorem xe_go [G384] (f m : List Int) (n : Nat) (hm : m.length = 48) (hf : f.length ≤ 700000) (h1 : 1 ≤ n) (h2 : n ≤ 1000) : Reaches Tryd.prog 0 (toAt fEx 8 []) (xeS0 f m n) [.fin] (xeE (eaO m f ((n + 47) / 48)) n) := by
  obtain ⟨r, hr⟩ : ∃ r, 0 + 1 + r = (n + 47) / 48 := ⟨(n + 47) / 48 - 1, by omega⟩
  have hrun := xe_first f m n (r + 1)
  rw [cut_full hm, cutI_all, cut_full (l := [(1 : Int)]) (n := 1) rfl, take_full (macL_len _ _)] at hrun
  refine Reaches.roundsK (r + 2) ((Reaches.oneK (Reaches.runK tyT_ok xeO_ok mixed_ hrun ?_)).trans (xe_rounds f m n hm hf h1 h2 r 0 hr))
  simp only [allP_cons, allP_nil, and_true, true_and, tB_lt, widths_o, hm, macL_len, List.length_cons, List.length_nil]
  omega
theorem xe_nil [G384] (f m : List Int) : Reaches Tryd.prog 0 (toAt fEx 8 []) (xeS0 f m 0) [.fin] xeEz := by
  refine Reaches.roundsK 1 (Reaches.oneK (Reaches.runK tyT_ok xeO_ok mixed_ (xe_none f m 0 0) ?_))
  exact ⟨tB_nlt.2 (by omega), ⟨by decide, by decide⟩, ⟨by decide, by decide⟩, trivial⟩
theorem xe_start [G384] (κ : Nat → Value) (k s f : List Int) (n : Int) (hk : k.length ≤ 800000) (hs : s.length ≤ 800000) (h1 : 0 ≤ n) (h2 : n ≤ 1000) : FromK Tryd.prog 0 fEx (bA (xeB k s f n) 0 0) (bH κ (xeB k s f n) 0 0) 3 [] (toAt fEx 8 []) (xeS0 f (exM k s) n) := by
  by_cases h : s.length = 0
  · have hst := xe_salt0 κ k s f n
    have e : saltL s = List.replicate 48 0 := by unfold saltL; rw [if_pos h]
    rw [cut_full (l := List.replicate 48 (0 : Int)) (n := 48) rfl, cutI_all, ← e] at hst
    refine FromK.run (m0 := 0) tyT_ok xeO_ok mixed_ hst ?_
    have el : (saltL s).length = 48 := by rw [e]; rfl
    simp only [allP_cons, allP_nil, and_true, true_and, tB_nlt, tB_ngt, tB_eq, h, el]
    omega
  · have hst := xe_salt1 κ k s f n
    have e : saltL s = s := by unfold saltL; rw [if_neg h]
    rw [cutI_all, cutI_all] at hst
    unfold exM
    rw [e]
    refine FromK.run (m0 := 0) tyT_ok xeO_ok mixed_ hst ?_
    simp only [allP_cons, allP_nil, and_true, true_and, tB_nlt, tB_ngt, tB_neq]
    omega
/-- What is wrong. -/
def xeFb : List CB → Option BR
  | [.sl .u8 _, .sl .u8 _, .sl .u8 _, .av (.one (.v (.int .i64 n)))] => some { pre := n < 0 ∨ 1000 < n, val := .tup [.one (.v (.slice none 0 0)), .one (.v (.int .i64 1))] }
  | _ => none
/-- Of no bytes. -/
def xeFz : List CB → Option BR
  | [.sl .u8 k, .sl .u8 s, .sl .u8 _, .av (.one (.v (.int .i64 n)))] => some { pre := n = 0 ∧ k.length ≤ 800000 ∧ s.length ≤ 800000, val := .tup [.one (.v (.slice none 0 0)), .one (.v (.int .i64 0))] }
  | _ => none
/-- Of some. -/
def xeF : List CB → Option BR
  | [.sl .u8 k, .sl .u8 s, .sl .u8 f, .av (.one (.v (.int .i64 n)))] => some { pre := 1 ≤ n ∧ n ≤ 1000 ∧ k.length ≤ 800000 ∧ s.length ≤ 800000 ∧ f.length ≤ 700000, val := .tup [.one (.s 0 0 n.toNat n.toNat), .one (.v (.int .i64 0))], new := [⟨1, 5, [.arr .u8 (eaO (exM k s) f ((n.toNat + 47) / 48))]⟩] }
  | _ => none
theorem xe_endsb [G384] (cbs : List CB) (r : BR) (hF : xeFb cbs = some r) (hp : r.pre) : EndsB Tryd.prog tyT [] fEx cbs r := by
  unfold xeFb at hF
  split at hF
  · rename_i k s f n
    injection hF with hF
    subst hF
    have hn : n < 0 ∨ 1000 < n := hp
    intro κ
    have h : FromK Tryd.prog 0 fEx (bA (xeB k s f n) 0 0) (bH κ (xeB k s f n) 0 0) 3 [] [.fin] xeEb := by
      by_cases h : n < 0
      · exact FromK.run (m0 := 0) tyT_ok xeO_ok mixed_ (xe_bad1 κ k s f n) ⟨tB_lt.2 h, trivial⟩
      · exact FromK.run (m0 := 0) tyT_ok xeO_ok mixed_ (xe_bad2 κ k s f n) ⟨tB_nlt.2 (by omega), tB_gt.2 (by omega), trivial⟩
    exact ⟨[.fin], _, .tup [.one (.v (.slice none 0 0)), .one (.v (.int .i64 1))], [], .inr rfl, h, by kernel_rfl, by kernel_rfl, by kernel_rfl⟩
  · cases hF
theorem xe_endsz [G384] (cbs : List CB) (r : BR) (hF : xeFz cbs = some r) (hp : r.pre) : EndsB Tryd.prog tyT [] fEx cbs r := by
  unfold xeFz at hF
  split at hF
  · rename_i k s f n
    injection hF with hF
    subst hF
    obtain ⟨hn, hk, hs⟩ : n = 0 ∧ k.length ≤ 800000 ∧ s.length ≤ 800000 := hp
    subst hn
    intro κ
    have h := (xe_start κ k s f 0 hk hs (by omega) (by omega)).trans (xe_nil f (exM k s))
    exact ⟨[.fin], _, .tup [.one (.v (.slice none 0 0)), .one (.v (.int .i64 0))], [], .inr rfl, h, by kernel_rfl, by kernel_rfl, by kernel_rfl⟩
  · cases hF
theorem xe_ends [G384] (cbs : List CB) (r : BR) (hF : xeF cbs = some r) (hp : r.pre) : EndsB Tryd.prog tyT [] fEx cbs r := by
  unfold xeF at hF
  split at hF
  · rename_i k s f n
    injection hF with hF
    subst hF
    obtain ⟨h1, h2, hk, hs, hf⟩ : 1 ≤ n ∧ n ≤ 1000 ∧ k.length ≤ 800000 ∧ s.length ≤ 800000 ∧ f.length ≤ 700000 := hp
    obtain ⟨N, rfl⟩ : ∃ N : Nat, n = N := ⟨n.toNat, by omega⟩
    intro κ
    have h := (xe_start κ k s f N hk hs (by omega) (by omega)).trans (xe_go f (exM k s) N (macL_len _ _) hf (by omega) (by omega))
    exact ⟨[.fin], _, .tup [.one (.s 0 0 N N), .one (.v (.int .i64 0))], [0], .inr rfl, h, by kernel_rfl, by kernel_rfl, by kernel_rfl⟩
  · cases hF
theorem expand_entb [G384] (sh : List ShB) (hs : sh.length = 4 := by rfl) : EntOK Tryd.prog 28 (entB sh xeFb) :=
  ok_B tyT_ok Tryd.func28 (by kernel_rfl) (by kernel_rfl) [] (fun x hx => by cases hx) (by rw [hs]; kernel_rfl) xe_endsb
theorem expand_entz [G384] (sh : List ShB) (hs : sh.length = 4 := by rfl) : EntOK Tryd.prog 28 (entB sh xeFz) :=
  ok_B tyT_ok Tryd.func28 (by kernel_rfl) (by kernel_rfl) [] (fun x hx => by cases hx) (by rw [hs]; kernel_rfl) xe_endsz
theorem expand_ent [G384] (sh : List ShB) (hs : sh.length = 4 := by rfl) : EntOK Tryd.prog 28 (entB sh xeF) :=
  ok_B tyT_ok Tryd.func28 (by kernel_rfl) (by kernel_rfl) [] (fun x hx => by cases hx) (by rw [hs]; kernel_rfl) xe_ends
end
end Go.Proofs.YtmhmfmnjdbehcaaDoor.Am
/- The document's keys out of keys. Conditions: none. -/
namespace Go.Proofs.YtmhmfmnjdbehcaaDoor.Am
set_option linter.unusedVariables false
set_option linter.unusedSimpArgs false
open Go Go.RowKit
set_option linter.unusedSectionVars false
section
variable [GT] [GRnd]
noncomputable abbrev fRx : Func := Tryd.f29
noncomputable def rxO : List (Nat × Ent) := [(31, entB [.sl .u8, .sl .u8] r3F)]
theorem rxO_ok [G384] : OOK Tryd.prog rxO := ook_of (l := [(31, entB [.sl .u8, .sl .u8] r3F)]) ⟨r3sum_ent _, trivial⟩
def rxS0 (f m : List Int) (n : Int) : St := { tm := tmL 43 [(2, .av (.one (.r 0 0 f.length 0))), (3, ofV (.int .i64 n)), (9, .av (.one (.r 1 0 48 0))), (10, ofV (.slice none 0 0)), (11, ofV (.slice none 0 0)), (12, ofV (.int .i64 1))], hp := [(0, ⟨2, 0, [.arr .u8 f]⟩), (1, ⟨1, 5, [.arr .u8 m]⟩)], nx := 2, gl := [] }
def rxS (f m t o : List Int) (n i : Int) (L : Nat) : St := { tm := tmL 43 [(2, .av (.one (.r 0 0 f.length 0))), (3, ofV (.int .i64 n)), (9, .av (.one (.r 1 0 48 0))), (10, .av (.one (.r 2 0 L 0))), (11, .av (.one (.r 3 0 48 0))), (12, ofV (.int .i64 i))], hp := [(0, ⟨2, 0, [.arr .u8 f]⟩), (1, ⟨1, 5, [.arr .u8 m]⟩), (2, ⟨1, 5, [.arr .u8 o]⟩), (3, ⟨1, 5, [.arr .u8 t]⟩)], nx := 4, gl := [] }
def rxEz : St := { tm := tmL 43 [(8, ofV (.slice none 0 0))], hp := [], nx := 0, gl := [] }
def rxE (o : List Int) (n : Nat) : St := { tm := tmL 43 [(8, .av (.one (.r 0 0 n 0)))], hp := [(0, ⟨1, 5, [.arr .u8 o]⟩)], nx := 1, gl := [] }
theorem rx_salt0 (κ : Nat → Value) (k s f : List Int) (n : Int) : runF tyT rxO (atH 1 2 (isB true) noH) [] 0 [2, 4] [2, 3, 9, 10, 11, 12] fRx (bA (xeB k s f n) 0 0) (bH κ (xeB k s f n) 0 0) 3 [] = some (toAt fRx 6 [], rxS0 f (macL (cutI (List.replicate 48 (0 : Int)) 0 48) (cutI k 0 k.length)) n, [tB ((s.length : Int) == 0) true, 0 + 48 ≤ (List.replicate 48 (0 : Int)).length ∧ 48 ≤ 48, 0 + k.length ≤ k.length, isBs (cutI (List.replicate 48 (0 : Int)) 0 48) ∧ isBs (cutI k 0 k.length) ∧ (cutI (List.replicate 48 (0 : Int)) 0 48).length ≤ 800000 ∧ (cutI k 0 k.length).length ≤ 800000]) := by kernel_rfl
theorem rx_salt1 (κ : Nat → Value) (k s f : List Int) (n : Int) : runF tyT rxO (atH 1 2 (isB false) noH) [] 0 [2, 3] [2, 3, 9, 10, 11, 12] fRx (bA (xeB k s f n) 0 0) (bH κ (xeB k s f n) 0 0) 3 [] = some (toAt fRx 6 [], rxS0 f (macL (cutI s 0 s.length) (cutI k 0 k.length)) n, [tB ((s.length : Int) == 0) false, 0 + s.length ≤ s.length, 0 + k.length ≤ k.length, isBs (cutI s 0 s.length) ∧ isBs (cutI k 0 k.length) ∧ (cutI s 0 s.length).length ≤ 800000 ∧ (cutI k 0 k.length).length ≤ 800000]) := by kernel_rfl
theorem rx_first (f m : List Int) (n : Int) (k_ : Nat) : runN tyT rxO (atH 6 3 (isB true) (atH 8 3 symH (atH 8 5 symH (atH 8 9 symH (atH 9 2 symH noH))))) [] 2000 0 [0, 1, 7, 6] [2, 3, 9, 10, 11, 12] (inAt fRx 6 [] k_) (rxS0 f m n) = some (hdAt fRx 6 [] k_, rxS f m (macL (cutI m 0 48) (cutI ((List.take f.length f) ++ [1]) 0 (widths [Seg.arr .u8 (List.take f.length f)] + 1))) (List.take 48 (List.drop 0 (macL (cutI m 0 48) (cutI ((List.take f.length f) ++ [1]) 0 (widths [Seg.arr .u8 (List.take f.length f)] + 1))))) n 2 48, [tB (decide (0 < n)) true, 0 = widths [] ∧ 0 = widths [], 0 = widths [] ∧ 0 = widths [], 0 + f.length ≤ widths [Seg.arr .u8 f], (0 + f.length) * 2 ≤ 140737488355328, 0 + f.length = widths [Seg.arr .u8 (List.take f.length f)], 1 ≤ 1, (widths [Seg.arr .u8 (List.take f.length f)] + 1) * 2 ≤ 140737488355328, 48 ≤ m.length, 0 + (widths [Seg.arr .u8 (List.take f.length f)] + 1) ≤ ((List.take f.length f) ++ [1]).length, isBs (cutI m 0 48) ∧ isBs (cutI ((List.take f.length f) ++ [1]) 0 (widths [Seg.arr .u8 (List.take f.length f)] + 1)) ∧ (cutI m 0 48).length ≤ 800000 ∧ (cutI ((List.take f.length f) ++ [1]) 0 (widths [Seg.arr .u8 (List.take f.length f)] + 1)).length ≤ 800000, 48 ≤ widths [Seg.arr .u8 (macL (cutI m 0 48) (cutI ((List.take f.length f) ++ [1]) 0 (widths [Seg.arr .u8 (List.take f.length f)] + 1)))], 96 ≤ 140737488355328]) := by kernel_rfl
theorem rx_none (f m : List Int) (n : Int) (k_ : Nat) : runN tyT rxO (atH 6 3 (isB false) (atH 10 2 symH noH)) [] 2000 0 [] [8] (inAt fRx 6 [] k_) (rxS0 f m n) = some ([.fin], rxEz, [tB (decide (0 < n)) false, 0 ≤ n ∧ n.toNat ≤ 0]) := by kernel_rfl
theorem rx_round (f m t o : List Int) (n : Int) (i L k_ : Nat) : runN tyT rxO (atH 6 3 (isB true) (atH 8 3 symH (atH 8 5 symH (atH 8 9 symH (atH 9 2 symH (atH 7 1 (isI .i64 ((i + 1 : Nat) : Int)) noH)))))) [] 2000 0 [0, 1, 10, 9] [2, 3, 9, 10, 11, 12] (inAt fRx 6 [] k_) (rxS f m t o n i L) = some (hdAt fRx 6 [] k_, rxS f m (macL (cutI m 0 48) (cutI ((List.take 48 t ++ (List.take f.length f)) ++ [IntKind.wrap .u8 (i : Int)]) 0 (widths [Seg.arr .u8 (List.take 48 t ++ (List.take f.length f))] + 1))) (o ++ List.take 48 (List.drop 0 (macL (cutI m 0 48) (cutI ((List.take 48 t ++ (List.take f.length f)) ++ [IntKind.wrap .u8 (i : Int)]) 0 (widths [Seg.arr .u8 (List.take 48 t ++ (List.take f.length f))] + 1))))) n ((i + 1 : Nat) : Int) (widths [Seg.arr .u8 o] + 48), [tB (decide ((L : Int) < n)) true, 0 = widths [] ∧ 0 = widths [], 48 ≤ widths [Seg.arr .u8 t], 96 ≤ 140737488355328, 48 = widths [Seg.arr .u8 (List.take 48 t)], 0 + f.length ≤ widths [Seg.arr .u8 f], (widths [Seg.arr .u8 (List.take 48 t)] + f.length) * 2 ≤ 140737488355328, widths [Seg.arr .u8 (List.take 48 t)] + f.length = widths [Seg.arr .u8 (List.take 48 t ++ (List.take f.length f))], 1 ≤ 1, (widths [Seg.arr .u8 (List.take 48 t ++ (List.take f.length f))] + 1) * 2 ≤ 140737488355328, 48 ≤ m.length, 0 + (widths [Seg.arr .u8 (List.take 48 t ++ (List.take f.length f))] + 1) ≤ ((List.take 48 t ++ (List.take f.length f)) ++ [IntKind.wrap .u8 (i : Int)]).length, isBs (cutI m 0 48) ∧ isBs (cutI ((List.take 48 t ++ (List.take f.length f)) ++ [IntKind.wrap .u8 (i : Int)]) 0 (widths [Seg.arr .u8 (List.take 48 t ++ (List.take f.length f))] + 1)) ∧ (cutI m 0 48).length ≤ 800000 ∧ (cutI ((List.take 48 t ++ (List.take f.length f)) ++ [IntKind.wrap .u8 (i : Int)]) 0 (widths [Seg.arr .u8 (List.take 48 t ++ (List.take f.length f))] + 1)).length ≤ 800000, L = widths [Seg.arr .u8 o], 48 ≤ widths [Seg.arr .u8 (macL (cutI m 0 48) (cutI ((List.take 48 t ++ (List.take f.length f)) ++ [IntKind.wrap .u8 (i : Int)]) 0 (widths [Seg.arr .u8 (List.take 48 t ++ (List.take f.length f))] + 1)))], (widths [Seg.arr .u8 o] + 48) * 2 ≤ 140737488355328, tI .i64 (IntKind.wrap .i64 ((i : Int) + 1)) ((i + 1 : Nat) : Int)]) := by kernel_rfl
theorem rx_last (f m t o : List Int) (n : Int) (i L k_ : Nat) : runN tyT rxO (atH 6 3 (isB false) (atH 10 2 symH noH)) [] 2000 0 [2] [8] (inAt fRx 6 [] k_) (rxS f m t o n i L) = some ([.fin], rxE o n.toNat, [tB (decide ((L : Int) < n)) false, 0 + L ≤ widths [Seg.arr .u8 o], 0 ≤ n ∧ n.toNat ≤ widths [Seg.arr .u8 o] - 0]) := by kernel_rfl
theorem isBs_eaT [G384] (m f : List Int) : ∀ i, isBs (eaT m f i)
  | 0 => fun _ h => by cases h
  | i + 1 => isBs_mac _ _
theorem isBs_one {z : Int} (h : 0 ≤ z) (h' : z < 256) : isBs [z] := fun y hy => by
  rw [List.mem_singleton.1 hy]
  exact ⟨h, h'⟩
theorem cutW {a : List Int} {z : Int} : cutI (a ++ [z]) 0 (widths [Seg.arr .u8 a] + 1) = a ++ [z] := by
  rw [widths_o]
  exact cut_full (by rw [List.length_append, List.length_singleton])
theorem wd0 : widths [] = 0 := rfl
theorem rx_rounds [G384] (f m : List Int) (n : Nat) (hm : m.length = 48) (hf : f.length ≤ 700000) (bm : isBs m) (bf : isBs f) (h1 : 1 ≤ n) (h2 : n ≤ 1000) : ∀ (r i : Nat), i + 1 + r = (n + 47) / 48 → Reaches Tryd.prog 0 (hdAt fRx 6 [] (r + 1)) (rxS f m (eaT m f (i + 1)) (eaO m f (i + 1)) n ((i + 2 : Nat) : Int) (48 * (i + 1))) [.fin] (rxE (eaO m f ((n + 47) / 48)) n)
  | 0, i, e => by
    have e1 : (n + 47) / 48 = i + 1 := by omega
    rw [e1]
    refine Reaches.oneK (Reaches.runK tyT_ok rxO_ok mixed_ (rx_last f m (eaT m f (i + 1)) (eaO m f (i + 1)) n (i + 2) (48 * (i + 1)) 0) ?_)
    simp only [allP_cons, allP_nil, and_true, true_and, tB_nlt, widths_o, eaO_len]
    omega
  | r + 1, i, e => by
    have ih := rx_rounds f m n hm hf bm bf h1 h2 r (i + 1) (by omega)
    have hrun := rx_round f m (eaT m f (i + 1)) (eaO m f (i + 1)) n (i + 2) (48 * (i + 1)) (r + 1)
    have tt : List.take 48 (eaT m f (i + 1)) = eaT m f (i + 1) := List.take_of_length_le (by rw [eaT_len]; omega)
    have eb : IntKind.wrap .u8 ((i + 2 : Nat) : Int) = ((i + 2 : Nat) : Int) := by
      rw [wB_def]
      omega
    have bx : isBs ((eaT m f (i + 1) ++ f) ++ [((i + 2 : Nat) : Int)]) := isBs_app (isBs_app (isBs_eaT _ _ _) bf) (isBs_one (by omega) (by omega))
    rw [cut_full hm, tt, List.take_length, eb, cutW, take_full (macL_len _ _), widths_o, widths_o, widths_o, eaO_len] at hrun
    rw [List.append_assoc (eaT m f (i + 1)) f] at hrun bx
    refine (Reaches.oneK (Reaches.runK tyT_ok rxO_ok mixed_ hrun ?_)).trans ih
    simp only [allP_cons, allP_nil, and_true, true_and, tB_lt, tI_iff, widths_o, wd0, eaO_len, eaT_len, hm, bm, bx, macL_len, List.length_append, List.length_cons, List.length_nil]
    rw [w64 (by omega) (by omega)]
    omega
theorem rx_go [G384] (f m : List Int) (n : Nat) (hm : m.length = 48) (hf : f.length ≤ 700000) (bm : isBs m) (bf : isBs f) (h1 : 1 ≤ n) (h2 : n ≤ 1000) : Reaches Tryd.prog 0 (toAt fRx 6 []) (rxS0 f m n) [.fin] (rxE (eaO m f ((n + 47) / 48)) n) := by
  obtain ⟨r, hr⟩ : ∃ r, 0 + 1 + r = (n + 47) / 48 := ⟨(n + 47) / 48 - 1, by omega⟩
  have hrun := rx_first f m n (r + 1)
  have bx : isBs (f ++ [(1 : Int)]) := isBs_app bf (isBs_one (by omega) (by omega))
  rw [cut_full hm, List.take_length, cutW, take_full (macL_len _ _), widths_o] at hrun
  refine Reaches.roundsK (r + 2) ((Reaches.oneK (Reaches.runK tyT_ok rxO_ok mixed_ hrun ?_)).trans (rx_rounds f m n hm hf bm bf h1 h2 r 0 hr))
  simp only [allP_cons, allP_nil, and_true, true_and, tB_lt, widths_o, wd0, hm, bm, bx, macL_len, List.length_append, List.length_cons, List.length_nil]
  omega
theorem rx_nil [G384] (f m : List Int) : Reaches Tryd.prog 0 (toAt fRx 6 []) (rxS0 f m 0) [.fin] rxEz := by
  refine Reaches.roundsK 1 (Reaches.oneK (Reaches.runK tyT_ok rxO_ok mixed_ (rx_none f m 0 0) ?_))
  exact ⟨tB_nlt.2 (by omega), ⟨by decide, by decide⟩, trivial⟩
theorem rx_start [G384] (κ : Nat → Value) (k s f : List Int) (n : Int) (hk : k.length ≤ 800000) (hs : s.length ≤ 800000) (bk : isBs k) (bs : isBs s) : FromK Tryd.prog 0 fRx (bA (xeB k s f n) 0 0) (bH κ (xeB k s f n) 0 0) 3 [] (toAt fRx 6 []) (rxS0 f (exM k s) n) := by
  by_cases h : s.length = 0
  · have hst := rx_salt0 κ k s f n
    have e : saltL s = List.replicate 48 0 := by unfold saltL; rw [if_pos h]
    rw [cut_full (l := List.replicate 48 (0 : Int)) (n := 48) rfl, cutI_all, ← e] at hst
    refine FromK.run (m0 := 0) tyT_ok rxO_ok mixed_ hst ?_
    have el : (saltL s).length = 48 := by rw [e]; rfl
    have be : isBs (saltL s) := by
      rw [e]
      exact fun z hz => by rw [(List.mem_replicate.1 hz).2]; exact ⟨by decide, by decide⟩
    simp only [allP_cons, allP_nil, and_true, true_and, tB_eq, h, el, be, bk]
    omega
  · have hst := rx_salt1 κ k s f n
    have e : saltL s = s := by unfold saltL; rw [if_neg h]
    rw [cutI_all, cutI_all] at hst
    unfold exM
    rw [e]
    refine FromK.run (m0 := 0) tyT_ok rxO_ok mixed_ hst ?_
    simp only [allP_cons, allP_nil, and_true, true_and, tB_neq, bk, bs]
    omega
def rxFz : List CB → Option BR
  | [.sl .u8 k, .sl .u8 s, .sl .u8 _, .av (.one (.v (.int .i64 n)))] => some { pre := n = 0 ∧ k.length ≤ 800000 ∧ s.length ≤ 800000 ∧ isBs k ∧ isBs s, val := .av (.one (.v (.slice none 0 0))) }
  | _ => none
def rxF : List CB → Option BR
  | [.sl .u8 k, .sl .u8 s, .sl .u8 f, .av (.one (.v (.int .i64 n)))] => some { pre := 1 ≤ n ∧ n ≤ 1000 ∧ k.length ≤ 800000 ∧ s.length ≤ 800000 ∧ f.length ≤ 700000 ∧ isBs k ∧ isBs s ∧ isBs f, val := .av (.one (.r 0 0 n.toNat 0)), new := [⟨1, 5, [.arr .u8 (eaO (exM k s) f ((n.toNat + 47) / 48))]⟩] }
  | _ => none
theorem rx_endsz [G384] (cbs : List CB) (r : BR) (hF : rxFz cbs = some r) (hp : r.pre) : EndsB Tryd.prog tyT [] fRx cbs r := by
  unfold rxFz at hF
  split at hF
  · rename_i k s f n
    injection hF with hF
    subst hF
    obtain ⟨hn, hk, hs, bk, bs⟩ : n = 0 ∧ k.length ≤ 800000 ∧ s.length ≤ 800000 ∧ isBs k ∧ isBs s := hp
    subst hn
    intro κ
    have h := (rx_start κ k s f 0 hk hs bk bs).trans (rx_nil f (exM k s))
    exact ⟨[.fin], _, .av (.one (.v (.slice none 0 0))), [], .inr rfl, h, by kernel_rfl, by kernel_rfl, by kernel_rfl⟩
  · cases hF
theorem rx_ends [G384] (cbs : List CB) (r : BR) (hF : rxF cbs = some r) (hp : r.pre) : EndsB Tryd.prog tyT [] fRx cbs r := by
  unfold rxF at hF
  split at hF
  · rename_i k s f n
    injection hF with hF
    subst hF
    obtain ⟨h1, h2, hk, hs, hf, bk, bs, bf⟩ : 1 ≤ n ∧ n ≤ 1000 ∧ k.length ≤ 800000 ∧ s.length ≤ 800000 ∧ f.length ≤ 700000 ∧ isBs k ∧ isBs s ∧ isBs f := hp
    obtain ⟨N, rfl⟩ : ∃ N : Nat, n = N := ⟨n.toNat, by omega⟩
    intro κ
    have h := (rx_start κ k s f N hk hs bk bs).trans (rx_go f (exM k s) N (macL_len _ _) hf (isBs_mac _ _) bf (by omega) (by omega))
    exact ⟨[.fin], _, .av (.one (.r 0 0 N 0)), [0], .inr rfl, h, by kernel_rfl, by kernel_rfl, by kernel_rfl⟩
  · cases hF
theorem rexpand_entz [G384] (sh : List ShB) (hs : sh.length = 4 := by rfl) : EntOK Tryd.prog 29 (entB sh rxFz) :=
  ok_B tyT_ok Tryd.func29 (by kernel_rfl) (by kernel_rfl) [] (fun x hx => by cases hx) (by rw [hs]; kernel_rfl) rx_endsz
theorem rexpand_ent [G384] (sh : List ShB) (hs : sh.length = 4 := by rfl) : EntOK Tryd.prog 29 (entB sh rxF) :=
  ok_B tyT_ok Tryd.func29 (by kernel_rfl) (by kernel_rfl) [] (fun x hx => by cases hx) (by rw [hs]; kernel_rfl) rx_ends
end
end Go.Proofs.YtmhmfmnjdbehcaaDoor.Am
