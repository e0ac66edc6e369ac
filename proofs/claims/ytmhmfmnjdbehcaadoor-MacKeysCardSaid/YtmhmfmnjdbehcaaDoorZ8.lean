/- The sums of one, two, three parts. Conditions: none. -/
import Derived.Test.YtmhmfmnjdbehcaaDoorZ7
set_option linter.unusedSectionVars false
namespace Go.Proofs.YtmhmfmnjdbehcaaDoor.Am
set_option linter.unusedVariables false
set_option linter.unusedSimpArgs false
open Go Go.RowKit
set_option linter.unusedSectionVars false
variable [GT] [GRnd]
theorem lf_all (a b : List Int) : (a ++ b).drop (128 * KN a) = lf a ++ b := by
  rw [lf_eq, List.drop_append_of_le_length (KN_le a)]
theorem KN_app (a b : List Int) : KN (a ++ b) = KN a + KN (lf a ++ b) := by
  have := lf_len a
  unfold KN
  simp only [List.length_append]
  omega
theorem abN_pre (s a b : List Int) : ∀ j, j ≤ KN a → abN s (a ++ b) j = abN s a j
  | 0, _ => rfl
  | j + 1, h => by
    have hle := KN_le a
    show compL (abN s (a ++ b) j) _ = compL (abN s a j) _
    rw [abN_pre s a b j (by omega), List.drop_append_of_le_length (by omega), List.take_append_of_le_length (by rw [List.length_drop]; omega)]
theorem abN_app (s a b : List Int) : ∀ k, abN s (a ++ b) (KN a + k) = abN (abA s a) (lf a ++ b) k
  | 0 => abN_pre s a b _ (Nat.le_refl _)
  | k + 1 => by
    show compL (abN s (a ++ b) (KN a + k)) (((a ++ b).drop (128 * (KN a + k))).take 128) = compL (abN (abA s a) (lf a ++ b) k) _
    rw [abN_app s a b k, Nat.mul_add, ← List.drop_drop, lf_all]
theorem abA_app (s a b : List Int) : abA (abA s a) (lf a ++ b) = abA s (a ++ b) := by
  show abN _ _ (KN (lf a ++ b)) = abN _ _ (KN (a ++ b))
  rw [KN_app a b, abN_app]
theorem lf_app (a b : List Int) : lf (lf a ++ b) = lf (a ++ b) := by
  rw [lf_eq (lf a ++ b), lf_eq (a ++ b), KN_app a b, Nat.mul_add, ← List.drop_drop, lf_all]
/-- The sum of a row, from a start. -/
def shaL (s a : List Int) : List Int := byL (g2 (abA s (a ++ tailL a.length)))
theorem shaL_len (s a : List Int) : (shaL s a).length = 64 := byL_len _
theorem sumW_eq (s a : List Int) (n : Int) (hn : n = a.length) : sumW (abA s a) (lf a) n = shaL s a := by
  subst hn
  unfold sumW shaL
  rw [Int.toNat_natCast, abA_app]
/-- A sum that goes on. -/
def hsC (s : List Int) : List Int := keyL 8 (g2 s)
noncomputable abbrev fS5 : Func := Tryd.f25
noncomputable def s512O1 : List (Nat × Ent) := [(19, entB [.mu 63 [.ag .u64 8, .sl .u8, .sg, .sg], .rs [.sl .u8]] adF), (20, entB [.rd [.ag .u64 8, .sl .u8, .sg, .sg]] suF), (17, entB [] nwF512)]
theorem s512O1_ok [G512] : OOK Tryd.prog s512O1 := ook_of (l := [(19, entB [.mu 63 [.ag .u64 8, .sl .u8, .sg, .sg], .rs [.sl .u8]] adF), (20, entB [.rd [.ag .u64 8, .sl .u8, .sg, .sg]] suF), (17, entB [] nwF512)]) ⟨add_ent _, sum_ent _, new512_ent _, trivial⟩
theorem s512_run1 (κ : Nat → Value) (cap : Nat) (p : List Int) : runF tyT s512O1 noH [] 0 [2] [2] fS5 (bA [.rs cap [.sl .u8 p]] 0 0) (bH κ [.rs cap [.sl .u8 p]] 0 0) 2 [] = some ([.fin], { tm := tmL 12 [(2, .av (.one (.p 0 0)))], hp := [(0, ⟨0, 34, [.arr .u8 (keyL 64 (g2 (sumW (keyL 8 (g2 (abA kStart512 ([] ++ (cutI p 0 p.length))))) (lf ([] ++ (cutI p 0 p.length))) ((0 : Int) + ((cutI p 0 p.length).length : Int)))))]⟩)], nx := 1, gl := [] }, [True, 0 + p.length ≤ p.length, 63 = 63 ∧ kStart512.length = 8 ∧ ([] : List Int).length + (cutI p 0 p.length).length ≤ 900000 ∧ (0 : Int) ≤ 0 ∧ (0 : Int) ≤ 1000000, 128 * KN ([] ++ (cutI p 0 p.length)) + (([] ++ (cutI p 0 p.length)).length - 128 * KN ([] ++ (cutI p 0 p.length))) ≤ ([] ++ (cutI p 0 p.length)).length, (keyL 8 (g2 (abA kStart512 ([] ++ (cutI p 0 p.length))))).length = 8 ∧ (lf ([] ++ (cutI p 0 p.length))).length ≤ 1000 ∧ 0 ≤ ((0 : Int) + ((cutI p 0 p.length).length : Int)) ∧ ((0 : Int) + ((cutI p 0 p.length).length : Int)) ≤ 1000000 ∧ ((64 : Int) = 64 ∨ (64 : Int) = 48)]) := by kernel_rfl
def s512F1 : List CB → Option BR
  | [.rs _ [.sl .u8 p]] => some { pre := p.length ≤ 900000, val := .av (.one (.arr .u8 (keyL 64 (g2 (shaL kStart512 (p)))))) }
  | _ => none
theorem s512_ends1 [G512] (cbs : List CB) (r : BR) (hF : s512F1 cbs = some r) (hp : r.pre) : EndsB Tryd.prog tyT [] fS5 cbs r := by
  unfold s512F1 at hF
  split at hF
  · rename_i cap p
    injection hF with hF
    subst hF
    have hl : p.length ≤ 900000 := hp
    intro κ
    have hrun := s512_run1 κ cap p
    have h8 : kStart512.length = 8 := rfl
    rw [keyL_g2 (abA_len h8 _)] at hrun
    simp only [cutI_all, List.nil_append, abA_app, lf_app, List.append_assoc] at hrun
    rw [sumW_eq _ _ _ (by first | omega | (simp only [List.length_append, Int.natCast_add]; omega))] at hrun
    have h := FromK.run (m0 := 0) tyT_ok s512O1_ok mixed_ hrun ?_
    · exact ⟨[.fin], _, .av (.one (.arr .u8 (keyL 64 (g2 (shaL kStart512 (p)))))), [], .inr rfl, h, by kernel_rfl, by kernel_rfl, by kernel_rfl⟩
    · have k1 := KN_le p
      have m1 := lf_len p
      have k2 := k1
      simp only [List.length_append] at *
      simp only [allP_cons, allP_nil, and_true, true_and, true_or, or_true, cutI_all, abA_len h8, h8, List.length_append, List.length_nil]
      omega
  · cases hF
theorem s512_ent1 [G512] (sh : List ShB) (hs : sh.length = 1 := by rfl) : EntOK Tryd.prog 25 (entB sh s512F1) :=
  ok_B tyT_ok Tryd.func25 (by kernel_rfl) (by kernel_rfl) [] (fun x hx => by cases hx) (by rw [hs]; kernel_rfl) s512_ends1
noncomputable def s512O2 : List (Nat × Ent) := [(19, entB [.mu 63 [.ag .u64 8, .sl .u8, .sg, .sg], .rs [.sl .u8, .sl .u8]] adF), (20, entB [.rd [.ag .u64 8, .sl .u8, .sg, .sg]] suF), (17, entB [] nwF512)]
theorem s512O2_ok [G512] : OOK Tryd.prog s512O2 := ook_of (l := [(19, entB [.mu 63 [.ag .u64 8, .sl .u8, .sg, .sg], .rs [.sl .u8, .sl .u8]] adF), (20, entB [.rd [.ag .u64 8, .sl .u8, .sg, .sg]] suF), (17, entB [] nwF512)]) ⟨add_ent _, sum_ent _, new512_ent _, trivial⟩
theorem s512_run2 (κ : Nat → Value) (cap : Nat) (p q : List Int) : runF tyT s512O2 noH [] 0 [3] [2] fS5 (bA [.rs cap [.sl .u8 p, .sl .u8 q]] 0 0) (bH κ [.rs cap [.sl .u8 p, .sl .u8 q]] 0 0) 3 [] = some ([.fin], { tm := tmL 12 [(2, .av (.one (.p 0 0)))], hp := [(0, ⟨0, 34, [.arr .u8 (keyL 64 (g2 (sumW (keyL 8 (g2 (abA (abA kStart512 ([] ++ (cutI p 0 p.length))) (lf ([] ++ (cutI p 0 p.length)) ++ (cutI q 0 q.length))))) (lf (lf ([] ++ (cutI p 0 p.length)) ++ (cutI q 0 q.length))) (((0 : Int) + ((cutI p 0 p.length).length : Int)) + ((cutI q 0 q.length).length : Int)))))]⟩)], nx := 1, gl := [] }, [True, 0 + p.length ≤ p.length, 0 + q.length ≤ q.length, 63 = 63 ∧ kStart512.length = 8 ∧ ([] : List Int).length + ((cutI p 0 p.length).length + (cutI q 0 q.length).length) ≤ 900000 ∧ (0 : Int) ≤ 0 ∧ (0 : Int) ≤ 1000000, 128 * KN (lf ([] ++ (cutI p 0 p.length)) ++ (cutI q 0 q.length)) + ((lf ([] ++ (cutI p 0 p.length)) ++ (cutI q 0 q.length)).length - 128 * KN (lf ([] ++ (cutI p 0 p.length)) ++ (cutI q 0 q.length))) ≤ (lf ([] ++ (cutI p 0 p.length)) ++ (cutI q 0 q.length)).length, (keyL 8 (g2 (abA (abA kStart512 ([] ++ (cutI p 0 p.length))) (lf ([] ++ (cutI p 0 p.length)) ++ (cutI q 0 q.length))))).length = 8 ∧ (lf (lf ([] ++ (cutI p 0 p.length)) ++ (cutI q 0 q.length))).length ≤ 1000 ∧ 0 ≤ (((0 : Int) + ((cutI p 0 p.length).length : Int)) + ((cutI q 0 q.length).length : Int)) ∧ (((0 : Int) + ((cutI p 0 p.length).length : Int)) + ((cutI q 0 q.length).length : Int)) ≤ 1000000 ∧ ((64 : Int) = 64 ∨ (64 : Int) = 48)]) := by kernel_rfl
def s512F2 : List CB → Option BR
  | [.rs _ [.sl .u8 p, .sl .u8 q]] => some { pre := p.length + q.length ≤ 900000, val := .av (.one (.arr .u8 (keyL 64 (g2 (shaL kStart512 (p ++ q)))))) }
  | _ => none
theorem s512_ends2 [G512] (cbs : List CB) (r : BR) (hF : s512F2 cbs = some r) (hp : r.pre) : EndsB Tryd.prog tyT [] fS5 cbs r := by
  unfold s512F2 at hF
  split at hF
  · rename_i cap p q
    injection hF with hF
    subst hF
    have hl : p.length + q.length ≤ 900000 := hp
    intro κ
    have hrun := s512_run2 κ cap p q
    have h8 : kStart512.length = 8 := rfl
    rw [keyL_g2 (abA_len (abA_len h8 _) _)] at hrun
    simp only [cutI_all, List.nil_append, abA_app, lf_app, List.append_assoc] at hrun
    rw [sumW_eq _ _ _ (by first | omega | (simp only [List.length_append, Int.natCast_add]; omega))] at hrun
    have h := FromK.run (m0 := 0) tyT_ok s512O2_ok mixed_ hrun ?_
    · exact ⟨[.fin], _, .av (.one (.arr .u8 (keyL 64 (g2 (shaL kStart512 (p ++ q)))))), [], .inr rfl, h, by kernel_rfl, by kernel_rfl, by kernel_rfl⟩
    · have k1 := KN_le p
      have m1 := lf_len p
      have k2 := KN_le (lf p ++ q)
      have m2 := lf_len (p ++ q)
      simp only [List.length_append] at *
      simp only [allP_cons, allP_nil, and_true, true_and, true_or, or_true, cutI_all, abA_len h8, h8, List.length_append, List.length_nil]
      omega
  · cases hF
theorem s512_ent2 [G512] (sh : List ShB) (hs : sh.length = 1 := by rfl) : EntOK Tryd.prog 25 (entB sh s512F2) :=
  ok_B tyT_ok Tryd.func25 (by kernel_rfl) (by kernel_rfl) [] (fun x hx => by cases hx) (by rw [hs]; kernel_rfl) s512_ends2
noncomputable def s512O3 : List (Nat × Ent) := [(19, entB [.mu 63 [.ag .u64 8, .sl .u8, .sg, .sg], .rs [.sl .u8, .sl .u8, .sl .u8]] adF), (20, entB [.rd [.ag .u64 8, .sl .u8, .sg, .sg]] suF), (17, entB [] nwF512)]
theorem s512O3_ok [G512] : OOK Tryd.prog s512O3 := ook_of (l := [(19, entB [.mu 63 [.ag .u64 8, .sl .u8, .sg, .sg], .rs [.sl .u8, .sl .u8, .sl .u8]] adF), (20, entB [.rd [.ag .u64 8, .sl .u8, .sg, .sg]] suF), (17, entB [] nwF512)]) ⟨add_ent _, sum_ent _, new512_ent _, trivial⟩
theorem s512_run3 (κ : Nat → Value) (cap : Nat) (p q u : List Int) : runF tyT s512O3 noH [] 0 [4] [2] fS5 (bA [.rs cap [.sl .u8 p, .sl .u8 q, .sl .u8 u]] 0 0) (bH κ [.rs cap [.sl .u8 p, .sl .u8 q, .sl .u8 u]] 0 0) 4 [] = some ([.fin], { tm := tmL 12 [(2, .av (.one (.p 0 0)))], hp := [(0, ⟨0, 34, [.arr .u8 (keyL 64 (g2 (sumW (keyL 8 (g2 (abA (abA (abA kStart512 ([] ++ (cutI p 0 p.length))) (lf ([] ++ (cutI p 0 p.length)) ++ (cutI q 0 q.length))) (lf (lf ([] ++ (cutI p 0 p.length)) ++ (cutI q 0 q.length)) ++ (cutI u 0 u.length))))) (lf (lf (lf ([] ++ (cutI p 0 p.length)) ++ (cutI q 0 q.length)) ++ (cutI u 0 u.length))) ((((0 : Int) + ((cutI p 0 p.length).length : Int)) + ((cutI q 0 q.length).length : Int)) + ((cutI u 0 u.length).length : Int)))))]⟩)], nx := 1, gl := [] }, [True, 0 + p.length ≤ p.length, 0 + q.length ≤ q.length, 0 + u.length ≤ u.length, 63 = 63 ∧ kStart512.length = 8 ∧ ([] : List Int).length + ((cutI p 0 p.length).length + (cutI q 0 q.length).length + (cutI u 0 u.length).length) ≤ 900000 ∧ (0 : Int) ≤ 0 ∧ (0 : Int) ≤ 1000000, 128 * KN (lf (lf ([] ++ (cutI p 0 p.length)) ++ (cutI q 0 q.length)) ++ (cutI u 0 u.length)) + ((lf (lf ([] ++ (cutI p 0 p.length)) ++ (cutI q 0 q.length)) ++ (cutI u 0 u.length)).length - 128 * KN (lf (lf ([] ++ (cutI p 0 p.length)) ++ (cutI q 0 q.length)) ++ (cutI u 0 u.length))) ≤ (lf (lf ([] ++ (cutI p 0 p.length)) ++ (cutI q 0 q.length)) ++ (cutI u 0 u.length)).length, (keyL 8 (g2 (abA (abA (abA kStart512 ([] ++ (cutI p 0 p.length))) (lf ([] ++ (cutI p 0 p.length)) ++ (cutI q 0 q.length))) (lf (lf ([] ++ (cutI p 0 p.length)) ++ (cutI q 0 q.length)) ++ (cutI u 0 u.length))))).length = 8 ∧ (lf (lf (lf ([] ++ (cutI p 0 p.length)) ++ (cutI q 0 q.length)) ++ (cutI u 0 u.length))).length ≤ 1000 ∧ 0 ≤ ((((0 : Int) + ((cutI p 0 p.length).length : Int)) + ((cutI q 0 q.length).length : Int)) + ((cutI u 0 u.length).length : Int)) ∧ ((((0 : Int) + ((cutI p 0 p.length).length : Int)) + ((cutI q 0 q.length).length : Int)) + ((cutI u 0 u.length).length : Int)) ≤ 1000000 ∧ ((64 : Int) = 64 ∨ (64 : Int) = 48)]) := by kernel_rfl
def s512F3 : List CB → Option BR
  | [.rs _ [.sl .u8 p, .sl .u8 q, .sl .u8 u]] => some { pre := p.length + q.length + u.length ≤ 900000, val := .av (.one (.arr .u8 (keyL 64 (g2 (shaL kStart512 (p ++ (q ++ u))))))) }
  | _ => none
theorem s512_ends3 [G512] (cbs : List CB) (r : BR) (hF : s512F3 cbs = some r) (hp : r.pre) : EndsB Tryd.prog tyT [] fS5 cbs r := by
  unfold s512F3 at hF
  split at hF
  · rename_i cap p q u
    injection hF with hF
    subst hF
    have hl : p.length + q.length + u.length ≤ 900000 := hp
    intro κ
    have hrun := s512_run3 κ cap p q u
    have h8 : kStart512.length = 8 := rfl
    rw [keyL_g2 (abA_len (abA_len (abA_len h8 _) _) _)] at hrun
    simp only [cutI_all, List.nil_append, abA_app, lf_app, List.append_assoc] at hrun
    rw [sumW_eq _ _ _ (by first | omega | (simp only [List.length_append, Int.natCast_add]; omega))] at hrun
    have h := FromK.run (m0 := 0) tyT_ok s512O3_ok mixed_ hrun ?_
    · exact ⟨[.fin], _, .av (.one (.arr .u8 (keyL 64 (g2 (shaL kStart512 (p ++ (q ++ u))))))), [], .inr rfl, h, by kernel_rfl, by kernel_rfl, by kernel_rfl⟩
    · have k1 := KN_le p
      have m1 := lf_len p
      have k2 := KN_le (lf (p ++ q) ++ u)
      have m2 := lf_len (p ++ (q ++ u))
      have m3 := lf_len (p ++ q)
      simp only [List.length_append] at *
      simp only [allP_cons, allP_nil, and_true, true_and, true_or, or_true, cutI_all, abA_len h8, h8, List.length_append, List.length_nil]
      omega
  · cases hF
theorem s512_ent3 [G512] (sh : List ShB) (hs : sh.length = 1 := by rfl) : EntOK Tryd.prog 25 (entB sh s512F3) :=
  ok_B tyT_ok Tryd.func25 (by kernel_rfl) (by kernel_rfl) [] (fun x hx => by cases hx) (by rw [hs]; kernel_rfl) s512_ends3
noncomputable abbrev fS3 : Func := Tryd.f26
noncomputable def s384O1 : List (Nat × Ent) := [(19, entB [.mu 63 [.ag .u64 8, .sl .u8, .sg, .sg], .rs [.sl .u8]] adF), (20, entB [.rd [.ag .u64 8, .sl .u8, .sg, .sg]] suF), (18, entB [] nwF384)]
theorem s384O1_ok [G384] : OOK Tryd.prog s384O1 := ook_of (l := [(19, entB [.mu 63 [.ag .u64 8, .sl .u8, .sg, .sg], .rs [.sl .u8]] adF), (20, entB [.rd [.ag .u64 8, .sl .u8, .sg, .sg]] suF), (18, entB [] nwF384)]) ⟨add_ent _, sum_ent _, new384_ent _, trivial⟩
theorem s384_run1 (κ : Nat → Value) (cap : Nat) (p : List Int) : runF tyT s384O1 noH [] 0 [2] [2] fS3 (bA [.rs cap [.sl .u8 p]] 0 0) (bH κ [.rs cap [.sl .u8 p]] 0 0) 2 [] = some ([.fin], { tm := tmL 12 [(2, .av (.one (.p 0 0)))], hp := [(0, ⟨0, 36, [.arr .u8 (keyL 48 (g2 (sumW (keyL 8 (g2 (abA kStart384 ([] ++ (cutI p 0 p.length))))) (lf ([] ++ (cutI p 0 p.length))) ((0 : Int) + ((cutI p 0 p.length).length : Int)))))]⟩)], nx := 1, gl := [] }, [True, 0 + p.length ≤ p.length, 63 = 63 ∧ kStart384.length = 8 ∧ ([] : List Int).length + (cutI p 0 p.length).length ≤ 900000 ∧ (0 : Int) ≤ 0 ∧ (0 : Int) ≤ 1000000, 128 * KN ([] ++ (cutI p 0 p.length)) + (([] ++ (cutI p 0 p.length)).length - 128 * KN ([] ++ (cutI p 0 p.length))) ≤ ([] ++ (cutI p 0 p.length)).length, (keyL 8 (g2 (abA kStart384 ([] ++ (cutI p 0 p.length))))).length = 8 ∧ (lf ([] ++ (cutI p 0 p.length))).length ≤ 1000 ∧ 0 ≤ ((0 : Int) + ((cutI p 0 p.length).length : Int)) ∧ ((0 : Int) + ((cutI p 0 p.length).length : Int)) ≤ 1000000 ∧ ((48 : Int) = 64 ∨ (48 : Int) = 48)]) := by kernel_rfl
def s384F1 : List CB → Option BR
  | [.rs _ [.sl .u8 p]] => some { pre := p.length ≤ 900000, val := .av (.one (.arr .u8 (keyL 48 (g2 (shaL kStart384 (p)))))) }
  | _ => none
theorem s384_ends1 [G384] (cbs : List CB) (r : BR) (hF : s384F1 cbs = some r) (hp : r.pre) : EndsB Tryd.prog tyT [] fS3 cbs r := by
  unfold s384F1 at hF
  split at hF
  · rename_i cap p
    injection hF with hF
    subst hF
    have hl : p.length ≤ 900000 := hp
    intro κ
    have hrun := s384_run1 κ cap p
    have h8 : kStart384.length = 8 := rfl
    rw [keyL_g2 (abA_len h8 _)] at hrun
    simp only [cutI_all, List.nil_append, abA_app, lf_app, List.append_assoc] at hrun
    rw [sumW_eq _ _ _ (by first | omega | (simp only [List.length_append, Int.natCast_add]; omega))] at hrun
    have h := FromK.run (m0 := 0) tyT_ok s384O1_ok mixed_ hrun ?_
    · exact ⟨[.fin], _, .av (.one (.arr .u8 (keyL 48 (g2 (shaL kStart384 (p)))))), [], .inr rfl, h, by kernel_rfl, by kernel_rfl, by kernel_rfl⟩
    · have k1 := KN_le p
      have m1 := lf_len p
      have k2 := k1
      simp only [List.length_append] at *
      simp only [allP_cons, allP_nil, and_true, true_and, true_or, or_true, cutI_all, abA_len h8, h8, List.length_append, List.length_nil]
      omega
  · cases hF
theorem s384_ent1 [G384] (sh : List ShB) (hs : sh.length = 1 := by rfl) : EntOK Tryd.prog 26 (entB sh s384F1) :=
  ok_B tyT_ok Tryd.func26 (by kernel_rfl) (by kernel_rfl) [] (fun x hx => by cases hx) (by rw [hs]; kernel_rfl) s384_ends1
noncomputable def s384O2 : List (Nat × Ent) := [(19, entB [.mu 63 [.ag .u64 8, .sl .u8, .sg, .sg], .rs [.sl .u8, .sl .u8]] adF), (20, entB [.rd [.ag .u64 8, .sl .u8, .sg, .sg]] suF), (18, entB [] nwF384)]
theorem s384O2_ok [G384] : OOK Tryd.prog s384O2 := ook_of (l := [(19, entB [.mu 63 [.ag .u64 8, .sl .u8, .sg, .sg], .rs [.sl .u8, .sl .u8]] adF), (20, entB [.rd [.ag .u64 8, .sl .u8, .sg, .sg]] suF), (18, entB [] nwF384)]) ⟨add_ent _, sum_ent _, new384_ent _, trivial⟩
theorem s384_run2 (κ : Nat → Value) (cap : Nat) (p q : List Int) : runF tyT s384O2 noH [] 0 [3] [2] fS3 (bA [.rs cap [.sl .u8 p, .sl .u8 q]] 0 0) (bH κ [.rs cap [.sl .u8 p, .sl .u8 q]] 0 0) 3 [] = some ([.fin], { tm := tmL 12 [(2, .av (.one (.p 0 0)))], hp := [(0, ⟨0, 36, [.arr .u8 (keyL 48 (g2 (sumW (keyL 8 (g2 (abA (abA kStart384 ([] ++ (cutI p 0 p.length))) (lf ([] ++ (cutI p 0 p.length)) ++ (cutI q 0 q.length))))) (lf (lf ([] ++ (cutI p 0 p.length)) ++ (cutI q 0 q.length))) (((0 : Int) + ((cutI p 0 p.length).length : Int)) + ((cutI q 0 q.length).length : Int)))))]⟩)], nx := 1, gl := [] }, [True, 0 + p.length ≤ p.length, 0 + q.length ≤ q.length, 63 = 63 ∧ kStart384.length = 8 ∧ ([] : List Int).length + ((cutI p 0 p.length).length + (cutI q 0 q.length).length) ≤ 900000 ∧ (0 : Int) ≤ 0 ∧ (0 : Int) ≤ 1000000, 128 * KN (lf ([] ++ (cutI p 0 p.length)) ++ (cutI q 0 q.length)) + ((lf ([] ++ (cutI p 0 p.length)) ++ (cutI q 0 q.length)).length - 128 * KN (lf ([] ++ (cutI p 0 p.length)) ++ (cutI q 0 q.length))) ≤ (lf ([] ++ (cutI p 0 p.length)) ++ (cutI q 0 q.length)).length, (keyL 8 (g2 (abA (abA kStart384 ([] ++ (cutI p 0 p.length))) (lf ([] ++ (cutI p 0 p.length)) ++ (cutI q 0 q.length))))).length = 8 ∧ (lf (lf ([] ++ (cutI p 0 p.length)) ++ (cutI q 0 q.length))).length ≤ 1000 ∧ 0 ≤ (((0 : Int) + ((cutI p 0 p.length).length : Int)) + ((cutI q 0 q.length).length : Int)) ∧ (((0 : Int) + ((cutI p 0 p.length).length : Int)) + ((cutI q 0 q.length).length : Int)) ≤ 1000000 ∧ ((48 : Int) = 64 ∨ (48 : Int) = 48)]) := by kernel_rfl
def s384F2 : List CB → Option BR
  | [.rs _ [.sl .u8 p, .sl .u8 q]] => some { pre := p.length + q.length ≤ 900000, val := .av (.one (.arr .u8 (keyL 48 (g2 (shaL kStart384 (p ++ q)))))) }
  | _ => none
theorem s384_ends2 [G384] (cbs : List CB) (r : BR) (hF : s384F2 cbs = some r) (hp : r.pre) : EndsB Tryd.prog tyT [] fS3 cbs r := by
  unfold s384F2 at hF
  split at hF
  · rename_i cap p q
    injection hF with hF
    subst hF
    have hl : p.length + q.length ≤ 900000 := hp
    intro κ
    have hrun := s384_run2 κ cap p q
    have h8 : kStart384.length = 8 := rfl
    rw [keyL_g2 (abA_len (abA_len h8 _) _)] at hrun
    simp only [cutI_all, List.nil_append, abA_app, lf_app, List.append_assoc] at hrun
    rw [sumW_eq _ _ _ (by first | omega | (simp only [List.length_append, Int.natCast_add]; omega))] at hrun
    have h := FromK.run (m0 := 0) tyT_ok s384O2_ok mixed_ hrun ?_
    · exact ⟨[.fin], _, .av (.one (.arr .u8 (keyL 48 (g2 (shaL kStart384 (p ++ q)))))), [], .inr rfl, h, by kernel_rfl, by kernel_rfl, by kernel_rfl⟩
    · have k1 := KN_le p
      have m1 := lf_len p
      have k2 := KN_le (lf p ++ q)
      have m2 := lf_len (p ++ q)
      simp only [List.length_append] at *
      simp only [allP_cons, allP_nil, and_true, true_and, true_or, or_true, cutI_all, abA_len h8, h8, List.length_append, List.length_nil]
      omega
  · cases hF
theorem s384_ent2 [G384] (sh : List ShB) (hs : sh.length = 1 := by rfl) : EntOK Tryd.prog 26 (entB sh s384F2) :=
  ok_B tyT_ok Tryd.func26 (by kernel_rfl) (by kernel_rfl) [] (fun x hx => by cases hx) (by rw [hs]; kernel_rfl) s384_ends2
noncomputable def s384O3 : List (Nat × Ent) := [(19, entB [.mu 63 [.ag .u64 8, .sl .u8, .sg, .sg], .rs [.sl .u8, .sl .u8, .sl .u8]] adF), (20, entB [.rd [.ag .u64 8, .sl .u8, .sg, .sg]] suF), (18, entB [] nwF384)]
theorem s384O3_ok [G384] : OOK Tryd.prog s384O3 := ook_of (l := [(19, entB [.mu 63 [.ag .u64 8, .sl .u8, .sg, .sg], .rs [.sl .u8, .sl .u8, .sl .u8]] adF), (20, entB [.rd [.ag .u64 8, .sl .u8, .sg, .sg]] suF), (18, entB [] nwF384)]) ⟨add_ent _, sum_ent _, new384_ent _, trivial⟩
theorem s384_run3 (κ : Nat → Value) (cap : Nat) (p q u : List Int) : runF tyT s384O3 noH [] 0 [4] [2] fS3 (bA [.rs cap [.sl .u8 p, .sl .u8 q, .sl .u8 u]] 0 0) (bH κ [.rs cap [.sl .u8 p, .sl .u8 q, .sl .u8 u]] 0 0) 4 [] = some ([.fin], { tm := tmL 12 [(2, .av (.one (.p 0 0)))], hp := [(0, ⟨0, 36, [.arr .u8 (keyL 48 (g2 (sumW (keyL 8 (g2 (abA (abA (abA kStart384 ([] ++ (cutI p 0 p.length))) (lf ([] ++ (cutI p 0 p.length)) ++ (cutI q 0 q.length))) (lf (lf ([] ++ (cutI p 0 p.length)) ++ (cutI q 0 q.length)) ++ (cutI u 0 u.length))))) (lf (lf (lf ([] ++ (cutI p 0 p.length)) ++ (cutI q 0 q.length)) ++ (cutI u 0 u.length))) ((((0 : Int) + ((cutI p 0 p.length).length : Int)) + ((cutI q 0 q.length).length : Int)) + ((cutI u 0 u.length).length : Int)))))]⟩)], nx := 1, gl := [] }, [True, 0 + p.length ≤ p.length, 0 + q.length ≤ q.length, 0 + u.length ≤ u.length, 63 = 63 ∧ kStart384.length = 8 ∧ ([] : List Int).length + ((cutI p 0 p.length).length + (cutI q 0 q.length).length + (cutI u 0 u.length).length) ≤ 900000 ∧ (0 : Int) ≤ 0 ∧ (0 : Int) ≤ 1000000, 128 * KN (lf (lf ([] ++ (cutI p 0 p.length)) ++ (cutI q 0 q.length)) ++ (cutI u 0 u.length)) + ((lf (lf ([] ++ (cutI p 0 p.length)) ++ (cutI q 0 q.length)) ++ (cutI u 0 u.length)).length - 128 * KN (lf (lf ([] ++ (cutI p 0 p.length)) ++ (cutI q 0 q.length)) ++ (cutI u 0 u.length))) ≤ (lf (lf ([] ++ (cutI p 0 p.length)) ++ (cutI q 0 q.length)) ++ (cutI u 0 u.length)).length, (keyL 8 (g2 (abA (abA (abA kStart384 ([] ++ (cutI p 0 p.length))) (lf ([] ++ (cutI p 0 p.length)) ++ (cutI q 0 q.length))) (lf (lf ([] ++ (cutI p 0 p.length)) ++ (cutI q 0 q.length)) ++ (cutI u 0 u.length))))).length = 8 ∧ (lf (lf (lf ([] ++ (cutI p 0 p.length)) ++ (cutI q 0 q.length)) ++ (cutI u 0 u.length))).length ≤ 1000 ∧ 0 ≤ ((((0 : Int) + ((cutI p 0 p.length).length : Int)) + ((cutI q 0 q.length).length : Int)) + ((cutI u 0 u.length).length : Int)) ∧ ((((0 : Int) + ((cutI p 0 p.length).length : Int)) + ((cutI q 0 q.length).length : Int)) + ((cutI u 0 u.length).length : Int)) ≤ 1000000 ∧ ((48 : Int) = 64 ∨ (48 : Int) = 48)]) := by kernel_rfl
def s384F3 : List CB → Option BR
  | [.rs _ [.sl .u8 p, .sl .u8 q, .sl .u8 u]] => some { pre := p.length + q.length + u.length ≤ 900000, val := .av (.one (.arr .u8 (keyL 48 (g2 (shaL kStart384 (p ++ (q ++ u))))))) }
  | _ => none
theorem s384_ends3 [G384] (cbs : List CB) (r : BR) (hF : s384F3 cbs = some r) (hp : r.pre) : EndsB Tryd.prog tyT [] fS3 cbs r := by
  unfold s384F3 at hF
  split at hF
  · rename_i cap p q u
    injection hF with hF
    subst hF
    have hl : p.length + q.length + u.length ≤ 900000 := hp
    intro κ
    have hrun := s384_run3 κ cap p q u
    have h8 : kStart384.length = 8 := rfl
    rw [keyL_g2 (abA_len (abA_len (abA_len h8 _) _) _)] at hrun
    simp only [cutI_all, List.nil_append, abA_app, lf_app, List.append_assoc] at hrun
    rw [sumW_eq _ _ _ (by first | omega | (simp only [List.length_append, Int.natCast_add]; omega))] at hrun
    have h := FromK.run (m0 := 0) tyT_ok s384O3_ok mixed_ hrun ?_
    · exact ⟨[.fin], _, .av (.one (.arr .u8 (keyL 48 (g2 (shaL kStart384 (p ++ (q ++ u))))))), [], .inr rfl, h, by kernel_rfl, by kernel_rfl, by kernel_rfl⟩
    · have k1 := KN_le p
      have m1 := lf_len p
      have k2 := KN_le (lf (p ++ q) ++ u)
      have m2 := lf_len (p ++ (q ++ u))
      have m3 := lf_len (p ++ q)
      simp only [List.length_append] at *
      simp only [allP_cons, allP_nil, and_true, true_and, true_or, or_true, cutI_all, abA_len h8, h8, List.length_append, List.length_nil]
      omega
  · cases hF
theorem s384_ent3 [G384] (sh : List ShB) (hs : sh.length = 1 := by rfl) : EntOK Tryd.prog 26 (entB sh s384F3) :=
  ok_B tyT_ok Tryd.func26 (by kernel_rfl) (by kernel_rfl) [] (fun x hx => by cases hx) (by rw [hs]; kernel_rfl) s384_ends3
end Go.Proofs.YtmhmfmnjdbehcaaDoor.Am
/- The document's words: Turn, down, choose, major, word. Conditions: none. -/
namespace Go.Proofs.YtmhmfmnjdbehcaaDoor.Am
set_option linter.unusedVariables false
set_option linter.unusedSimpArgs false
open Go Go.RowKit
set_option linter.unusedSectionVars false
variable [GT] [GRnd]
noncomputable abbrev fTr : Func := Tryd.f50
noncomputable abbrev fDn : Func := Tryd.f51
noncomputable abbrev fWr : Func := Tryd.f49
noncomputable abbrev fCh : Func := Tryd.f52
noncomputable abbrev fMa : Func := Tryd.f53
def trB (x : Int) (n : Nat) : List CB := [.av (.one (.v (.int .u64 x))), .av (.one (.v (.int .i64 n)))]
def trS (m : Nat) (x : Int) (n i : Nat) : St := { tm := tmL m [(0, ofV (.int .u64 x)), (1, ofV (.int .i64 n)), (5, ofV (.int .i64 (i : Nat)))], hp := [], nx := 0, gl := [] }
def trE (m : Nat) (x : Int) : St := { tm := tmL m [(4, ofV (.int .u64 x))], hp := [], nx := 0, gl := [] }
theorem tr_start (κ : Nat → Value) (x : Int) (n : Nat) : runF tyT [] noH [] 0 [] [0, 1, 5] fTr (bA (trB x n) 0 0) (bH κ (trB x n) 0 0) 0 [] = some (toAt fTr 2 [], trS 21 x n 0, []) := by kernel_rfl
theorem tr_odd (x : Int) (n i k_ : Nat) : runN tyT [] (atH 2 2 (isB true) (atH 6 1 (isB true) (atH 3 1 (isI .i64 ((i + 1 : Nat) : Int)) noH))) [] 2000 0 [] [0, 1, 5] (inAt fTr 2 [] k_) (trS 21 x n i) = some (hdAt fTr 2 [] k_, trS 21 (IntKind.wrap .u64 (IntKind.wrap .u64 (Int.tdiv x 2) + 9223372036854775808)) n (i + 1), [tB (decide ((i : Int) < n)) true, tB (Int.tmod x 2 == 1) true, tI .i64 (IntKind.wrap .i64 ((i : Int) + 1)) ((i + 1 : Nat) : Int)]) := by kernel_rfl
theorem tr_even (x : Int) (n i k_ : Nat) : runN tyT [] (atH 2 2 (isB true) (atH 6 1 (isB false) (atH 3 1 (isI .i64 ((i + 1 : Nat) : Int)) noH))) [] 2000 0 [] [0, 1, 5] (inAt fTr 2 [] k_) (trS 21 x n i) = some (hdAt fTr 2 [] k_, trS 21 (IntKind.wrap .u64 (Int.tdiv x 2)) n (i + 1), [tB (decide ((i : Int) < n)) true, tB (Int.tmod x 2 == 1) false, tI .i64 (IntKind.wrap .i64 ((i : Int) + 1)) ((i + 1 : Nat) : Int)]) := by kernel_rfl
theorem tr_end (x : Int) (n i k_ : Nat) : runN tyT [] (atH 2 2 (isB false) noH) [] 2000 0 [] [4] (inAt fTr 2 [] k_) (trS 21 x n i) = some ([.fin], trE 21 x, [tB (decide ((i : Int) < n)) false]) := by kernel_rfl
theorem tr_rounds (X n : Nat) (hX : X < 18446744073709551616) (hn : n ≤ 64) : ∀ (r i : Nat), i + r = n → Reaches Tryd.prog 0 (hdAt fTr 2 [] (r + 1)) (trS 21 (turT X i : Nat) n i) [.fin] (trE 21 (turT X n : Nat))
  | 0, i, h => by
    obtain rfl : i = n := by omega
    refine Reaches.oneK (Reaches.runK tyT_ok nil_ok mixed_ (tr_end _ _ _ 0) ?_)
    simp only [allP_cons, allP_nil, and_true, tB_nlt]
    omega
  | r + 1, i, h => by
    have ih := tr_rounds X n hX hn r (i + 1) (by omega)
    have hlt := turT_lt X i (by omega) hX
    have hs := turT_succ X i (by omega)
    have e5 := w64 (z := ((i : Nat) : Int) + 1) (by omega) (by omega)
    generalize turT X i = T at hlt hs
    have e1 : Int.tdiv (T : Int) 2 = ((T / 2 : Nat) : Int) := by
      rw [Int.tdiv_eq_ediv_of_nonneg (by omega)]
      omega
    have e2 : Int.tmod (T : Int) 2 = ((T % 2 : Nat) : Int) := by
      rw [Int.tmod_eq_emod_of_nonneg (by omega)]
      omega
    by_cases ho : T % 2 = 1
    · have hrun := tr_odd (T : Int) n i (r + 1)
      rw [e1, e2, wU (z := ((T / 2 : Nat) : Int)) (by omega) (by omega), wU (by omega) (by omega), show ((T / 2 : Nat) : Int) + 9223372036854775808 = ((turT X (i + 1) : Nat) : Int) by omega] at hrun
      refine (Reaches.oneK (Reaches.runK tyT_ok nil_ok mixed_ hrun ?_)).trans ih
      simp only [allP_cons, allP_nil, and_true, tB_lt, tB_eq, tI_iff]
      omega
    · have hrun := tr_even (T : Int) n i (r + 1)
      rw [e1, e2, wU (z := ((T / 2 : Nat) : Int)) (by omega) (by omega), show ((T / 2 : Nat) : Int) = ((turT X (i + 1) : Nat) : Int) by omega] at hrun
      refine (Reaches.oneK (Reaches.runK tyT_ok nil_ok mixed_ hrun ?_)).trans ih
      simp only [allP_cons, allP_nil, and_true, tB_lt, tB_neq, tI_iff]
      omega
def trF : List CB → Option BR
  | [.av (.one (.v (.int .u64 x))), .av (.one (.v (.int .i64 n)))] => some { pre := inU x ∧ 1 ≤ n ∧ n ≤ 63, val := .av (.one (.v (.int .u64 (rr x n.toNat)))) }
  | _ => none
theorem tr_ends (cbs : List CB) (r : BR) (hF : trF cbs = some r) (hp : r.pre) : EndsB Tryd.prog tyT [] fTr cbs r := by
  unfold trF at hF
  split at hF
  · rename_i x n
    injection hF with hF
    subst hF
    obtain ⟨⟨h0, h1⟩, h2, h3⟩ : inU x ∧ 1 ≤ n ∧ n ≤ 63 := hp
    obtain ⟨X, rfl⟩ : ∃ X : Nat, x = X := ⟨x.toNat, by omega⟩
    obtain ⟨m, rfl⟩ : ∃ m : Nat, n = m := ⟨n.toNat, by omega⟩
    intro κ
    have hr := tr_rounds X m (by omega) (by omega) m 0 (by omega)
    rw [turT_zero] at hr
    have h := (FromK.run (m0 := 0) tyT_ok nil_ok mixed_ (tr_start κ X m) trivial).trans (Reaches.roundsK (m + 1) hr)
    rw [← rr_nat X m (by omega) (by omega) (by omega)] at h
    exact ⟨[.fin], _, .av (.one (.v (.int .u64 (rr (X : Int) m)))), [], .inr rfl, h, by kernel_rfl, by kernel_rfl, by kernel_rfl⟩
  · cases hF
theorem Turn_ent (sh : List ShB) (hs : sh.length = 2 := by rfl) : EntOK Tryd.prog 50 (entB sh trF) :=
  ok_B tyT_ok Tryd.func50 (by kernel_rfl) (by kernel_rfl) [] (fun x hx => by cases hx) (by rw [hs]; kernel_rfl) tr_ends
theorem dn_start (κ : Nat → Value) (x : Int) (n : Nat) : runF tyT [] noH [] 0 [] [0, 1, 5] fDn (bA (trB x n) 0 0) (bH κ (trB x n) 0 0) 0 [] = some (toAt fDn 2 [], trS 14 x n 0, []) := by kernel_rfl
theorem dn_go (x : Int) (n i k_ : Nat) : runN tyT [] (atH 2 2 (isB true) (atH 3 1 (isI .i64 ((i + 1 : Nat) : Int)) noH)) [] 2000 0 [] [0, 1, 5] (inAt fDn 2 [] k_) (trS 14 x n i) = some (hdAt fDn 2 [] k_, trS 14 (IntKind.wrap .u64 (Int.tdiv x 2)) n (i + 1), [tB (decide ((i : Int) < n)) true, tI .i64 (IntKind.wrap .i64 ((i : Int) + 1)) ((i + 1 : Nat) : Int)]) := by kernel_rfl
theorem dn_end (x : Int) (n i k_ : Nat) : runN tyT [] (atH 2 2 (isB false) noH) [] 2000 0 [] [4] (inAt fDn 2 [] k_) (trS 14 x n i) = some ([.fin], trE 14 x, [tB (decide ((i : Int) < n)) false]) := by kernel_rfl
theorem dn_rounds (X n : Nat) (hX : X < 18446744073709551616) (hn : n ≤ 64) : ∀ (r i : Nat), i + r = n → Reaches Tryd.prog 0 (hdAt fDn 2 [] (r + 1)) (trS 14 (X / 2 ^ i : Nat) n i) [.fin] (trE 14 (X / 2 ^ n : Nat))
  | 0, i, h => by
    obtain rfl : i = n := by omega
    refine Reaches.oneK (Reaches.runK tyT_ok nil_ok mixed_ (dn_end _ _ _ 0) ?_)
    simp only [allP_cons, allP_nil, and_true, tB_nlt]
    omega
  | r + 1, i, h => by
    have ih := dn_rounds X n hX hn r (i + 1) (by omega)
    have hle := Nat.div_le_self X (2 ^ i)
    have e5 := w64 (z := ((i : Nat) : Int) + 1) (by omega) (by omega)
    rw [Nat.pow_succ, ← Nat.div_div_eq_div_mul] at ih
    generalize X / 2 ^ i = T at hle ih
    have e1 : Int.tdiv (T : Int) 2 = ((T / 2 : Nat) : Int) := by
      rw [Int.tdiv_eq_ediv_of_nonneg (by omega)]
      omega
    have hrun := dn_go (T : Int) n i (r + 1)
    rw [e1, wU (z := ((T / 2 : Nat) : Int)) (by omega) (by omega)] at hrun
    refine (Reaches.oneK (Reaches.runK tyT_ok nil_ok mixed_ hrun ?_)).trans ih
    simp only [allP_cons, allP_nil, and_true, tB_lt, tI_iff]
    omega
def dnF : List CB → Option BR
  | [.av (.one (.v (.int .u64 x))), .av (.one (.v (.int .i64 n)))] => some { pre := inU x ∧ 0 ≤ n ∧ n ≤ 63, val := .av (.one (.v (.int .u64 (ishr .u64 x n.toNat)))) }
  | _ => none
theorem dn_ends (cbs : List CB) (r : BR) (hF : dnF cbs = some r) (hp : r.pre) : EndsB Tryd.prog tyT [] fDn cbs r := by
  unfold dnF at hF
  split at hF
  · rename_i x n
    injection hF with hF
    subst hF
    obtain ⟨⟨h0, h1⟩, h2, h3⟩ : inU x ∧ 0 ≤ n ∧ n ≤ 63 := hp
    obtain ⟨X, rfl⟩ : ∃ X : Nat, x = X := ⟨x.toNat, by omega⟩
    obtain ⟨m, rfl⟩ : ∃ m : Nat, n = m := ⟨n.toNat, by omega⟩
    intro κ
    have hr := dn_rounds X m (by omega) (by omega) m 0 (by omega)
    rw [Nat.pow_zero, Nat.div_one] at hr
    have h := (FromK.run (m0 := 0) tyT_ok nil_ok mixed_ (dn_start κ X m) trivial).trans (Reaches.roundsK (m + 1) hr)
    rw [← ishr_nat X m (by omega)] at h
    exact ⟨[.fin], _, .av (.one (.v (.int .u64 (ishr .u64 (X : Int) m)))), [], .inr rfl, h, by kernel_rfl, by kernel_rfl, by kernel_rfl⟩
  · cases hF
theorem down_ent (sh : List ShB) (hs : sh.length = 2 := by rfl) : EntOK Tryd.prog 51 (entB sh dnF) :=
  ok_B tyT_ok Tryd.func51 (by kernel_rfl) (by kernel_rfl) [] (fun x hx => by cases hx) (by rw [hs]; kernel_rfl) dn_ends
def cmB (a b c : Int) : List CB := [.av (.one (.v (.int .u64 a))), .av (.one (.v (.int .u64 b))), .av (.one (.v (.int .u64 c)))]
theorem ch_run (κ : Nat → Value) (a b c : Int) : runF tyT [] noH [] 0 [] [6] fCh (bA (cmB a b c) 0 0) (bH κ (cmB a b c) 0 0) 0 [] = some ([.fin], { tm := tmL 15 [(6, ofV (.int .u64 (ior .u64 (iand .u64 a b) (iand .u64 c (IntKind.wrap .u64 (18446744073709551615 - a))))))], hp := [], nx := 0, gl := [] }, []) := by kernel_rfl
theorem ma_run (κ : Nat → Value) (a b c : Int) : runF tyT [] noH [] 0 [] [6] fMa (bA (cmB a b c) 0 0) (bH κ (cmB a b c) 0 0) 0 [] = some ([.fin], { tm := tmL 18 [(6, ofV (.int .u64 (ior .u64 (ior .u64 (iand .u64 a b) (iand .u64 a c)) (iand .u64 b c))))], hp := [], nx := 0, gl := [] }, []) := by kernel_rfl
def chF : List CB → Option BR
  | [.av (.one (.v (.int .u64 a))), .av (.one (.v (.int .u64 b))), .av (.one (.v (.int .u64 c)))] => some { val := .av (.one (.v (.int .u64 (chE a b c)))) }
  | _ => none
theorem ch_ends (cbs : List CB) (r : BR) (hF : chF cbs = some r) (hp : r.pre) : EndsB Tryd.prog tyT [] fCh cbs r := by
  unfold chF at hF
  split at hF
  · rename_i a b c
    injection hF with hF
    subst hF
    intro κ
    have h := FromK.run (m0 := 0) tyT_ok nil_ok mixed_ (ch_run κ a b c) trivial
    rw [choose_eq] at h
    exact ⟨[.fin], _, .av (.one (.v (.int .u64 (chE a b c)))), [], .inr rfl, h, by kernel_rfl, by kernel_rfl, by kernel_rfl⟩
  · cases hF
theorem choose_ent (sh : List ShB) (hs : sh.length = 3 := by rfl) : EntOK Tryd.prog 52 (entB sh chF) :=
  ok_B tyT_ok Tryd.func52 (by kernel_rfl) (by kernel_rfl) [] (fun x hx => by cases hx) (by rw [hs]; kernel_rfl) ch_ends
def maF : List CB → Option BR
  | [.av (.one (.v (.int .u64 a))), .av (.one (.v (.int .u64 b))), .av (.one (.v (.int .u64 c)))] => some { val := .av (.one (.v (.int .u64 (mjE a b c)))) }
  | _ => none
theorem ma_ends (cbs : List CB) (r : BR) (hF : maF cbs = some r) (hp : r.pre) : EndsB Tryd.prog tyT [] fMa cbs r := by
  unfold maF at hF
  split at hF
  · rename_i a b c
    injection hF with hF
    subst hF
    intro κ
    have h := FromK.run (m0 := 0) tyT_ok nil_ok mixed_ (ma_run κ a b c) trivial
    rw [major_eq] at h
    exact ⟨[.fin], _, .av (.one (.v (.int .u64 (mjE a b c)))), [], .inr rfl, h, by kernel_rfl, by kernel_rfl, by kernel_rfl⟩
  · cases hF
theorem major_ent (sh : List ShB) (hs : sh.length = 3 := by rfl) : EntOK Tryd.prog 53 (entB sh maF) :=
  ok_B tyT_ok Tryd.func53 (by kernel_rfl) (by kernel_rfl) [] (fun x hx => by cases hx) (by rw [hs]; kernel_rfl) ma_ends
def wrB (bf : Nat → Int) : List CB := [.sl .u8 (keyL 8 bf)]
theorem wr_run (κ : Nat → Value) (bf : Nat → Int) : runF tyT [] noH [(3, 10)] 0 [] [2] fWr (bA (wrB bf) 0 0) (bH κ (wrB bf) 0 0) 1 [] = some ([.fin], { tm := tmL 18 [(2, ofV (.int .u64 (IntKind.wrap .u64 (IntKind.wrap .u64 ((IntKind.wrap .u64 (IntKind.wrap .u64 ((IntKind.wrap .u64 (IntKind.wrap .u64 ((IntKind.wrap .u64 (IntKind.wrap .u64 ((IntKind.wrap .u64 (IntKind.wrap .u64 ((IntKind.wrap .u64 (IntKind.wrap .u64 ((IntKind.wrap .u64 (IntKind.wrap .u64 ((IntKind.wrap .u64 (0 + IntKind.wrap .u64 (bf 0))) * 256) + IntKind.wrap .u64 (bf 1))) * 256) + IntKind.wrap .u64 (bf 2))) * 256) + IntKind.wrap .u64 (bf 3))) * 256) + IntKind.wrap .u64 (bf 4))) * 256) + IntKind.wrap .u64 (bf 5))) * 256) + IntKind.wrap .u64 (bf 6))) * 256) + IntKind.wrap .u64 (bf 7)))))], hp := [], nx := 0, gl := [] }, []) := by kernel_rfl
theorem wB1_int {z b : Int} (hz : inU z) (hb0 : 0 ≤ b) (hb : b < 256) : IntKind.wrap .u64 (IntKind.wrap .u64 (z * 256) + IntKind.wrap .u64 b) = wB1 z b := by
  obtain ⟨z0, z1⟩ := hz
  obtain ⟨Z, rfl⟩ : ∃ Z : Nat, z = Z := ⟨z.toNat, by omega⟩
  obtain ⟨B, rfl⟩ : ∃ B : Nat, b = B := ⟨b.toNat, by omega⟩
  rw [wB1_nat Z B (by omega), wU_def, wU_def, wU_def, wU_def]
  omega
theorem wB1_in (z b : Int) : inU (wB1 z b) := ior_in _ _
theorem wr_val (bf : Nat → Int) (hb : ∀ i, i < 8 → 0 ≤ bf i ∧ bf i < 256) : IntKind.wrap .u64 (IntKind.wrap .u64 ((IntKind.wrap .u64 (IntKind.wrap .u64 ((IntKind.wrap .u64 (IntKind.wrap .u64 ((IntKind.wrap .u64 (IntKind.wrap .u64 ((IntKind.wrap .u64 (IntKind.wrap .u64 ((IntKind.wrap .u64 (IntKind.wrap .u64 ((IntKind.wrap .u64 (IntKind.wrap .u64 ((IntKind.wrap .u64 (0 + IntKind.wrap .u64 (bf 0))) * 256) + IntKind.wrap .u64 (bf 1))) * 256) + IntKind.wrap .u64 (bf 2))) * 256) + IntKind.wrap .u64 (bf 3))) * 256) + IntKind.wrap .u64 (bf 4))) * 256) + IntKind.wrap .u64 (bf 5))) * 256) + IntKind.wrap .u64 (bf 6))) * 256) + IntKind.wrap .u64 (bf 7)) = wB8 bf 0 0 := by
  have e0 : IntKind.wrap .u64 (0 + IntKind.wrap .u64 (bf 0)) = wB1 0 (bf 0) := by
    rw [← wB1_int ⟨by decide, by decide⟩ (hb 0 (by omega)).1 (hb 0 (by omega)).2]
    rfl
  rw [e0, wB1_int (wB1_in _ _) (hb 1 (by omega)).1 (hb 1 (by omega)).2, wB1_int (wB1_in _ _) (hb 2 (by omega)).1 (hb 2 (by omega)).2, wB1_int (wB1_in _ _) (hb 3 (by omega)).1 (hb 3 (by omega)).2, wB1_int (wB1_in _ _) (hb 4 (by omega)).1 (hb 4 (by omega)).2, wB1_int (wB1_in _ _) (hb 5 (by omega)).1 (hb 5 (by omega)).2, wB1_int (wB1_in _ _) (hb 6 (by omega)).1 (hb 6 (by omega)).2, wB1_int (wB1_in _ _) (hb 7 (by omega)).1 (hb 7 (by omega)).2]
  rfl
def wrF : List CB → Option BR
  | [.sl .u8 b] => some { pre := b.length = 8 ∧ ∀ z ∈ b, 0 ≤ z ∧ z < 256, val := .av (.one (.v (.int .u64 (wB8 (g2 b) 0 0)))) }
  | _ => none
theorem g2_in {b : List Int} (hb : ∀ z ∈ b, 0 ≤ z ∧ z < 256) (i : Nat) : 0 ≤ g2 b i ∧ g2 b i < 256 := by
  unfold g2
  rw [List.getD_eq_getElem?_getD]
  rcases h : b[i]? with _ | z
  · exact ⟨by decide, by decide⟩
  · exact hb z (List.mem_of_getElem? h)
theorem wr_ends (cbs : List CB) (r : BR) (hF : wrF cbs = some r) (hp : r.pre) : EndsB Tryd.prog tyT [] fWr cbs r := by
  unfold wrF at hF
  split at hF
  · rename_i b
    injection hF with hF
    subst hF
    obtain ⟨hl, hb⟩ : b.length = 8 ∧ ∀ z ∈ b, 0 ≤ z ∧ z < 256 := hp
    intro κ
    have h := FromK.run (m0 := 0) tyT_ok nil_ok mixed_ (wr_run κ (g2 b)) trivial
    unfold wrB at h
    rw [keyL_g2 hl, wr_val (g2 b) (fun i _ => g2_in hb i)] at h
    exact ⟨[.fin], _, .av (.one (.v (.int .u64 (wB8 (g2 b) 0 0)))), [], .inr rfl, h, by kernel_rfl, by kernel_rfl, by kernel_rfl⟩
  · cases hF
theorem word_ent (sh : List ShB) (hs : sh.length = 1 := by rfl) : EntOK Tryd.prog 49 (entB sh wrF) :=
  ok_B tyT_ok Tryd.func49 (by kernel_rfl) (by kernel_rfl) [] (fun x hx => by cases hx) (by rw [hs]; kernel_rfl) wr_ends
end Go.Proofs.YtmhmfmnjdbehcaaDoor.Am
/- The document's filling up. Conditions: none. -/
namespace Go.Proofs.YtmhmfmnjdbehcaaDoor.Am
set_option linter.unusedVariables false
set_option linter.unusedSimpArgs false
open Go Go.RowKit
set_option linter.unusedSectionVars false
variable [GT] [GRnd]
noncomputable abbrev fFi : Func := Tryd.f48
def fiS (b o : List Int) (L : Nat) : St := { tm := tmL 37 [(0, .av (.one (.r 0 0 b.length 0))), (3, .av (.one (.r 1 0 L 0)))], hp := [(0, ⟨2, 0, [.arr .u8 b]⟩), (1, ⟨1, 5, [.arr .u8 o]⟩)], nx := 2, gl := [] }
def fq (n : Nat) : Nat → Int
  | 0 => (n : Int) * 8
  | i + 1 => IntKind.wrap .i64 (Int.tdiv (fq n i) 256)
def fqB (n i : Nat) : Int := IntKind.wrap .u8 (Int.tmod (fq n i) 256)
def fiE (o : List Int) (L : Nat) (c : List Seg) : St := { tm := tmL 37 [(2, .av (.one (.r 0 0 L 0)))], hp := [(0, ⟨1, 5, .arr .u8 o :: c⟩)], nx := 1, gl := [] }
theorem fi_start (κ : Nat → Value) (b : List Int) : runF tyT [] (atH 1 2 symH (atH 1 4 symH noH)) [] 0 [0, 4] [0, 3] fFi (bA [.sl .u8 b] 0 0) (bH κ [.sl .u8 b] 0 0) 1 [] = some (toAt fFi 2 [], fiS b (b.take b.length ++ [128]) (widths [Seg.arr .u8 (b.take b.length)] + 1), [0 = widths [] ∧ 0 = widths [], 0 + b.length ≤ widths [Seg.arr .u8 b], (0 + b.length) * 2 ≤ 140737488355328, 0 + b.length = widths [Seg.arr .u8 (b.take b.length)], 1 ≤ 1, (widths [Seg.arr .u8 (b.take b.length)] + 1) * 2 ≤ 140737488355328]) := by kernel_rfl
theorem fi_go (b o : List Int) (L k_ : Nat) : runN tyT [] (atH 2 3 (isB true) (atH 3 2 symH noH)) [] 2000 0 [0, 3] [0, 3] (inAt fFi 2 [] k_) (fiS b o L) = some (hdAt fFi 2 [] k_, fiS b (o ++ [0]) (widths [Seg.arr .u8 o] + 1), [tB (Int.tmod (L : Int) 128 != 112) true, L = widths [Seg.arr .u8 o], 1 ≤ 1, (widths [Seg.arr .u8 o] + 1) * 2 ≤ 140737488355328]) := by kernel_rfl
theorem fi_end (b o : List Int) (L k_ : Nat) : runN tyT [] (atH 2 3 (isB false) (atH 4 2 (isI .i64 ((b.length : Int) * 8)) (atH 11 2 symH noH))) [(7, 17)] 2000 0 [33] [2] (inAt fFi 2 [] k_) (fiS b o L) = some ([.fin], fiE o (widths [Seg.arr .u8 o] + 16) [.v (.int .u8 (fqB b.length 15)), .v (.int .u8 (fqB b.length 14)), .v (.int .u8 (fqB b.length 13)), .v (.int .u8 (fqB b.length 12)), .v (.int .u8 (fqB b.length 11)), .v (.int .u8 (fqB b.length 10)), .v (.int .u8 (fqB b.length 9)), .v (.int .u8 (fqB b.length 8)), .v (.int .u8 (fqB b.length 7)), .v (.int .u8 (fqB b.length 6)), .v (.int .u8 (fqB b.length 5)), .v (.int .u8 (fqB b.length 4)), .v (.int .u8 (fqB b.length 3)), .v (.int .u8 (fqB b.length 2)), .v (.int .u8 (fqB b.length 1)), .v (.int .u8 (fqB b.length 0))], [tB (Int.tmod (L : Int) 128 != 112) false, tI .i64 (IntKind.wrap .i64 ((b.length : Int) * 8)) ((b.length : Int) * 8), L = widths [Seg.arr .u8 o], 16 ≤ 16, (widths [Seg.arr .u8 o] + 16) * 2 ≤ 140737488355328]) := by kernel_rfl
theorem wB_def (z : Int) : IntKind.wrap .u8 z = z % 256 := by
  simp [IntKind.wrap, IntKind.signed, IntKind.bits]
theorem fq_zero (n : Nat) (h : fq n 3 = 0) : ∀ i, fq n (i + 3) = 0
  | 0 => h
  | i + 1 => by
    show IntKind.wrap .i64 (Int.tdiv (fq n (i + 3)) 256) = 0
    rw [fq_zero n h i]
    decide
theorem fil_eq (n : Nat) (h : n ≤ 1000000) : [fqB n 15, fqB n 14, fqB n 13, fqB n 12, fqB n 11, fqB n 10, fqB n 9, fqB n 8, fqB n 7, fqB n 6, fqB n 5, fqB n 4, fqB n 3, fqB n 2, fqB n 1, fqB n 0] = tlZ n := by
  have q0 : fq n 0 = ((8 * n : Nat) : Int) := by show (n : Int) * 8 = _; omega
  have q1 : fq n 1 = ((8 * n / 256 : Nat) : Int) := by
    show IntKind.wrap .i64 (Int.tdiv (fq n 0) 256) = _
    rw [q0, Int.tdiv_eq_ediv_of_nonneg (by omega), w64 (by omega) (by omega)]
    omega
  have q2 : fq n 2 = ((8 * n / 65536 : Nat) : Int) := by
    show IntKind.wrap .i64 (Int.tdiv (fq n 1) 256) = _
    rw [q1, Int.tdiv_eq_ediv_of_nonneg (by omega), w64 (by omega) (by omega)]
    omega
  have q3 : fq n 3 = 0 := by
    show IntKind.wrap .i64 (Int.tdiv (fq n 2) 256) = _
    rw [q2, Int.tdiv_eq_ediv_of_nonneg (by omega), w64 (by omega) (by omega)]
    omega
  have b0 : fqB n 0 = ((8 * n % 256 : Nat) : Int) := by
    unfold fqB
    rw [q0, Int.tmod_eq_emod_of_nonneg (by omega), wB_def]
    omega
  have b1 : fqB n 1 = ((8 * n / 256 % 256 : Nat) : Int) := by
    unfold fqB
    rw [q1, Int.tmod_eq_emod_of_nonneg (by omega), wB_def]
    omega
  have b2 : fqB n 2 = ((8 * n / 65536 % 256 : Nat) : Int) := by
    unfold fqB
    rw [q2, Int.tmod_eq_emod_of_nonneg (by omega), wB_def]
    omega
  have bz : ∀ i, fqB n (i + 3) = 0 := fun i => by
    unfold fqB
    rw [fq_zero n q3 i]
    decide
  have hs : ishl .u64 (IntKind.wrap .u64 (n : Int)) 3 = ((8 * n : Nat) : Int) := by
    show IntKind.wrap .u64 (IntKind.wrap .u64 (n : Int) * 8) = _
    rw [wU (z := (n : Int)) (by omega) (by omega), wU (z := (n : Int) * 8) (by omega) (by omega)]
    omega
  have hz : ∀ j, 24 ≤ j → j ≤ 64 → IntKind.wrap .u8 (ishr .u64 ((8 * n : Nat) : Int) j) = 0 := fun j h1 h2 => by
    rw [ishr_nat _ _ h2, Nat.div_eq_of_lt (Nat.lt_of_lt_of_le (by omega : 8 * n < 2 ^ 24) (Nat.pow_le_pow_right (by omega) h1))]
    decide
  have hn : IntKind.wrap .u8 (ishr .u64 (IntKind.wrap .u64 (n : Int)) 61) = 0 := by
    rw [wU (by omega) (by omega), ishr_nat n 61 (by omega), Nat.div_eq_of_lt (by omega)]
    decide
  unfold tlZ
  rw [hs, hn, hz 24 (by omega) (by omega), hz 32 (by omega) (by omega), hz 40 (by omega) (by omega), hz 48 (by omega) (by omega), hz 56 (by omega) (by omega), ishr_nat _ 0 (by omega), ishr_nat _ 8 (by omega), ishr_nat _ 16 (by omega), wB_def, wB_def, wB_def, b0, b1, b2]
  rw [bz 0, bz 1, bz 2, bz 3, bz 4, bz 5, bz 6, bz 7, bz 8, bz 9, bz 10, bz 11, bz 12]
  have c0 : ((8 * n % 256 : Nat) : Int) = ((8 * n / 2 ^ 0 : Nat) : Int) % 256 := by omega
  have c1 : ((8 * n / 256 % 256 : Nat) : Int) = ((8 * n / 2 ^ 8 : Nat) : Int) % 256 := by omega
  have c2 : ((8 * n / 65536 % 256 : Nat) : Int) = ((8 * n / 2 ^ 16 : Nat) : Int) % 256 := by omega
  rw [c0, c1, c2]
/-- A row, filled up. -/
def filL (b : List Int) : List Int := b ++ tailL b.length
theorem fi_mod (L : Nat) : Int.tmod (L : Int) 128 = ((L % 128 : Nat) : Int) := by
  rw [Int.tmod_eq_emod_of_nonneg (by omega)]
  omega
theorem fi_rounds (b : List Int) (h : b.length ≤ 1000000) : ∀ (j k : Nat), k + j = padN b.length → Reaches Tryd.prog 0 (hdAt fFi 2 [] (j + 1)) (fiS b (b ++ tlO k) (b.length + (k + 1))) [.fin] (fiE (filL b) (filL b).length [])
  | 0, k, e => by
    obtain rfl : k = padN b.length := by omega
    have hp := padN_le b.length
    have hrun := fi_end b (b ++ tlO (padN b.length)) (b.length + (padN b.length + 1)) 0
    refine (Reaches.oneK (Reaches.runK tyT_ok nil_ok mixed_ hrun ?_)).trans ?_
    · simp only [allP_cons, allP_nil, and_true, true_and, tB_nne, tI_iff, widths_o, List.length_append, tlO_len, fi_mod]
      rw [w64 (by omega) (by omega)]
      unfold padN at *
      omega
    · rw [widths_o, List.length_append, tlO_len]
      have e1 : (filL b).length = b.length + (padN b.length + 1) + 16 := by
        unfold filL tailL
        simp only [List.length_append, tlO_len, tlZ_len]
        omega
      rw [← e1]
      refine Reaches.retell (m0 := 0) (todo := [.fin]) 0 [.arr .u8 (filL b)] (fun ρ => ?_)
      unfold filL tailL
      rw [← fil_eq b.length h]
      simp [fiE, cOf, look, segsVals, Seg.vals, Seg.conc]
  | j + 1, k, e => by
    have hp := padN_le b.length
    have ih := fi_rounds b h j (k + 1) (by omega)
    have hrun := fi_go b (b ++ tlO k) (b.length + (k + 1)) (j + 1)
    rw [List.append_assoc, tlO_succ, widths_o, List.length_append, tlO_len] at hrun
    refine (Reaches.oneK (Reaches.runK tyT_ok nil_ok mixed_ hrun ?_)).trans ih
    simp only [allP_cons, allP_nil, and_true, true_and, tB_ne, fi_mod]
    unfold padN at *
    omega
def fiF : List CB → Option BR
  | [.sl .u8 b] => some { pre := b.length ≤ 1000000, val := .av (.one (.r 0 0 (filL b).length 0)), new := [⟨1, 5, [.arr .u8 (filL b)]⟩] }
  | _ => none
theorem fi_ends (cbs : List CB) (r : BR) (hF : fiF cbs = some r) (hp : r.pre) : EndsB Tryd.prog tyT [] fFi cbs r := by
  unfold fiF at hF
  split at hF
  · rename_i b
    injection hF with hF
    subst hF
    have hl : b.length ≤ 1000000 := hp
    intro κ
    have hst := fi_start κ b
    rw [List.take_length, widths_o] at hst
    have h := (FromK.run (m0 := 0) tyT_ok nil_ok mixed_ hst ?_).trans (Reaches.roundsK (padN b.length + 1) (fi_rounds b hl (padN b.length) 0 (by omega)))
    · exact ⟨[.fin], _, .av (.one (.r 0 0 (filL b).length 0)), [0], .inr rfl, h, by kernel_rfl, by kernel_rfl, by kernel_rfl⟩
    · simp only [allP_cons, allP_nil, and_true, true_and, widths_o, widths]
      omega
  · cases hF
theorem Filled_ent (sh : List ShB) (hs : sh.length = 1 := by rfl) : EntOK Tryd.prog 48 (entB sh fiF) :=
  ok_B tyT_ok Tryd.func48 (by kernel_rfl) (by kernel_rfl) [] (fun x hx => by cases hx) (by rw [hs]; kernel_rfl) fi_ends
end Go.Proofs.YtmhmfmnjdbehcaaDoor.Am
/- The document's Sum: the walk. Conditions: none. -/
namespace Go.Proofs.YtmhmfmnjdbehcaaDoor.Am
set_option linter.unusedVariables false
set_option linter.unusedSimpArgs false
open Go Go.RowKit
set_option linter.unusedSectionVars false
variable [GT] [GRnd]
noncomputable abbrev fRs : Func := Tryd.f40
noncomputable def rsO : List (Nat × Ent) := [(48, entB [.sl .u8] fiF), (49, entB [.sl .u8] wrF), (50, entB [.av, .av] trF), (51, entB [.av, .av] dnF), (52, entB [.av, .av, .av] chF), (53, entB [.av, .av, .av] maF)]
theorem rsO_ok : OOK Tryd.prog rsO := ook_of (l := [(48, entB [.sl .u8] fiF), (49, entB [.sl .u8] wrF), (50, entB [.av, .av] trF), (51, entB [.av, .av] dnF), (52, entB [.av, .av, .av] chF), (53, entB [.av, .av, .av] maF)]) ⟨Filled_ent _, word_ent _, Turn_ent _, down_ent _, choose_ent _, major_ent _, trivial⟩
def gsK : List GV := [(2, .u64, kRounds)]
def rsB (b : List Int) (sf : Nat → Int) (n : Int) : List CB := [.sl .u8 b, .ag .u64 (keyL 8 sf), .av (.one (.v (.int .i64 n)))]
def rsH (b : List Int) : List (Nat × Blk) := [(0, ⟨2, 0, [.arr .u8 b]⟩), (1, ⟨2, 0, [.arr .u64 kRounds]⟩)]
def rsS (b F : List Int) (sf : Nat → Int) (n : Int) (j : Nat) : St := { tm := tmL 195 [(2, ofV (.int .i64 n)), (7, .av (.one (.r 2 0 F.length 0))), (8, .av (.one (.p 3 0))), (9, ofV (.int .i64 ((128 * j : Nat) : Int)))], hp := rsH b ++ [(2, ⟨1, 5, [.arr .u8 F]⟩), (3, ⟨0, 60, [.arr .u64 (keyL 8 sf)]⟩)], nx := 4, gl := [(2, 1)] }
def rsV (b F : List Int) (sf : Nat → Int) (w : List Int) (n : Int) (j t : Nat) : St := { tm := tmL 195 [(2, ofV (.int .i64 n)), (7, .av (.one (.r 2 0 F.length 0))), (8, .av (.one (.p 3 0))), (9, ofV (.int .i64 ((128 * j : Nat) : Int))), (10, .av (.one (.p 4 0))), (11, ofV (.int .i64 (t : Nat)))], hp := rsH b ++ [(2, ⟨1, 5, [.arr .u8 F]⟩), (3, ⟨0, 60, [.arr .u64 (keyL 8 sf)]⟩), (4, ⟨0, 74, [.arr .u64 w]⟩)], nx := 5, gl := [(2, 1)] }
def rsR (b F : List Int) (sf wf : Nat → Int) (vc : List Seg) (n : Int) (j t : Nat) : St := { tm := tmL 195 [(2, ofV (.int .i64 n)), (7, .av (.one (.r 2 0 F.length 0))), (8, .av (.one (.p 3 0))), (9, ofV (.int .i64 ((128 * j : Nat) : Int))), (10, .av (.one (.p 4 0))), (14, .av (.one (.p 5 0))), (15, ofV (.int .i64 (t : Nat)))], hp := rsH b ++ [(2, ⟨1, 5, [.arr .u8 F]⟩), (3, ⟨0, 60, [.arr .u64 (keyL 8 sf)]⟩), (4, ⟨0, 74, [.arr .u64 (keyL 80 wf)]⟩), (5, ⟨0, 60, vc⟩)], nx := 6, gl := [(2, 1)] }
def rsP (b : List Int) (sf : Nat → Int) (n : Int) : St := { tm := tmL 195 [(2, ofV (.int .i64 n)), (8, .av (.one (.p 2 0))), (19, ofV (Value.slice none 0 0)), (20, ofV (.int .i64 0))], hp := rsH b ++ [(2, ⟨0, 60, [.arr .u64 (keyL 8 sf)]⟩)], nx := 3, gl := [(2, 1)] }
def rsQ (b o : List Int) (L : Nat) (sf : Nat → Int) (n : Int) (i : Nat) : St := { tm := tmL 195 [(2, ofV (.int .i64 n)), (8, .av (.one (.p 2 0))), (19, .av (.one (.r 3 0 L 0))), (20, ofV (.int .i64 (i : Nat)))], hp := rsH b ++ [(2, ⟨0, 60, [.arr .u64 (keyL 8 sf)]⟩), (3, ⟨1, 5, [.arr .u8 o]⟩)], nx := 4, gl := [(2, 1)] }
def rsE (b o : List Int) (L : Nat) : St := { tm := tmL 195 [(6, .av (.one (.r 2 0 L 0)))], hp := rsH b ++ [(2, ⟨1, 5, [.arr .u8 o]⟩)], nx := 3, gl := [(2, 1)] }
theorem rs_start (κ : Nat → Value) (b : List Int) (sf : Nat → Int) (n : Int) : runF tyT rsO noH [] 2 [3, 4] [2, 7, 8, 9] fRs (bA (rsB b sf n) 0 0) (bH κ (rsB b sf n) 0 0 ++ gH gsK 1) 2 (gL gsK 1) = some (toAt fRs 4 [], rsS b (filL (cutI b 0 b.length)) sf n 0, [0 + b.length ≤ b.length, (cutI b 0 b.length).length ≤ 1000000]) := by kernel_rfl
theorem rs_in (b F : List Int) (sf : Nat → Int) (n : Int) (j k_ : Nat) : runN tyT rsO (atH 4 3 (isB true) noH) [] 2000 2 [2, 3, 4] [2, 7, 8, 9, 10, 11] (inAt fRs 4 [] k_) (rsS b F sf n j) = some (toAt fRs 8 [k_], rsV b F sf (keyL 80 fun _ => 0) n j 0, [tB (decide (((128 * j : Nat) : Int) < F.length)) true]) := by kernel_rfl
theorem rs_lo (b F : List Int) (sf : Nat → Int) (w : List Int) (n : Int) (j t j_ k_ : Nat) : runN tyT rsO (atH 8 1 (isB true) (atH 10 1 (isB true) (atH 11 4 (isI .i64 ((8 * t : Nat) : Int)) (atH 11 5 (isI .i64 ((128 * j + 8 * t : Nat) : Int)) (atH 11 8 (isI .i64 ((8 * t : Nat) : Int)) (atH 11 9 (isI .i64 ((128 * j + 8 * t : Nat) : Int)) (atH 11 10 (isI .i64 ((128 * j + 8 * t + 8 : Nat) : Int)) (atH 11 11 symH (atH 11 13 symH (atH 11 14 symH (atH 9 1 (isI .i64 ((t + 1 : Nat) : Int)) noH))))))))))) [] 2000 2 [2, 3, 4] [2, 7, 8, 9, 10, 11] (inAt fRs 8 [j_] k_) (rsV b F sf w n j t) = some (hdAt fRs 8 [j_] k_, rsV b F sf (w.set t (wB8 (g2 (cutI F (128 * j + 8 * t) (128 * j + 8 * t + 8 - (128 * j + 8 * t)))) 0 0)) n j (t + 1), [tB (decide ((t : Int) < 80)) true, tB (decide ((t : Int) < 16)) true, tI .i64 (IntKind.wrap .i64 (8 * (t : Int))) ((8 * t : Nat) : Int), tI .i64 (IntKind.wrap .i64 (((128 * j : Nat) : Int) + ((8 * t : Nat) : Int))) ((128 * j + 8 * t : Nat) : Int), tI .i64 (IntKind.wrap .i64 (8 * (t : Int))) ((8 * t : Nat) : Int), tI .i64 (IntKind.wrap .i64 (((128 * j : Nat) : Int) + ((8 * t : Nat) : Int))) ((128 * j + 8 * t : Nat) : Int), tI .i64 (IntKind.wrap .i64 (((128 * j + 8 * t : Nat) : Int) + 8)) ((128 * j + 8 * t + 8 : Nat) : Int), 0 + F.length ≤ widths [Seg.arr .u8 F], 0 ≤ ((128 * j + 8 * t + 8 : Nat) : Int) ∧ 128 * j + 8 * t + 8 ≤ widths [Seg.arr .u8 F] - 0, 0 ≤ ((128 * j + 8 * t : Nat) : Int) ∧ 128 * j + 8 * t ≤ 128 * j + 8 * t + 8, 128 * j + 8 * t + (128 * j + 8 * t + 8 - (128 * j + 8 * t)) ≤ F.length, (cutI F (128 * j + 8 * t) (128 * j + 8 * t + 8 - (128 * j + 8 * t))).length = 8 ∧ ∀ z ∈ cutI F (128 * j + 8 * t) (128 * j + 8 * t + 8 - (128 * j + 8 * t)), 0 ≤ z ∧ z < 256, 0 ≤ (t : Int) ∧ t ≤ 80 - 1, t < w.length, tI .i64 (IntKind.wrap .i64 ((t : Int) + 1)) ((t + 1 : Nat) : Int)]) := by kernel_rfl
def sgR0 (x : Int) : Int := ixor .u64 (ixor .u64 (rr x 1) (rr x 8)) (ishr .u64 x 7)
def sgR1 (x : Int) : Int := ixor .u64 (ixor .u64 (rr x 19) (rr x 61)) (ishr .u64 x 6)
def wRx (a b c d : Int) : Int := IntKind.wrap .u64 (IntKind.wrap .u64 (IntKind.wrap .u64 (sgR1 a + b) + sgR0 c) + d)
theorem rs_hi (b F : List Int) (sf : Nat → Int) (w : List Int) (n : Int) (j t j_ k_ : Nat) : runN tyT rsO (atH 8 1 (isB true) (atH 10 1 (isB false) (atH 12 1 (isI IntKind.i64 ((t - 15 : Nat) : Int)) (atH 12 2 symH (atH 12 3 symH (atH 12 5 (isI IntKind.i64 ((t - 2 : Nat) : Int)) (atH 12 6 symH (atH 12 7 symH (atH 13 10 (isI IntKind.i64 ((t - 7 : Nat) : Int)) (atH 13 11 symH (atH 13 12 symH (atH 13 24 (isI IntKind.i64 ((t - 16 : Nat) : Int)) (atH 13 25 symH (atH 13 26 symH (atH 13 28 symH (atH 13 29 symH (atH 9 1 (isI .i64 ((t + 1 : Nat) : Int)) noH))))))))))))))))) [] 2000 2 [2, 3, 4] [2, 7, 8, 9, 10, 11] (inAt fRs 8 [j_] k_) (rsV b F sf w n j t) = some (hdAt fRs 8 [j_] k_, rsV b F sf (w.set t (wRx (w.getD (t - 2) 0) (w.getD (t - 7) 0) (w.getD (t - 15) 0) (w.getD (t - 16) 0))) n j (t + 1), [tB (decide ((t : Int) < 80)) true, tB (decide ((t : Int) < 16)) false, tI .i64 (IntKind.wrap .i64 ((t : Int) - 15)) ((t - 15 : Nat) : Int), 0 ≤ ((t - 15 : Nat) : Int) ∧ t - 15 ≤ 80 - 1, t - 15 < w.length, tI .i64 (IntKind.wrap .i64 ((t : Int) - 2)) ((t - 2 : Nat) : Int), 0 ≤ ((t - 2 : Nat) : Int) ∧ t - 2 ≤ 80 - 1, t - 2 < w.length, inU (w.getD (t - 2) 0) ∧ (1 : Int) ≤ 19 ∧ (19 : Int) ≤ 63, inU (w.getD (t - 2) 0) ∧ (1 : Int) ≤ 61 ∧ (61 : Int) ≤ 63, inU (w.getD (t - 2) 0) ∧ (0 : Int) ≤ 6 ∧ (6 : Int) ≤ 63, tI .i64 (IntKind.wrap .i64 ((t : Int) - 7)) ((t - 7 : Nat) : Int), 0 ≤ ((t - 7 : Nat) : Int) ∧ t - 7 ≤ 80 - 1, t - 7 < w.length, inU (w.getD (t - 15) 0) ∧ (1 : Int) ≤ 1 ∧ (1 : Int) ≤ 63, inU (w.getD (t - 15) 0) ∧ (1 : Int) ≤ 8 ∧ (8 : Int) ≤ 63, inU (w.getD (t - 15) 0) ∧ (0 : Int) ≤ 7 ∧ (7 : Int) ≤ 63, tI .i64 (IntKind.wrap .i64 ((t : Int) - 16)) ((t - 16 : Nat) : Int), 0 ≤ ((t - 16 : Nat) : Int) ∧ t - 16 ≤ 80 - 1, t - 16 < w.length, 0 ≤ (t : Int) ∧ t ≤ 80 - 1, t < w.length, tI .i64 (IntKind.wrap .i64 ((t : Int) + 1)) ((t + 1 : Nat) : Int)]) := by kernel_rfl
theorem rs_mid (b F : List Int) (sf wf : Nat → Int) (n : Int) (j j_ k_ : Nat) : runN tyT rsO noH [] 2000 2 [2, 3, 4, 5] [2, 7, 8, 9, 10, 14, 15] (inAt fRs 8 [j_] k_) (rsV b F sf (keyL 80 wf) n j 80) = some (toAt fRs 16 [j_], rsR b F sf wf [.arr .u64 (keyL 8 sf)] n j 0, []) := by kernel_rfl
def turR (x : Int) (a b c : Nat) : Int := ixor .u64 (ixor .u64 (rr x a) (rr x b)) (rr x c)
def t1R (v : Nat → Int) (k w : Int) : Int := IntKind.wrap .u64 (IntKind.wrap .u64 (IntKind.wrap .u64 (IntKind.wrap .u64 (v 7 + turR (v 4) 14 18 41) + chE (v 4) (v 5) (v 6)) + k) + w)
def t2R (v : Nat → Int) : Int := IntKind.wrap .u64 (turR (v 0) 28 34 39 + mjE (v 0) (v 1) (v 2))
def rdR (v : Nat → Int) (k w : Int) : Nat → Int
  | 0 => IntKind.wrap .u64 (t1R v k w + t2R v)
  | 4 => IntKind.wrap .u64 (v 3 + t1R v k w)
  | i + 1 => v i
theorem rs_rd (b F : List Int) (sf wf vf : Nat → Int) (n : Int) (j t j_ k_ : Nat) : runN tyT rsO (atH 16 1 (isB true) (atH 18 23 symH (atH 18 24 symH (atH 18 27 symH (atH 18 28 symH (atH 17 1 (isI .i64 ((t + 1 : Nat) : Int)) noH)))))) [] 2000 2 [2, 3, 4, 5] [2, 7, 8, 9, 10, 14, 15] (inAt fRs 16 [j_] k_) (rsR b F sf wf [.arr .u64 (keyL 8 vf)] n j t) = some (hdAt fRs 16 [j_] k_, rsR b F sf wf ((keyL 8 (rdR vf (kRounds.getD t 0) ((keyL 80 wf).getD t 0))).map fun z => .v (.int .u64 z)) n j (t + 1), [tB (decide ((t : Int) < 80)) true, inU (vf 4) ∧ (1 : Int) ≤ 14 ∧ (14 : Int) ≤ 63, inU (vf 4) ∧ (1 : Int) ≤ 18 ∧ (18 : Int) ≤ 63, inU (vf 4) ∧ (1 : Int) ≤ 41 ∧ (41 : Int) ≤ 63, True, 0 ≤ (t : Int) ∧ t ≤ 80 - 1, t < 80, 0 ≤ (t : Int) ∧ t ≤ 80 - 1, t < 80, inU (vf 0) ∧ (1 : Int) ≤ 28 ∧ (28 : Int) ≤ 63, inU (vf 0) ∧ (1 : Int) ≤ 34 ∧ (34 : Int) ≤ 63, inU (vf 0) ∧ (1 : Int) ≤ 39 ∧ (39 : Int) ≤ 63, True, tI .i64 (IntKind.wrap .i64 ((t : Int) + 1)) ((t + 1 : Nat) : Int)]) := by kernel_rfl
theorem rs_fin (b F : List Int) (sf wf vf : Nat → Int) (n : Int) (j j_ k_ : Nat) : runN tyT rsO (atH 5 1 (isI .i64 ((128 * (j + 1) : Nat) : Int)) noH) [(22, 9)] 2000 2 [2, 3] [2, 7, 8, 9] (inAt fRs 16 [j_] k_) (rsR b F sf wf [.arr .u64 (keyL 8 vf)] n j 80) = some (hdAt fRs 4 [] j_, rsS b F (fun i => IntKind.wrap .u64 (sf i + vf i)) n (j + 1), [tI .i64 (IntKind.wrap .i64 (((128 * j : Nat) : Int) + 128)) ((128 * (j + 1) : Nat) : Int)]) := by kernel_rfl
theorem rs_out (b F : List Int) (sf : Nat → Int) (n : Int) (j k_ : Nat) : runN tyT rsO (atH 4 3 (isB false) noH) [] 2000 2 [3] [2, 8, 19, 20] (inAt fRs 4 [] k_) (rsS b F sf n j) = some (toAt fRs 27 [], rsP b sf n, [tB (decide (((128 * j : Nat) : Int) < F.length)) false]) := by kernel_rfl
theorem rs_by (b o : List Int) (L : Nat) (sf : Nat → Int) (n : Int) (i k_ : Nat) : runN tyT rsO (atH 27 2 (isB true) (atH 29 2 (isI .i64 ((i / 8 : Nat) : Int)) (atH 29 3 symH (atH 29 4 symH (atH 29 7 (isI .i64 ((8 * (i % 8) : Nat) : Int)) (atH 29 8 (isI .i64 ((56 - 8 * (i % 8) : Nat) : Int)) (atH 29 13 symH (atH 28 1 (isI .i64 ((i + 1 : Nat) : Int)) noH)))))))) [] 2000 2 [2, 5] [2, 8, 19, 20] (inAt fRs 27 [] k_) (rsQ b o L sf n i) = some (hdAt fRs 27 [] k_, rsQ b (o ++ [IntKind.wrap .u8 (Int.tmod (ishr .u64 ((keyL 8 sf).getD (i / 8) 0) (56 - 8 * (i % 8))) 256)]) (widths [Seg.arr .u8 o] + 1) sf n (i + 1), [tB (decide ((i : Int) < n)) true, tI .i64 (IntKind.wrap .i64 (Int.tdiv i 8)) ((i / 8 : Nat) : Int), 0 ≤ ((i / 8 : Nat) : Int) ∧ i / 8 ≤ 8 - 1, i / 8 < 8, tI .i64 (IntKind.wrap .i64 (8 * Int.tmod i 8)) ((8 * (i % 8) : Nat) : Int), tI .i64 (IntKind.wrap .i64 (56 - ((8 * (i % 8) : Nat) : Int))) ((56 - 8 * (i % 8) : Nat) : Int), inU ((keyL 8 sf).getD (i / 8) 0) ∧ (0 : Int) ≤ ((56 - 8 * (i % 8) : Nat) : Int) ∧ ((56 - 8 * (i % 8) : Nat) : Int) ≤ 63, L = widths [Seg.arr .u8 o], 1 ≤ 1, (widths [Seg.arr .u8 o] + 1) * 2 ≤ 140737488355328, tI .i64 (IntKind.wrap .i64 ((i : Int) + 1)) ((i + 1 : Nat) : Int)]) := by kernel_rfl
theorem rs_end (b o : List Int) (L : Nat) (sf : Nat → Int) (n : Int) (i k_ : Nat) : runN tyT rsO (atH 27 2 (isB false) noH) [] 2000 2 [3] [6] (inAt fRs 27 [] k_) (rsQ b o L sf n i) = some ([.fin], rsE b o L, [tB (decide ((i : Int) < n)) false]) := by kernel_rfl
end Go.Proofs.YtmhmfmnjdbehcaaDoor.Am
/- The document's Sum: its contract. Conditions: none. -/
namespace Go.Proofs.YtmhmfmnjdbehcaaDoor.Am
set_option linter.unusedVariables false
set_option linter.unusedSimpArgs false
open Go Go.RowKit
set_option linter.unusedSectionVars false
variable [GT] [GRnd]
/-- Bytes. -/
def isBs (l : List Int) : Prop := ∀ z ∈ l, 0 ≤ z ∧ z < 256
theorem isBs_nil : isBs [] := fun z h => absurd h List.not_mem_nil
theorem isBs_app {a b : List Int} (ha : isBs a) (hb : isBs b) : isBs (a ++ b) := fun z h => (List.mem_append.1 h).elim (ha z) (hb z)
theorem isBs_take {a : List Int} (n : Nat) (ha : isBs a) : isBs (a.take n) := fun z h => ha z (List.mem_of_mem_take h)
theorem isBs_drop {a : List Int} (n : Nat) (ha : isBs a) : isBs (a.drop n) := fun z h => ha z (List.mem_of_mem_drop h)
theorem isBs_cut {a : List Int} (o n : Nat) (ha : isBs a) : isBs (cutI a o n) := by
  rw [cutI_eq]
  exact isBs_take _ (isBs_drop _ ha)
theorem wB_in (z : Int) : 0 ≤ IntKind.wrap .u8 z ∧ IntKind.wrap .u8 z < 256 := by
  rw [wB_def]
  exact ⟨by omega, by omega⟩
theorem isBs_keyL {n : Nat} {f : Nat → Int} (h : ∀ i, i < n → 0 ≤ f i ∧ f i < 256) : isBs (keyL n f) := fun z hz => by
  unfold keyL at hz
  rw [upTo_range] at hz
  simp only [List.mem_map, List.mem_range] at hz
  obtain ⟨_, ⟨i, hi, rfl⟩, rfl⟩ := hz
  rw [Nat.zero_add]
  exact h i hi
theorem isBs_tail (n : Nat) : isBs (tailL n) := by
  unfold tailL
  refine isBs_app (fun z hz => ?_) (fun z hz => ?_)
  · unfold tlO at hz
    rcases List.mem_cons.1 hz with rfl | hz
    · exact ⟨by decide, by decide⟩
    · rw [(List.mem_replicate.1 hz).2]
      exact ⟨by decide, by decide⟩
  · unfold tlZ at hz
    simp only [List.mem_cons, List.not_mem_nil, or_false] at hz
    rcases hz with rfl | rfl | rfl | rfl | rfl | rfl | rfl | hz | hz | hz | hz | hz | hz | hz | hz | hz
    all_goals first
      | exact ⟨by decide, by decide⟩
      | (rw [hz]; exact wB_in _)
theorem isBs_fil {b : List Int} (h : isBs b) : isBs (filL b) := isBs_app h (isBs_tail _)
theorem g2_cut (l : List Int) (o L i : Nat) (h : i < L) : g2 (cutI l o L) i = g2 l (o + i) := by
  unfold g2
  rw [cutI_eq, List.getD_eq_getElem?_getD, List.getD_eq_getElem?_getD, List.getElem?_take_of_lt h, List.getElem?_drop]
theorem keyL_succ (n : Nat) (f : Nat → Int) : keyL (n + 1) f = keyL n f ++ [f n] := by
  unfold keyL
  rw [upTo_range, upTo_range, List.range_succ, List.map_append, List.map_append]
  simp
theorem tur_eq (x : Int) (a b c : Nat) : turR x a b c = tur3 x a b c := by
  unfold turR tur3
  rw [ixor0 (rr_in _ _)]
theorem sg0_eq (x : Int) : sgR0 x = sg0 x := by
  unfold sgR0 sg0 tur2
  rw [ixor0 (rr_in _ _)]
theorem sg1_eq (x : Int) : sgR1 x = sg1 x := by
  unfold sgR1 sg1 tur2
  rw [ixor0 (rr_in _ _)]
theorem wRx_eq (a b c d : Int) : wRx a b c d = wEx a b c d := by
  unfold wRx wEx
  rw [sg0_eq, sg1_eq]
theorem rdR_eq (v : Nat → Int) (k w : Int) : rdR v k w = rdE v k w := by
  have e1 : t1R v k w = t1E v k w := by
    unfold t1R t1E
    rw [tur_eq]
  have e2 : t2R v = t2E v := by
    unfold t2R t2E
    rw [tur_eq]
  funext i
  match i with
  | 0 => show IntKind.wrap .u64 (t1R v k w + t2R v) = IntKind.wrap .u64 (t1E v k w + t2E v); rw [e1, e2]
  | 4 => show IntKind.wrap .u64 (v 3 + t1R v k w) = IntKind.wrap .u64 (v 3 + t1E v k w); rw [e1]
  | 1 => rfl
  | 2 => rfl
  | 3 => rfl
  | i + 5 => rfl
theorem inU0 : inU 0 := ⟨by decide, by decide⟩
theorem wdN_zero (bf : Nat → Int) : ∀ n i, n ≤ i → wdN bf n i = 0
  | 0, _, _ => rfl
  | n + 1, i, h => by
    show setF (wdN bf n) n _ i = 0
    rw [setF_eq, if_neg (by omega)]
    exact wdN_zero bf n i (by omega)
theorem wdN_in (bf : Nat → Int) : ∀ n i, inU (wdN bf n i)
  | 0, _ => inU0
  | n + 1, i => by
    show inU (setF (wdN bf n) n _ i)
    rw [setF_eq]
    split
    · unfold wdNx
      split
      · exact wB1_in _ _
      · exact wU_in _
    · exact wdN_in bf n i
theorem rdE_in {v : Nat → Int} (h : ∀ i, inU (v i)) (k w : Int) (i : Nat) : inU (rdE v k w i) := by
  match i with
  | 0 => exact wU_in _
  | 4 => exact wU_in _
  | 1 => exact h 0
  | 2 => exact h 1
  | 3 => exact h 2
  | i + 5 => exact h (i + 4)
theorem vE_in {s : Nat → Int} (h : ∀ i, inU (s i)) (W : Nat → Int) : ∀ n i, inU (vE s W n i)
  | 0, i => h i
  | n + 1, i => rdE_in (vE_in h W n) _ _ i
theorem g2_inU {l : List Int} (h : ∀ z ∈ l, inU z) (i : Nat) : inU (g2 l i) := by
  unfold g2
  rw [List.getD_eq_getElem?_getD]
  rcases e : l[i]? with _ | z
  · exact inU0
  · exact h z (List.mem_of_getElem? e)
theorem compL_in (s b : List Int) : ∀ z ∈ compL s b, inU z := fun z hz => by
  unfold compL keyL at hz
  simp only [List.mem_map] at hz
  obtain ⟨i, _, rfl⟩ := hz
  exact wU_in _
theorem abN_in {s : List Int} (h : ∀ z ∈ s, inU z) (a : List Int) : ∀ n, ∀ z ∈ abN s a n, inU z
  | 0 => h
  | n + 1 => compL_in _ _
/-- A block of a row. -/
def blkL (F : List Int) (j : Nat) : List Int := (F.drop (128 * j)).take 128
theorem wB8_blk (F : List Int) (j t : Nat) (h : t < 16) : wB8 (g2 (cutI F (128 * j + 8 * t) 8)) 0 0 = wB8 (g2 (blkL F j)) t 0 := by
  have e : ∀ i, i < 8 → g2 (cutI F (128 * j + 8 * t) 8) i = g2 (blkL F j) (8 * t + i) := fun i hi => by
    rw [g2_cut _ _ _ _ hi]
    unfold blkL
    rw [← cutI_eq, g2_cut _ _ _ _ (by omega), Nat.add_assoc]
  unfold wB8
  rw [e 0 (by omega)]
  show wB1 (wB1 (wB1 (wB1 (wB1 (wB1 (wB1 (wB1 0 _) (g2 _ 1)) (g2 _ 2)) (g2 _ 3)) (g2 _ 4)) (g2 _ 5)) (g2 _ 6)) (g2 _ 7) = _
  rw [e 1 (by omega), e 2 (by omega), e 3 (by omega), e 4 (by omega), e 5 (by omega), e 6 (by omega), e 7 (by omega), Nat.add_zero]
theorem rs_word (b F : List Int) (hF : isBs F) (sf : Nat → Int) (n : Int) (j t j_ k_ : Nat) (hj : 128 * (j + 1) ≤ F.length) (hlen : F.length ≤ 2000000) (ht : t < 80) : Reaches Tryd.prog 0 (inAt fRs 8 [j_] k_) (rsV b F sf (keyL 80 (wdN (g2 (blkL F j)) t)) n j t) (hdAt fRs 8 [j_] k_) (rsV b F sf (keyL 80 (wdN (g2 (blkL F j)) (t + 1))) n j (t + 1)) := by
  have e5 := w64 (z := ((t : Nat) : Int) + 1) (by omega) (by omega)
  by_cases h16 : t < 16
  · have hrun := rs_lo b F sf (keyL 80 (wdN (g2 (blkL F j)) t)) n j t j_ k_
    rw [show 128 * j + 8 * t + 8 - (128 * j + 8 * t) = 8 by omega, wB8_blk F j t h16, keyL_set] at hrun
    have en : wdN (g2 (blkL F j)) (t + 1) = setF (wdN (g2 (blkL F j)) t) t (wB8 (g2 (blkL F j)) t 0) := by
      show setF _ t (wdNx _ t _) = _
      unfold wdNx
      rw [if_pos h16, wdN_zero _ _ _ (Nat.le_refl _)]
    rw [en]
    have hb := isBs_cut (128 * j + 8 * t) 8 hF
    have hl : (cutI F (128 * j + 8 * t) 8).length = 8 := by
      rw [cutI_eq, List.length_take, List.length_drop]
      omega
    refine Reaches.runK tyT_ok rsO_ok mixed_ hrun ?_
    have e1 := w64 (z := 8 * ((t : Nat) : Int)) (by omega) (by omega)
    have e2 := w64 (z := ((128 * j : Nat) : Int) + ((8 * t : Nat) : Int)) (by omega) (by omega)
    have e3 := w64 (z := ((128 * j + 8 * t : Nat) : Int) + 8) (by omega) (by omega)
    simp only [allP_cons, allP_nil, and_true, true_and, tB_lt, tI_iff, keyL_len, widths_o, hl]
    rw [e1, e2, e3, e5]
    refine ⟨by omega, by omega, by omega, by omega, by omega, by omega, by omega, by omega, by omega, by omega, by omega, hb, by omega, by omega, by omega⟩
  · have hrun := rs_hi b F sf (keyL 80 (wdN (g2 (blkL F j)) t)) n j t j_ k_
    rw [keyL_get 80 _ _ (by omega), keyL_get 80 _ _ (by omega), keyL_get 80 _ _ (by omega), keyL_get 80 _ _ (by omega), keyL_set, wRx_eq] at hrun
    have en : wdN (g2 (blkL F j)) (t + 1) = setF (wdN (g2 (blkL F j)) t) t (wEx (wdN (g2 (blkL F j)) t (t - 2)) (wdN (g2 (blkL F j)) t (t - 7)) (wdN (g2 (blkL F j)) t (t - 15)) (wdN (g2 (blkL F j)) t (t - 16))) := by
      show setF _ t (wdNx _ t _) = _
      unfold wdNx
      rw [if_neg h16]
    rw [en]
    refine Reaches.runK tyT_ok rsO_ok mixed_ hrun ?_
    have e1 := w64 (z := ((t : Nat) : Int) - 15) (by omega) (by omega)
    have e2 := w64 (z := ((t : Nat) : Int) - 2) (by omega) (by omega)
    have e3 := w64 (z := ((t : Nat) : Int) - 7) (by omega) (by omega)
    have e4 := w64 (z := ((t : Nat) : Int) - 16) (by omega) (by omega)
    have i2 := wdN_in (g2 (blkL F j)) t (t - 2)
    have i15 := wdN_in (g2 (blkL F j)) t (t - 15)
    simp only [allP_cons, allP_nil, and_true, true_and, tB_lt, tB_nlt, tI_iff, keyL_len, i2, i15]
    omega
theorem rs_words (b F : List Int) (hF : isBs F) (sf : Nat → Int) (n : Int) (j j_ : Nat) (hj : 128 * (j + 1) ≤ F.length) (hlen : F.length ≤ 2000000) : ∀ (k t : Nat), t + k = 80 → Reaches Tryd.prog 0 (hdAt fRs 8 [j_] (k + 1)) (rsV b F sf (keyL 80 (wdN (g2 (blkL F j)) t)) n j t) (toAt fRs 16 [j_]) (rsR b F sf (wdN (g2 (blkL F j)) 80) [.arr .u64 (keyL 8 sf)] n j 0)
  | 0, t, h => by
    obtain rfl : t = 80 := by omega
    exact Reaches.oneK (Reaches.runK tyT_ok rsO_ok mixed_ (rs_mid b F sf _ n j j_ 0) trivial)
  | k + 1, t, h => (Reaches.oneK (rs_word b F hF sf n j t j_ (k + 1) hj hlen (by omega))).trans (rs_words b F hF sf n j j_ hj hlen k (t + 1) (by omega))
theorem rs_rounds (b F : List Int) (sf wf : Nat → Int) (hs : ∀ i, inU (sf i)) (n : Int) (j j_ : Nat) (hj : j ≤ 100000) : ∀ (k t : Nat), t + k = 80 → Reaches Tryd.prog 0 (hdAt fRs 16 [j_] (k + 1)) (rsR b F sf wf [.arr .u64 (keyL 8 (vE sf wf t))] n j t) (hdAt fRs 4 [] j_) (rsS b F (fun i => IntKind.wrap .u64 (sf i + vE sf wf 80 i)) n (j + 1))
  | 0, t, h => by
    obtain rfl : t = 80 := by omega
    refine Reaches.oneK (Reaches.runK tyT_ok rsO_ok mixed_ (rs_fin b F sf wf _ n j j_ 0) ?_)
    have e1 := w64 (z := ((128 * j : Nat) : Int) + 128) (by omega) (by omega)
    simp only [allP_cons, allP_nil, and_true, tI_iff]
    omega
  | k + 1, t, h => by
    have hrun := rs_rd b F sf wf (vE sf wf t) n j t j_ (k + 1)
    rw [keyL_get 80 wf t (by omega), rdR_eq] at hrun
    have ih := rs_rounds b F sf wf hs n j j_ hj k (t + 1) (by omega)
    have hret : Reaches Tryd.prog 0 (hdAt fRs 16 [j_] (k + 1)) (rsR b F sf wf ((keyL 8 (rdE (vE sf wf t) (kRounds.getD t 0) (wf t))).map fun z => .v (.int .u64 z)) n j (t + 1)) (hdAt fRs 16 [j_] (k + 1)) (rsR b F sf wf [.arr .u64 (keyL 8 (vE sf wf (t + 1)))] n j (t + 1)) :=
      Reaches.retell 5 [.arr .u64 (keyL 8 (vE sf wf (t + 1)))] (fun ρ => by kernel_rfl)
    refine (Reaches.oneK (Reaches.runK tyT_ok rsO_ok mixed_ hrun ?_)).trans (hret.trans ih)
    have i0 := vE_in hs wf t 0
    have i4 := vE_in hs wf t 4
    simp only [allP_cons, allP_nil, and_true, true_and, tB_lt, tI_iff, i0, i4]
    have e5 := w64 (z := ((t : Nat) : Int) + 1) (by omega) (by omega)
    omega
theorem rs_block (b F : List Int) (hF : isBs F) (s : List Int) (h8 : s.length = 8) (hs : ∀ z ∈ s, inU z) (n : Int) (j j_ : Nat) (hj : 128 * (j + 1) ≤ F.length) (hlen : F.length ≤ 2000000) : Reaches Tryd.prog 0 (inAt fRs 4 [] j_) (rsS b F (g2 s) n j) (hdAt fRs 4 [] j_) (rsS b F (g2 (compL s (blkL F j))) n (j + 1)) := by
  have r1 := Reaches.runK (m0 := 0) tyT_ok rsO_ok mixed_ (rs_in b F (g2 s) n j j_) (by
    simp only [allP_cons, allP_nil, and_true, tB_lt]
    omega)
  have r2 := Reaches.roundsK 81 (rs_words b F hF (g2 s) n j j_ hj hlen 80 0 rfl)
  have r3 := Reaches.roundsK 81 (rs_rounds b F (g2 s) (wdN (g2 (blkL F j)) 80) (g2_inU hs) n j j_ (by omega) 80 0 rfl)
  have e : rsS b F (fun i => IntKind.wrap .u64 (g2 s i + vE (g2 s) (wdN (g2 (blkL F j)) 80) 80 i)) n (j + 1) = rsS b F (g2 (compL s (blkL F j))) n (j + 1) := by
    unfold rsS
    rw [keyL_g2 (compL_len _ _)]
    rfl
  rw [e] at r3
  exact r1.trans (r2.trans r3)
theorem rs_blocks (b F : List Int) (hF : isBs F) (s : List Int) (h8 : s.length = 8) (hs : ∀ z ∈ s, inU z) (n : Int) (hlen : F.length ≤ 2000000) (hm : F.length = 128 * KN F) : ∀ (k j : Nat), j + k = KN F → Reaches Tryd.prog 0 (hdAt fRs 4 [] (k + 1)) (rsS b F (g2 (abN s F j)) n j) (toAt fRs 27 []) (rsP b (g2 (abA s F)) n)
  | 0, j, h => by
    obtain rfl : j = KN F := by omega
    refine Reaches.oneK (Reaches.runK tyT_ok rsO_ok mixed_ (rs_out b F _ n _ 0) ?_)
    simp only [allP_cons, allP_nil, and_true, tB_nlt]
    omega
  | k + 1, j, h => (Reaches.oneK (rs_block b F hF (abN s F j) (abN_len h8 F j) (abN_in hs F j) n j (k + 1) (by omega) hlen)).trans (rs_blocks b F hF s h8 hs n hlen hm k (j + 1) (by omega))
theorem rs_byte {sf : Nat → Int} (hs : ∀ i, inU (sf i)) (i : Nat) (hi : i < 64) : IntKind.wrap .u8 (Int.tmod (ishr .u64 ((keyL 8 sf).getD (i / 8) 0) (56 - 8 * (i % 8))) 256) = byE sf i := by
  rw [keyL_get 8 sf _ (by omega)]
  unfold byE
  obtain ⟨h0, h1⟩ := hs (i / 8)
  obtain ⟨X, hX⟩ : ∃ X : Nat, sf (i / 8) = X := ⟨(sf (i / 8)).toNat, by omega⟩
  rw [hX, ishr_nat X _ (by omega), Int.tmod_eq_emod_of_nonneg (Int.natCast_nonneg _), wB_def, wB_def]
  omega
theorem rs_outs (b : List Int) (sf : Nat → Int) (hs : ∀ i, inU (sf i)) (n : Nat) (hn : n ≤ 64) : ∀ (k i : Nat), i + k = n → Reaches Tryd.prog 0 (hdAt fRs 27 [] (k + 1)) (rsQ b (keyL i (byE sf)) i sf n i) [.fin] (rsE b (keyL n (byE sf)) n)
  | 0, i, h => by
    obtain rfl : i = n := by omega
    refine Reaches.oneK (Reaches.runK tyT_ok rsO_ok mixed_ (rs_end b _ _ sf _ _ 0) ?_)
    simp only [allP_cons, allP_nil, and_true, tB_nlt]
    omega
  | k + 1, i, h => by
    have hrun := rs_by b (keyL i (byE sf)) i sf n i (k + 1)
    rw [rs_byte hs i (by omega), ← keyL_succ, widths_o, keyL_len] at hrun
    have ih := rs_outs b sf hs n hn k (i + 1) (by omega)
    refine (Reaches.oneK (Reaches.runK tyT_ok rsO_ok mixed_ hrun ?_)).trans ih
    rw [keyL_get 8 sf _ (by omega)]
    have h8 := hs (i / 8)
    have e1 : Int.tdiv (i : Int) 8 = ((i / 8 : Nat) : Int) := by
      rw [Int.tdiv_eq_ediv_of_nonneg (by omega)]
      omega
    have e2 : Int.tmod (i : Int) 8 = ((i % 8 : Nat) : Int) := by
      rw [Int.tmod_eq_emod_of_nonneg (by omega)]
      omega
    rw [e1, e2]
    have w1 := w64 (z := ((i / 8 : Nat) : Int)) (by omega) (by omega)
    have w2 := w64 (z := 8 * ((i % 8 : Nat) : Int)) (by omega) (by omega)
    have w3 := w64 (z := 56 - ((8 * (i % 8) : Nat) : Int)) (by omega) (by omega)
    have w4 := w64 (z := ((i : Nat) : Int) + 1) (by omega) (by omega)
    simp only [allP_cons, allP_nil, and_true, true_and, tB_lt, tI_iff, h8, w1, w2, w3, w4]
    omega
theorem fil_KN (b : List Int) : (filL b).length = 128 * KN (filL b) := by
  have e : (filL b).length = b.length + (padN b.length + 17) := by
    unfold filL
    rw [List.length_append, tailL_len]
  have hm : (filL b).length % 128 = 0 := by
    rw [e]
    unfold padN
    omega
  unfold KN
  omega
def rsF : List CB → Option BR
  | [.sl .u8 b, .ag .u64 s, .av (.one (.v (.int .i64 n)))] => some { pre := isBs b ∧ b.length ≤ 900000 ∧ s.length = 8 ∧ (∀ z ∈ s, inU z) ∧ 0 ≤ n ∧ n ≤ 64, val := .av (.one (.r 0 0 n.toNat 0)), new := [⟨1, 5, [.arr .u8 (keyL n.toNat (g2 (shaL s b)))]⟩] }
  | _ => none
theorem rs_ends (cbs : List CB) (r : BR) (hF : rsF cbs = some r) (hp : r.pre) : EndsB Tryd.prog tyT gsK fRs cbs r := by
  unfold rsF at hF
  split at hF
  · rename_i b s n
    injection hF with hF
    subst hF
    obtain ⟨hb, hl, h8, hs, h0, h1⟩ : isBs b ∧ b.length ≤ 900000 ∧ s.length = 8 ∧ (∀ z ∈ s, inU z) ∧ 0 ≤ n ∧ n ≤ 64 := hp
    obtain ⟨m, rfl⟩ : ∃ m : Nat, n = m := ⟨n.toNat, by omega⟩
    intro κ
    have hst := rs_start κ b (g2 s) m
    rw [cutI_all] at hst
    have hfl : (filL b).length ≤ 2000000 := by
      have := padN_le b.length
      unfold filL
      rw [List.length_append, tailL_len]
      omega
    have h2 := Reaches.roundsK (KN (filL b) + 1) (rs_blocks b (filL b) (isBs_fil hb) s h8 hs (m : Int) hfl (fil_KN b) (KN (filL b)) 0 (Nat.zero_add _))
    have had : Reaches Tryd.prog 0 (toAt fRs 27 []) (rsP b (g2 (abA s (filL b))) m) (toAt fRs 27 []) (rsQ b [] 0 (g2 (abA s (filL b))) m 0) := Reaches.adoptK (m := 2) (es := [2, 3]) (ks := [2, 8, 19, 20]) 5 .u8 (t := 19) (by kernel_rfl) (by kernel_rfl)
    have h3 := Reaches.roundsK (m + 1) (rs_outs b (g2 (abA s (filL b))) (g2_inU (abN_in hs _ _)) m (by omega) m 0 (Nat.zero_add _))
    have h := ((FromK.run (m0 := 0) tyT_ok rsO_ok mixed_ hst ?_).trans h2).trans (had.trans h3)
    · unfold rsB at h
      rw [keyL_g2 h8] at h
      have ek : keyL m (g2 (shaL s b)) = keyL m (byE (g2 (abA s (filL b)))) := keyL_congr fun i hi => by
        show (keyL 64 (byE (g2 (abA s (filL b))))).getD i 0 = _
        exact keyL_get 64 _ i (by omega)
      rw [← ek] at h
      exact ⟨[.fin], _, .av (.one (.r 2 0 m 0)), [2], .inr rfl, h, by kernel_rfl, by kernel_rfl, by kernel_rfl⟩
    · simp only [allP_cons, allP_nil, and_true]
      omega
  · cases hF
theorem gsK_ok : ∀ x, x ∈ gsK → (x.1, x.2.2.map (Value.int x.2.1)) ∈ GT.tab := fun x hx => by
  simp only [gsK, List.mem_cons, List.not_mem_nil, or_false] at hx
  subst hx
  exact GRnd.h
theorem rSum_ent (sh : List ShB) (hs : sh.length = 3 := by rfl) : EntOK Tryd.prog 40 (entB sh rsF) :=
  ok_B tyT_ok Tryd.func40 (by kernel_rfl) (by kernel_rfl) gsK gsK_ok (by rw [hs]; kernel_rfl) rs_ends
end Go.Proofs.YtmhmfmnjdbehcaaDoor.Am
/- The document's Long and Short; Len. Conditions: none. -/
namespace Go.Proofs.YtmhmfmnjdbehcaaDoor.Am
set_option linter.unusedVariables false
set_option linter.unusedSimpArgs false
open Go Go.RowKit
set_option linter.unusedSectionVars false
variable [GT] [GRnd]
noncomputable def loO : List (Nat × Ent) := [(40, entB [.sl .u8, .ag .u64, .av] rsF)]
theorem loO_ok : OOK Tryd.prog loO := ook_of (l := [(40, entB [.sl .u8, .ag .u64, .av] rsF)]) ⟨rSum_ent _, trivial⟩
noncomputable abbrev fLo : Func := Tryd.f21
theorem lo_run (κ : Nat → Value) (b : List Int) : runF tyT loO noH [] 2 [2] [2] fLo (bA [.sl .u8 b] 0 0) (bH κ [.sl .u8 b] 0 0 ++ gH gs512 1) 2 (gL gs512 1) = some ([.fin], { tm := tmL 6 [(2, .av (.one (.r 2 0 64 0)))], hp := [(0, ⟨2, 0, [.arr .u8 b]⟩), (1, ⟨2, 0, [.arr .u64 kStart512]⟩), (2, ⟨1, 5, [.arr .u8 (keyL 64 (g2 (shaL kStart512 (cutI b 0 b.length))))]⟩)], nx := 3, gl := gL gs512 1 }, [0 + b.length ≤ b.length, isBs (cutI b 0 b.length) ∧ (cutI b 0 b.length).length ≤ 900000 ∧ kStart512.length = 8 ∧ (∀ z ∈ kStart512, inU z) ∧ (0 : Int) ≤ 64 ∧ (64 : Int) ≤ 64]) := by kernel_rfl
theorem k512_in : ∀ z ∈ kStart512, inU z := by
  unfold kStart512 inU
  decide
def loF : List CB → Option BR
  | [.sl .u8 b] => some { pre := isBs b ∧ b.length ≤ 900000, val := .av (.one (.r 0 0 64 0)), new := [⟨1, 5, [.arr .u8 (keyL 64 (g2 (shaL kStart512 b)))]⟩] }
  | _ => none
theorem lo_ends (cbs : List CB) (r : BR) (hF : loF cbs = some r) (hp : r.pre) : EndsB Tryd.prog tyT gs512 fLo cbs r := by
  unfold loF at hF
  split at hF
  · rename_i b
    injection hF with hF
    subst hF
    obtain ⟨hb, hl⟩ : isBs b ∧ b.length ≤ 900000 := hp
    intro κ
    have hrun := lo_run κ b
    rw [cutI_all] at hrun
    have h := FromK.run (m0 := 0) tyT_ok loO_ok mixed_ hrun ⟨by omega, ⟨hb, hl, rfl, k512_in, by decide, by decide⟩, trivial⟩
    exact ⟨[.fin], _, .av (.one (.r 2 0 64 0)), [2], .inr rfl, h, by kernel_rfl, by kernel_rfl, by kernel_rfl⟩
  · cases hF
theorem Long_ent [G512] (sh : List ShB) (hs : sh.length = 1 := by rfl) : EntOK Tryd.prog 21 (entB sh loF) :=
  ok_B tyT_ok Tryd.func21 (by kernel_rfl) (by kernel_rfl) gs512 gs512_ok (by rw [hs]; kernel_rfl) lo_ends
noncomputable abbrev fSh : Func := Tryd.f22
theorem sr_run (κ : Nat → Value) (b : List Int) : runF tyT loO noH [] 2 [2] [2] fSh (bA [.sl .u8 b] 0 0) (bH κ [.sl .u8 b] 0 0 ++ gH gs384 1) 2 (gL gs384 1) = some ([.fin], { tm := tmL 6 [(2, .av (.one (.r 2 0 48 0)))], hp := [(0, ⟨2, 0, [.arr .u8 b]⟩), (1, ⟨2, 0, [.arr .u64 kStart384]⟩), (2, ⟨1, 5, [.arr .u8 (keyL 48 (g2 (shaL kStart384 (cutI b 0 b.length))))]⟩)], nx := 3, gl := gL gs384 1 }, [0 + b.length ≤ b.length, isBs (cutI b 0 b.length) ∧ (cutI b 0 b.length).length ≤ 900000 ∧ kStart384.length = 8 ∧ (∀ z ∈ kStart384, inU z) ∧ (0 : Int) ≤ 48 ∧ (48 : Int) ≤ 64]) := by kernel_rfl
theorem k384_in : ∀ z ∈ kStart384, inU z := by
  unfold kStart384 inU
  decide
def srF : List CB → Option BR
  | [.sl .u8 b] => some { pre := isBs b ∧ b.length ≤ 900000, val := .av (.one (.r 0 0 48 0)), new := [⟨1, 5, [.arr .u8 (keyL 48 (g2 (shaL kStart384 b)))]⟩] }
  | _ => none
theorem sr_ends (cbs : List CB) (r : BR) (hF : srF cbs = some r) (hp : r.pre) : EndsB Tryd.prog tyT gs384 fSh cbs r := by
  unfold srF at hF
  split at hF
  · rename_i b
    injection hF with hF
    subst hF
    obtain ⟨hb, hl⟩ : isBs b ∧ b.length ≤ 900000 := hp
    intro κ
    have hrun := sr_run κ b
    rw [cutI_all] at hrun
    have h := FromK.run (m0 := 0) tyT_ok loO_ok mixed_ hrun ⟨by omega, ⟨hb, hl, rfl, k384_in, by decide, by decide⟩, trivial⟩
    exact ⟨[.fin], _, .av (.one (.r 2 0 48 0)), [2], .inr rfl, h, by kernel_rfl, by kernel_rfl, by kernel_rfl⟩
  · cases hF
theorem Short_ent [G384] (sh : List ShB) (hs : sh.length = 1 := by rfl) : EntOK Tryd.prog 22 (entB sh srF) :=
  ok_B tyT_ok Tryd.func22 (by kernel_rfl) (by kernel_rfl) gs384 gs384_ok (by rw [hs]; kernel_rfl) sr_ends
noncomputable abbrev fLe : Func := Tryd.f23
def leB (sf : Nat → Int) (i : Nat) (n z : Int) : List CB := [.rd [.ag .u64 (keyL 8 sf), .kp i, .sg (.v (.int .i64 n)), .sg (.v (.int .i64 z))]]
theorem le_run (κ : Nat → Value) (sf : Nat → Int) (i : Nat) (n z : Int) : runF tyT [] noH [] 0 [] [2] fLe (bA (leB sf i n z) 0 0) (bH κ (leB sf i n z) 0 0) 1 [] = some ([.fin], { tm := tmL 7 [(2, ofV (.int .i64 n))], hp := [], nx := 0, gl := [] }, []) := by kernel_rfl
def leF : List CB → Option BR
  | [.rd [.ag .u64 s, .kp _, .sg (.v (.int .i64 n)), .sg (.v (.int .i64 _))]] => some { pre := s.length = 8, val := .av (.one (.v (.int .i64 n))) }
  | _ => none
theorem le_ends (cbs : List CB) (r : BR) (hF : leF cbs = some r) (hp : r.pre) : EndsB Tryd.prog tyT [] fLe cbs r := by
  unfold leF at hF
  split at hF
  · rename_i s i n z
    injection hF with hF
    subst hF
    have hs : s.length = 8 := hp
    intro κ
    have h := FromK.run (m0 := 0) tyT_ok nil_ok mixed_ (le_run κ (g2 s) i n z) trivial
    unfold leB at h
    rw [keyL_g2 hs] at h
    exact ⟨[.fin], _, .av (.one (.v (.int .i64 n))), [], .inr rfl, h, by kernel_rfl, by kernel_rfl, by kernel_rfl⟩
  · cases hF
theorem len_ent (sh : List ShB) (hs : sh.length = 1 := by rfl) : EntOK Tryd.prog 23 (entB sh leF) :=
  ok_B tyT_ok Tryd.func23 (by kernel_rfl) (by kernel_rfl) [] (fun x hx => by cases hx) (by rw [hs]; kernel_rfl) le_ends
end Go.Proofs.YtmhmfmnjdbehcaaDoor.Am
/- The keyed sums' pad; whether two rows are the same. Conditions: none. -/
namespace Go.Proofs.YtmhmfmnjdbehcaaDoor.Am
set_option linter.unusedVariables false
set_option linter.unusedSimpArgs false
open Go Go.RowKit
set_option linter.unusedSectionVars false
variable [GT] [GRnd]
noncomputable abbrev fPa : Func := Tryd.f54
noncomputable def paO : List (Nat × Ent) := [(26, entB [.rs [.sl .u8]] s384F1)]
theorem paO_ok [G384] : OOK Tryd.prog paO := ook_of (l := [(26, entB [.rs [.sl .u8]] s384F1)]) ⟨s384_ent1 _, trivial⟩
def paB (k : List Int) (c : Int) : List CB := [.sl .u8 k, .av (.one (.v (.int .u8 c)))]
def paS (s : List Seg) (c : Int) (i : Nat) : St := { tm := tmL 33 [(1, ofV (.int .u8 c)), (6, .av (.one (.s 0 0 128 128))), (20, ofV (.int .i64 128)), (21, ofV (.int .i64 (i : Nat)))], hp := [(0, ⟨0, 5, s⟩)], nx := 1, gl := [] }
def paE (o : List Int) : St := { tm := tmL 33 [(4, .av (.one (.s 0 0 128 128)))], hp := [(0, ⟨0, 5, [.arr .u8 o]⟩)], nx := 1, gl := [] }
theorem pa_long (κ : Nat → Value) (k : List Int) (c : Int) : runF tyT paO (atH 1 2 (isB true) noH) [] 0 [3] [1, 6, 20, 21] fPa (bA (paB k c) 0 0) (bH κ (paB k c) 0 0) 1 [] = some (toAt fPa 7 [], paS [.arr .u8 (keyL 48 (g2 (shaL kStart384 (cutI k 0 k.length)))), .arr .u8 (List.replicate 80 0)] c 0, [tB (decide ((k.length : Int) > 128)) true, 0 + k.length ≤ k.length, (cutI k 0 k.length).length ≤ 900000]) := by kernel_rfl
theorem pa_short (κ : Nat → Value) (k : List Int) (c : Int) : runF tyT paO (atH 1 2 (isB false) (atH 5 2 symH noH)) [] 0 [1] [1, 6, 20, 21] fPa (bA (paB k c) 0 0) (bH κ (paB k c) 0 0) 1 [] = some (toAt fPa 7 [], paS [.arr .u8 ([] ++ k.take k.length ++ (List.replicate 128 0).drop (0 + (k.take k.length).length))] c 0, [tB (decide ((k.length : Int) > 128)) false, 128 ≤ 128, 0 + k.length ≤ widths [Seg.arr .u8 k], k.length ≤ 128]) := by kernel_rfl
theorem pa_go (o : List Int) (c : Int) (i k_ : Nat) : runN tyT paO (atH 7 0 (isB true) (atH 9 2 symH (atH 9 3 symH (atH 9 6 symH (atH 9 7 symH (atH 10 0 (isI .i64 ((i + 1 : Nat) : Int)) noH)))))) [] 2000 0 [0] [1, 6, 20, 21] (inAt fPa 7 [] k_) (paS [.arr .u8 o] c i) = some (hdAt fPa 7 [] k_, paS [.arr .u8 (o.set i (ixor .u8 (o.getD i 0) c))] c (i + 1), [tB (decide ((i : Int) < 128)) true, 128 ≤ widths [Seg.arr .u8 o], 0 ≤ (i : Int) ∧ i ≤ 128 - 1, 1 ≤ 128, i < o.length, 128 ≤ widths [Seg.arr .u8 o], 0 ≤ (i : Int) ∧ i ≤ 128 - 1, 1 ≤ 128, i < o.length, tI .i64 (IntKind.wrap .i64 ((i : Int) + 1)) ((i + 1 : Nat) : Int)]) := by kernel_rfl
theorem pa_end (o : List Int) (c : Int) (i k_ : Nat) : runN tyT paO (atH 7 0 (isB false) noH) [] 2000 0 [0] [4] (inAt fPa 7 [] k_) (paS [.arr .u8 o] c i) = some ([.fin], paE o, [tB (decide ((i : Int) < 128)) false]) := by kernel_rfl
/-- The key that is padded. -/
def kN (k : List Int) : List Int := if 128 < k.length then keyL 48 (g2 (shaL kStart384 k)) else k
/-- A key, padded. -/
def padL (k : List Int) (c : Int) : List Int := keyL 128 fun i => ixor .u8 (g2 (kN k) i) c
def padI (g : Nat → Int) (c : Int) (i j : Nat) : Int := if j < i then ixor .u8 (g j) c else g j
theorem padI_succ (g : Nat → Int) (c : Int) (i : Nat) : setF (padI g c i) i (ixor .u8 (padI g c i i) c) = padI g c (i + 1) := by
  funext j
  rw [setF_eq]
  unfold padI
  by_cases h : j = i
  · subst h
    rw [if_pos rfl, if_neg (Nat.lt_irrefl j), if_pos (Nat.lt_succ_self j)]
  · rw [if_neg h]
    by_cases h2 : j < i
    · rw [if_pos h2, if_pos (by omega)]
    · rw [if_neg h2, if_neg (by omega)]
theorem pa_rounds [G384] (g : Nat → Int) (c : Int) : ∀ (k i : Nat), i + k = 128 → Reaches Tryd.prog 0 (hdAt fPa 7 [] (k + 1)) (paS [.arr .u8 (keyL 128 (padI g c i))] c i) [.fin] (paE (keyL 128 (padI g c 128)))
  | 0, i, h => by
    obtain rfl : i = 128 := by omega
    refine Reaches.oneK (Reaches.runK tyT_ok paO_ok mixed_ (pa_end _ c 128 0) ?_)
    simp only [allP_cons, allP_nil, and_true, tB_nlt]
    omega
  | k + 1, i, h => by
    have hrun := pa_go (keyL 128 (padI g c i)) c i (k + 1)
    rw [keyL_get 128 _ i (by omega), keyL_set, padI_succ] at hrun
    refine (Reaches.oneK (Reaches.runK tyT_ok paO_ok mixed_ hrun ?_)).trans (pa_rounds g c k (i + 1) (by omega))
    have e5 := w64 (z := ((i : Nat) : Int) + 1) (by omega) (by omega)
    simp only [allP_cons, allP_nil, and_true, true_and, tB_lt, tI_iff, widths_o, keyL_len]
    omega
theorem g2_pad (k : List Int) (n i : Nat) : g2 (k ++ List.replicate n 0) i = g2 k i := by
  unfold g2
  rw [List.getD_eq_getElem?_getD, List.getD_eq_getElem?_getD]
  by_cases h : i < k.length
  · rw [List.getElem?_append_left h]
  · rw [List.getElem?_append_right (by omega), List.getElem?_eq_none (l := k) (by omega)]
    by_cases h2 : i - k.length < n
    · rw [List.getElem?_replicate_of_lt h2]; rfl
    · rw [List.getElem?_eq_none (by rw [List.length_replicate]; omega)]
theorem short_pad (k : List Int) (h : k.length ≤ 128) : [] ++ k.take k.length ++ (List.replicate 128 (0 : Int)).drop (0 + (k.take k.length).length) = keyL 128 (g2 k) := by
  rw [List.take_length, List.nil_append, Nat.zero_add, List.drop_replicate]
  have e := keyL_g2 (l := k ++ List.replicate (128 - k.length) (0 : Int)) (n := 128) (by rw [List.length_append, List.length_replicate]; omega)
  rw [← e]
  exact keyL_congr fun i _ => g2_pad _ _ _
def paF : List CB → Option BR
  | [.sl .u8 k, .av (.one (.v (.int .u8 c)))] => some { pre := k.length ≤ 900000, val := .av (.one (.s 0 0 128 128)), new := [⟨0, 5, [.arr .u8 (padL k c)]⟩] }
  | _ => none
theorem pa_ends [G384] (cbs : List CB) (r : BR) (hF : paF cbs = some r) (hp : r.pre) : EndsB Tryd.prog tyT [] fPa cbs r := by
  unfold paF at hF
  split at hF
  · rename_i k c
    injection hF with hF
    subst hF
    have hl : k.length ≤ 900000 := hp
    intro κ
    have hloop := Reaches.roundsK 129 (pa_rounds (g2 (kN k)) c 128 0 rfl)
    have e0 : keyL 128 (padI (g2 (kN k)) c 0) = keyL 128 (g2 (kN k)) := keyL_congr fun i _ => by unfold padI; rw [if_neg (Nat.not_lt_zero i)]
    have e1 : keyL 128 (padI (g2 (kN k)) c 128) = padL k c := keyL_congr fun i hi => by unfold padI; rw [if_pos hi]
    rw [e0, e1] at hloop
    have h : FromK Tryd.prog 0 fPa (bA (paB k c) 0 0) (bH κ (paB k c) 0 0) 1 [] [.fin] (paE (padL k c)) := by
      by_cases h128 : 128 < k.length
      · have hst := pa_long κ k c
        rw [cutI_all] at hst
        have ek : kN k = keyL 48 (g2 (shaL kStart384 k)) := by unfold kN; rw [if_pos h128]
        rw [ek] at hloop
        have hret : Reaches Tryd.prog 0 (toAt fPa 7 []) (paS [.arr .u8 (keyL 48 (g2 (shaL kStart384 k))), .arr .u8 (List.replicate 80 0)] c 0) (toAt fPa 7 []) (paS [.arr .u8 (keyL 128 (g2 (keyL 48 (g2 (shaL kStart384 k)))))] c 0) :=
          Reaches.retell 0 [.arr .u8 (keyL 128 (g2 (keyL 48 (g2 (shaL kStart384 k)))))] (fun ρ => by kernel_rfl)
        refine (FromK.run (m0 := 0) tyT_ok paO_ok mixed_ hst ?_).trans (hret.trans hloop)
        simp only [allP_cons, allP_nil, and_true, tB_gt]
        omega
      · have hst := pa_short κ k c
        rw [short_pad k (by omega)] at hst
        have ek : kN k = k := by unfold kN; rw [if_neg h128]
        rw [ek] at hloop
        refine (FromK.run (m0 := 0) tyT_ok paO_ok mixed_ hst ?_).trans hloop
        simp only [allP_cons, allP_nil, and_true, true_and, tB_ngt, widths_o]
        omega
    exact ⟨[.fin], _, .av (.one (.s 0 0 128 128)), [0], .inr rfl, h, by kernel_rfl, by kernel_rfl, by kernel_rfl⟩
  · cases hF
theorem pad_ent [G384] (sh : List ShB) (hs : sh.length = 2 := by rfl) : EntOK Tryd.prog 54 (entB sh paF) :=
  ok_B tyT_ok Tryd.func54 (by kernel_rfl) (by kernel_rfl) [] (fun x hx => by cases hx) (by rw [hs]; kernel_rfl) pa_ends
end Go.Proofs.YtmhmfmnjdbehcaaDoor.Am
/- Whether two rows of bytes are the same. Conditions: none. -/
namespace Go.Proofs.YtmhmfmnjdbehcaaDoor.Am
set_option linter.unusedVariables false
set_option linter.unusedSimpArgs false
open Go Go.RowKit
set_option linter.unusedSectionVars false
variable [GT] [GRnd]
noncomputable abbrev fSm : Func := Tryd.f43
def smB (a b : List Int) : List CB := [.sl .u8 a, .sl .u8 b]
def smS (a b : List Int) (z : Int) (i : Nat) : St := { tm := tmL 31 [(0, .av (.one (.r 0 0 a.length 0))), (1, .av (.one (.r 1 0 b.length 0))), (5, ofV (.int .u8 z)), (13, ofV (.int .i64 (a.length : Int))), (14, ofV (.int .i64 (i : Nat)))], hp := [(0, ⟨2, 0, [.arr .u8 a]⟩), (1, ⟨2, 0, [.arr .u8 b]⟩)], nx := 2, gl := [] }
def smE (b : Bool) : St := { tm := tmL 31 [(4, ofV (.bool b))], hp := [], nx := 0, gl := [] }
theorem sm_no (κ : Nat → Value) (a b : List Int) : runF tyT [] (atH 1 4 (isB true) noH) [] 0 [] [4] fSm (bA (smB a b) 0 0) (bH κ (smB a b) 0 0) 2 [] = some ([.fin], smE false, [tB ((a.length : Int) != (b.length : Int)) true]) := by kernel_rfl
theorem sm_start (κ : Nat → Value) (a b : List Int) : runF tyT [] (atH 1 4 (isB false) noH) [] 0 [0, 1] [0, 1, 5, 13, 14] fSm (bA (smB a b) 0 0) (bH κ (smB a b) 0 0) 2 [] = some (toAt fSm 5 [], smS a b 0 0, [tB ((a.length : Int) != (b.length : Int)) false]) := by kernel_rfl
theorem sm_go (a b : List Int) (z : Int) (i k_ : Nat) : runN tyT [] (atH 5 0 (isB true) (atH 7 3 symH (atH 7 4 symH (atH 7 7 symH (atH 7 8 symH (atH 8 0 (isI .i64 ((i + 1 : Nat) : Int)) noH)))))) [] 2000 0 [0, 1] [0, 1, 5, 13, 14] (inAt fSm 5 [] k_) (smS a b z i) = some (hdAt fSm 5 [] k_, smS a b (ior .u8 z (ixor .u8 (a.getD i 0) (b.getD i 0))) (i + 1), [tB (decide ((i : Int) < (a.length : Int))) true, 0 + a.length ≤ widths [Seg.arr .u8 a], 0 ≤ (i : Int) ∧ i ≤ a.length - 1, 1 ≤ a.length, i < a.length, 0 + b.length ≤ widths [Seg.arr .u8 b], 0 ≤ (i : Int) ∧ i ≤ b.length - 1, 1 ≤ b.length, i < b.length, tI .i64 (IntKind.wrap .i64 ((i : Int) + 1)) ((i + 1 : Nat) : Int)]) := by kernel_rfl
theorem sm_end (a b : List Int) (z : Int) (i k_ : Nat) : runN tyT [] (atH 5 0 (isB false) noH) [] 2000 0 [] [4] (inAt fSm 5 [] k_) (smS a b z i) = some ([.fin], smE (z == 0), [tB (decide ((i : Int) < (a.length : Int))) false]) := by kernel_rfl
def V8 (z : Int) : BitVec 8 := BitVec.ofInt 8 z
theorem toNat_wB8 (v : BitVec 8) : IntKind.wrap .u8 (v.toNat : Int) = v.toNat := by
  have := v.isLt
  rw [wB_def]
  omega
theorem V8_toNat {z : Int} (h0 : 0 ≤ z) (h1 : z < 256) : ((V8 z).toNat : Int) = z := by
  unfold V8
  rw [BitVec.toNat_ofInt]
  omega
theorem ixor8_zero {x y : Int} (hx : 0 ≤ x ∧ x < 256) (hy : 0 ≤ y ∧ y < 256) : ixor .u8 x y = 0 ↔ x = y := by
  have e : ixor .u8 x y = ((V8 x ^^^ V8 y).toNat : Int) := toNat_wB8 _
  rw [e]
  constructor
  · intro h
    have h1 : V8 x ^^^ V8 y = 0#8 := by
      apply BitVec.eq_of_toNat_eq
      have h2 : (V8 x ^^^ V8 y).toNat = 0 := by omega
      rw [h2]
      rfl
    have h3 : V8 x = V8 y := by
      have := congrArg (fun v => v ^^^ V8 y) h1
      simpa [BitVec.xor_assoc] using this
    rw [← V8_toNat hx.1 hx.2, h3, V8_toNat hy.1 hy.2]
  · rintro rfl
    rw [BitVec.xor_self]
    rfl
theorem ior8_zero {x y : Int} (hx : 0 ≤ x ∧ x < 256) (hy : 0 ≤ y ∧ y < 256) : ior .u8 x y = 0 ↔ x = 0 ∧ y = 0 := by
  have e : ior .u8 x y = ((V8 x ||| V8 y).toNat : Int) := toNat_wB8 _
  rw [e, BitVec.toNat_or]
  have a1 := V8_toNat hx.1 hx.2
  have a2 := V8_toNat hy.1 hy.2
  constructor
  · intro h
    have h1 : (V8 x).toNat ||| (V8 y).toNat = 0 := by omega
    have := Nat.or_eq_zero_iff.1 h1
    omega
  · rintro ⟨rfl, rfl⟩
    rfl
def foS (a b : List Int) : Nat → Int
  | 0 => 0
  | i + 1 => ior .u8 (foS a b i) (ixor .u8 (a.getD i 0) (b.getD i 0))
theorem foS_in (a b : List Int) : ∀ i, 0 ≤ foS a b i ∧ foS a b i < 256
  | 0 => ⟨Int.le_refl 0, by show (0 : Int) < 256; decide⟩
  | i + 1 => wB_in _
theorem foS_zero {a b : List Int} (ha : isBs a) (hb : isBs b) : ∀ i, foS a b i = 0 ↔ ∀ j, j < i → a.getD j 0 = b.getD j 0
  | 0 => ⟨fun _ j h => absurd h (Nat.not_lt_zero j), fun _ => rfl⟩
  | i + 1 => by
    show ior .u8 _ _ = 0 ↔ _
    have e1 := ior8_zero (x := foS a b i) (y := ixor .u8 (a.getD i 0) (b.getD i 0)) (foS_in a b i) (wB_in _)
    have e2 := ixor8_zero (g2_in ha i) (g2_in hb i)
    have e3 := foS_zero ha hb i
    unfold g2 at e2
    rw [e1, e3, e2]
    constructor
    · rintro ⟨h1, h2⟩ j hj
      rcases Nat.lt_succ_iff_lt_or_eq.1 hj with h | rfl
      · exact h1 j h
      · exact h2
    · intro h
      exact ⟨fun j hj => h j (by omega), h i (Nat.lt_succ_self i)⟩
theorem same_iff {a b : List Int} (ha : isBs a) (hb : isBs b) (hl : a.length = b.length) : foS a b a.length = 0 ↔ a = b := by
  rw [foS_zero ha hb]
  constructor
  · intro h
    refine List.ext_getElem hl fun j h1 h2 => ?_
    have := h j h1
    rw [List.getD_eq_getElem?_getD, List.getD_eq_getElem?_getD, List.getElem?_eq_getElem h1, List.getElem?_eq_getElem h2] at this
    exact this
  · rintro rfl j _
    rfl
theorem sm_rounds (a b : List Int) (hl : a.length = b.length) (hm : a.length ≤ 1000000) : ∀ (k i : Nat), i + k = a.length → Reaches Tryd.prog 0 (hdAt fSm 5 [] (k + 1)) (smS a b (foS a b i) i) [.fin] (smE (foS a b a.length == 0))
  | 0, i, h => by
    obtain rfl : i = a.length := by omega
    refine Reaches.oneK (Reaches.runK tyT_ok nil_ok mixed_ (sm_end a b _ a.length 0) ?_)
    simp only [allP_cons, allP_nil, and_true, tB_nlt]
    omega
  | k + 1, i, h => by
    refine (Reaches.oneK (Reaches.runK tyT_ok nil_ok mixed_ (sm_go a b (foS a b i) i (k + 1)) ?_)).trans (sm_rounds a b hl hm k (i + 1) (by omega))
    have e5 := w64 (z := ((i : Nat) : Int) + 1) (by omega) (by omega)
    simp only [allP_cons, allP_nil, and_true, true_and, tB_lt, tI_iff, widths_o]
    omega
def smF : List CB → Option BR
  | [.sl .u8 a, .sl .u8 b] => some { pre := isBs a ∧ isBs b ∧ a.length ≤ 1000000, val := .av (.one (.v (.bool (decide (a = b))))) }
  | _ => none
theorem sm_ends (cbs : List CB) (r : BR) (hF : smF cbs = some r) (hp : r.pre) : EndsB Tryd.prog tyT [] fSm cbs r := by
  unfold smF at hF
  split at hF
  · rename_i a b
    injection hF with hF
    subst hF
    obtain ⟨ha, hb, hm⟩ : isBs a ∧ isBs b ∧ a.length ≤ 1000000 := hp
    intro κ
    have h : FromK Tryd.prog 0 fSm (bA (smB a b) 0 0) (bH κ (smB a b) 0 0) 2 [] [.fin] (smE (decide (a = b))) := by
      by_cases hl : a.length = b.length
      · have hr := Reaches.roundsK (a.length + 1) (sm_rounds a b hl hm a.length 0 (Nat.zero_add _))
        have e : (foS a b a.length == 0) = decide (a = b) := by
          rw [Bool.eq_iff_iff, beq_iff_eq, decide_eq_true_iff]
          exact same_iff ha hb hl
        rw [e] at hr
        refine (FromK.run (m0 := 0) tyT_ok nil_ok mixed_ (sm_start κ a b) ?_).trans hr
        simp only [allP_cons, allP_nil, and_true, tB_nne]
        omega
      · have hst := sm_no κ a b
        have e : decide (a = b) = false := decide_eq_false fun e => hl (by rw [e])
        rw [e]
        refine FromK.run (m0 := 0) tyT_ok nil_ok mixed_ hst ?_
        simp only [allP_cons, allP_nil, and_true, tB_ne]
        omega
    exact ⟨[.fin], _, .av (.one (.v (.bool (decide (a = b))))), [], .inr rfl, h, by kernel_rfl, by kernel_rfl, by kernel_rfl⟩
  · cases hF
theorem same_ent (sh : List ShB) (hs : sh.length = 2 := by rfl) : EntOK Tryd.prog 43 (entB sh smF) :=
  ok_B tyT_ok Tryd.func43 (by kernel_rfl) (by kernel_rfl) [] (fun x hx => by cases hx) (by rw [hs]; kernel_rfl) sm_ends
end Go.Proofs.YtmhmfmnjdbehcaaDoor.Am
/- The keyed sums. Conditions: none. -/
namespace Go.Proofs.YtmhmfmnjdbehcaaDoor.Am
set_option linter.unusedVariables false
set_option linter.unusedSimpArgs false
open Go Go.RowKit
set_option linter.unusedSectionVars false
variable [GT] [GRnd]
noncomputable abbrev fMS : Func := Tryd.f30
noncomputable def tgO : List (Nat × Ent) := [(20, entB [.rd [.ag .u64 8, .sl .u8, .sg, .sg]] suF), (26, entB [.rs [.sl .u8, .sl .u8]] s384F2)]
theorem tgO_ok [G384] : OOK Tryd.prog tgO := ook_of (l := [(20, entB [.rd [.ag .u64 8, .sl .u8, .sg, .sg]] suF), (26, entB [.rs [.sl .u8, .sl .u8]] s384F2)]) ⟨sum_ent _, s384_ent2 _, trivial⟩
noncomputable def eTag : Ent := inl tyT tgO noH [] 2000 Tryd.f42 []
theorem tag_ent [G384] : EntOK Tryd.prog 42 eTag := inl_ok tyT_ok tgO_ok mixed_ Tryd.func42 (by kernel_rfl) (by kernel_rfl) _
/-- The keyed sum. -/
def macL (k a : List Int) : List Int := keyL 48 (g2 (shaL kStart384 (padL k 92 ++ keyL 48 (g2 (shaL kStart384 (padL k 54 ++ a))))))
theorem macL_len (k a : List Int) : (macL k a).length = 48 := keyL_len _ _
theorem padL_len (k : List Int) (c : Int) : (padL k c).length = 128 := keyL_len _ _
theorem cut128 (k : List Int) (c : Int) : cutI (padL k c) 0 128 = padL k c := by
  have := cutI_all (padL k c)
  rw [padL_len] at this
  exact this
theorem cut48 (s : List Int) (h : s.length = 64) : cutI s 0 48 = keyL 48 (g2 s) := by
  rw [cutI_eq, List.drop_zero]
  have hl : (s.take 48).length = 48 := by rw [List.length_take]; omega
  rw [← keyL_g2 hl]
  exact keyL_congr fun i hi => by
    unfold g2
    rw [List.getD_eq_getElem?_getD, List.getD_eq_getElem?_getD, List.getElem?_take_of_lt hi]
noncomputable def beO1 : List (Nat × Ent) := [(18, entB [] nwF384), (54, entB [.sl .u8, .av] paF), (19, entB [.mu 63 [.ag .u64 8, .sl .u8, .sg, .sg], .rs [.sl .u8]] adF)]
theorem beO1_ok [G384] : OOK Tryd.prog beO1 := ook_of (l := [(18, entB [] nwF384), (54, entB [.sl .u8, .av] paF), (19, entB [.mu 63 [.ag .u64 8, .sl .u8, .sg, .sg], .rs [.sl .u8]] adF)]) ⟨new384_ent _, pad_ent _, add_ent _, trivial⟩
noncomputable def eBegin1 : Ent := inl tyT beO1 noH [] 2000 Tryd.f41 []
theorem begin1_ent [G384] : EntOK Tryd.prog 41 eBegin1 := inl_ok tyT_ok beO1_ok mixed_ Tryd.func41 (by kernel_rfl) (by kernel_rfl) _
noncomputable def msO1 : List (Nat × Ent) := [(41, eBegin1), (42, eTag)]
theorem msO1_ok [G384] : OOK Tryd.prog msO1 := ook_of (l := [(41, eBegin1), (42, eTag)]) ⟨begin1_ent, tag_ent, trivial⟩
theorem ms_run1 (κ : Nat → Value) (k : List Int) (cap : Nat) (p : List Int) : runF tyT msO1 noH [] 0 [6] [4] fMS (bA [.sl .u8 k, .rs cap [.sl .u8 p]] 0 0) (bH κ [.sl .u8 k, .rs cap [.sl .u8 p]] 0 0) 3 [] = some ([.fin], { tm := tmL 9 [(4, .av (.one (.s 0 0 48 48)))], hp := [(0, ⟨0, 36, [.arr .u8 (keyL 48 (g2 (shaL kStart384 (cutI (padL (cutI k 0 k.length) 92) 0 128 ++ cutI (sumW (keyL 8 (g2 (abA (keyL 8 (g2 (abA kStart384 ([] ++ (cutI (padL (cutI k 0 k.length) 54) 0 128))))) (lf ([] ++ (cutI (padL (cutI k 0 k.length) 54) 0 128)) ++ (cutI p 0 p.length))))) (lf (lf ([] ++ (cutI (padL (cutI k 0 k.length) 54) 0 128)) ++ (cutI p 0 p.length))) (((0 : Int) + ((cutI (padL (cutI k 0 k.length) 54) 0 128).length : Int)) + ((cutI p 0 p.length).length : Int))) 0 48))))]⟩)], nx := 1, gl := [] }, [True, 0 + k.length ≤ k.length, (cutI k 0 k.length).length ≤ 900000, 0 + k.length ≤ k.length, (cutI k 0 k.length).length ≤ 900000, 0 + 128 ≤ (padL (cutI k 0 k.length) 54).length ∧ 128 ≤ 128, 63 = 63 ∧ kStart384.length = 8 ∧ ([] : List Int).length + (cutI (padL (cutI k 0 k.length) 54) 0 128).length ≤ 900000 ∧ (0 : Int) ≤ 0 ∧ (0 : Int) ≤ 1000000, 128 * KN ([] ++ (cutI (padL (cutI k 0 k.length) 54) 0 128)) + (([] ++ (cutI (padL (cutI k 0 k.length) 54) 0 128)).length - 128 * KN ([] ++ (cutI (padL (cutI k 0 k.length) 54) 0 128))) ≤ ([] ++ (cutI (padL (cutI k 0 k.length) 54) 0 128)).length, 0 + p.length ≤ p.length, 63 = 63 ∧ (keyL 8 (g2 (abA kStart384 ([] ++ (cutI (padL (cutI k 0 k.length) 54) 0 128))))).length = 8 ∧ (lf ([] ++ (cutI (padL (cutI k 0 k.length) 54) 0 128))).length + (cutI p 0 p.length).length ≤ 900000 ∧ 0 ≤ ((0 : Int) + ((cutI (padL (cutI k 0 k.length) 54) 0 128).length : Int)) ∧ ((0 : Int) + ((cutI (padL (cutI k 0 k.length) 54) 0 128).length : Int)) ≤ 1000000, 128 * KN (lf ([] ++ (cutI (padL (cutI k 0 k.length) 54) 0 128)) ++ (cutI p 0 p.length)) + ((lf ([] ++ (cutI (padL (cutI k 0 k.length) 54) 0 128)) ++ (cutI p 0 p.length)).length - 128 * KN (lf ([] ++ (cutI (padL (cutI k 0 k.length) 54) 0 128)) ++ (cutI p 0 p.length))) ≤ (lf ([] ++ (cutI (padL (cutI k 0 k.length) 54) 0 128)) ++ (cutI p 0 p.length)).length, (keyL 8 (g2 (abA (keyL 8 (g2 (abA kStart384 ([] ++ (cutI (padL (cutI k 0 k.length) 54) 0 128))))) (lf ([] ++ (cutI (padL (cutI k 0 k.length) 54) 0 128)) ++ (cutI p 0 p.length))))).length = 8 ∧ (lf (lf ([] ++ (cutI (padL (cutI k 0 k.length) 54) 0 128)) ++ (cutI p 0 p.length))).length ≤ 1000 ∧ 0 ≤ (((0 : Int) + ((cutI (padL (cutI k 0 k.length) 54) 0 128).length : Int)) + ((cutI p 0 p.length).length : Int)) ∧ (((0 : Int) + ((cutI (padL (cutI k 0 k.length) 54) 0 128).length : Int)) + ((cutI p 0 p.length).length : Int)) ≤ 1000000 ∧ ((48 : Int) = 64 ∨ (48 : Int) = 48), 0 + 128 ≤ (padL (cutI k 0 k.length) 92).length ∧ 128 ≤ 128, 0 + 48 ≤ (sumW (keyL 8 (g2 (abA (keyL 8 (g2 (abA kStart384 ([] ++ (cutI (padL (cutI k 0 k.length) 54) 0 128))))) (lf ([] ++ (cutI (padL (cutI k 0 k.length) 54) 0 128)) ++ (cutI p 0 p.length))))) (lf (lf ([] ++ (cutI (padL (cutI k 0 k.length) 54) 0 128)) ++ (cutI p 0 p.length))) (((0 : Int) + ((cutI (padL (cutI k 0 k.length) 54) 0 128).length : Int)) + ((cutI p 0 p.length).length : Int))).length, (cutI (padL (cutI k 0 k.length) 92) 0 128).length + (cutI (sumW (keyL 8 (g2 (abA (keyL 8 (g2 (abA kStart384 ([] ++ (cutI (padL (cutI k 0 k.length) 54) 0 128))))) (lf ([] ++ (cutI (padL (cutI k 0 k.length) 54) 0 128)) ++ (cutI p 0 p.length))))) (lf (lf ([] ++ (cutI (padL (cutI k 0 k.length) 54) 0 128)) ++ (cutI p 0 p.length))) (((0 : Int) + ((cutI (padL (cutI k 0 k.length) 54) 0 128).length : Int)) + ((cutI p 0 p.length).length : Int))) 0 48).length ≤ 900000]) := by kernel_rfl
noncomputable def beO2 : List (Nat × Ent) := [(18, entB [] nwF384), (54, entB [.sl .u8, .av] paF), (19, eOr (entB [.mu 63 [.ag .u64 8, .sl .u8, .sg, .sg], .rs [.sl .u8]] adF) (entB [.mu 63 [.ag .u64 8, .sl .u8, .sg, .sg], .rs [.sl .u8, .sl .u8]] adF))]
theorem beO2_ok [G384] : OOK Tryd.prog beO2 := ook_of (l := [(18, entB [] nwF384), (54, entB [.sl .u8, .av] paF), (19, eOr (entB [.mu 63 [.ag .u64 8, .sl .u8, .sg, .sg], .rs [.sl .u8]] adF) (entB [.mu 63 [.ag .u64 8, .sl .u8, .sg, .sg], .rs [.sl .u8, .sl .u8]] adF))]) ⟨new384_ent _, pad_ent _, eOr_ok (add_ent _) (add_ent _), trivial⟩
noncomputable def eBegin2 : Ent := inl tyT beO2 noH [] 2000 Tryd.f41 []
theorem begin2_ent [G384] : EntOK Tryd.prog 41 eBegin2 := inl_ok tyT_ok beO2_ok mixed_ Tryd.func41 (by kernel_rfl) (by kernel_rfl) _
noncomputable def msO2 : List (Nat × Ent) := [(41, eBegin2), (42, eTag)]
theorem msO2_ok [G384] : OOK Tryd.prog msO2 := ook_of (l := [(41, eBegin2), (42, eTag)]) ⟨begin2_ent, tag_ent, trivial⟩
theorem ms_run2 (κ : Nat → Value) (k : List Int) (cap : Nat) (p q : List Int) : runF tyT msO2 noH [] 0 [7] [4] fMS (bA [.sl .u8 k, .rs cap [.sl .u8 p, .sl .u8 q]] 0 0) (bH κ [.sl .u8 k, .rs cap [.sl .u8 p, .sl .u8 q]] 0 0) 4 [] = some ([.fin], { tm := tmL 9 [(4, .av (.one (.s 0 0 48 48)))], hp := [(0, ⟨0, 36, [.arr .u8 (keyL 48 (g2 (shaL kStart384 (cutI (padL (cutI k 0 k.length) 92) 0 128 ++ cutI (sumW (keyL 8 (g2 (abA (abA (keyL 8 (g2 (abA kStart384 ([] ++ (cutI (padL (cutI k 0 k.length) 54) 0 128))))) (lf ([] ++ (cutI (padL (cutI k 0 k.length) 54) 0 128)) ++ (cutI p 0 p.length))) (lf (lf ([] ++ (cutI (padL (cutI k 0 k.length) 54) 0 128)) ++ (cutI p 0 p.length)) ++ (cutI q 0 q.length))))) (lf (lf (lf ([] ++ (cutI (padL (cutI k 0 k.length) 54) 0 128)) ++ (cutI p 0 p.length)) ++ (cutI q 0 q.length))) ((((0 : Int) + ((cutI (padL (cutI k 0 k.length) 54) 0 128).length : Int)) + ((cutI p 0 p.length).length : Int)) + ((cutI q 0 q.length).length : Int))) 0 48))))]⟩)], nx := 1, gl := [] }, [True, 0 + k.length ≤ k.length, (cutI k 0 k.length).length ≤ 900000, 0 + k.length ≤ k.length, (cutI k 0 k.length).length ≤ 900000, 0 + 128 ≤ (padL (cutI k 0 k.length) 54).length ∧ 128 ≤ 128, 63 = 63 ∧ kStart384.length = 8 ∧ ([] : List Int).length + (cutI (padL (cutI k 0 k.length) 54) 0 128).length ≤ 900000 ∧ (0 : Int) ≤ 0 ∧ (0 : Int) ≤ 1000000, 128 * KN ([] ++ (cutI (padL (cutI k 0 k.length) 54) 0 128)) + (([] ++ (cutI (padL (cutI k 0 k.length) 54) 0 128)).length - 128 * KN ([] ++ (cutI (padL (cutI k 0 k.length) 54) 0 128))) ≤ ([] ++ (cutI (padL (cutI k 0 k.length) 54) 0 128)).length, 0 + p.length ≤ p.length, 0 + q.length ≤ q.length, 63 = 63 ∧ (keyL 8 (g2 (abA kStart384 ([] ++ (cutI (padL (cutI k 0 k.length) 54) 0 128))))).length = 8 ∧ (lf ([] ++ (cutI (padL (cutI k 0 k.length) 54) 0 128))).length + ((cutI p 0 p.length).length + (cutI q 0 q.length).length) ≤ 900000 ∧ 0 ≤ ((0 : Int) + ((cutI (padL (cutI k 0 k.length) 54) 0 128).length : Int)) ∧ ((0 : Int) + ((cutI (padL (cutI k 0 k.length) 54) 0 128).length : Int)) ≤ 1000000, 128 * KN (lf (lf ([] ++ (cutI (padL (cutI k 0 k.length) 54) 0 128)) ++ (cutI p 0 p.length)) ++ (cutI q 0 q.length)) + ((lf (lf ([] ++ (cutI (padL (cutI k 0 k.length) 54) 0 128)) ++ (cutI p 0 p.length)) ++ (cutI q 0 q.length)).length - 128 * KN (lf (lf ([] ++ (cutI (padL (cutI k 0 k.length) 54) 0 128)) ++ (cutI p 0 p.length)) ++ (cutI q 0 q.length))) ≤ (lf (lf ([] ++ (cutI (padL (cutI k 0 k.length) 54) 0 128)) ++ (cutI p 0 p.length)) ++ (cutI q 0 q.length)).length, (keyL 8 (g2 (abA (abA (keyL 8 (g2 (abA kStart384 ([] ++ (cutI (padL (cutI k 0 k.length) 54) 0 128))))) (lf ([] ++ (cutI (padL (cutI k 0 k.length) 54) 0 128)) ++ (cutI p 0 p.length))) (lf (lf ([] ++ (cutI (padL (cutI k 0 k.length) 54) 0 128)) ++ (cutI p 0 p.length)) ++ (cutI q 0 q.length))))).length = 8 ∧ (lf (lf (lf ([] ++ (cutI (padL (cutI k 0 k.length) 54) 0 128)) ++ (cutI p 0 p.length)) ++ (cutI q 0 q.length))).length ≤ 1000 ∧ 0 ≤ ((((0 : Int) + ((cutI (padL (cutI k 0 k.length) 54) 0 128).length : Int)) + ((cutI p 0 p.length).length : Int)) + ((cutI q 0 q.length).length : Int)) ∧ ((((0 : Int) + ((cutI (padL (cutI k 0 k.length) 54) 0 128).length : Int)) + ((cutI p 0 p.length).length : Int)) + ((cutI q 0 q.length).length : Int)) ≤ 1000000 ∧ ((48 : Int) = 64 ∨ (48 : Int) = 48), 0 + 128 ≤ (padL (cutI k 0 k.length) 92).length ∧ 128 ≤ 128, 0 + 48 ≤ (sumW (keyL 8 (g2 (abA (abA (keyL 8 (g2 (abA kStart384 ([] ++ (cutI (padL (cutI k 0 k.length) 54) 0 128))))) (lf ([] ++ (cutI (padL (cutI k 0 k.length) 54) 0 128)) ++ (cutI p 0 p.length))) (lf (lf ([] ++ (cutI (padL (cutI k 0 k.length) 54) 0 128)) ++ (cutI p 0 p.length)) ++ (cutI q 0 q.length))))) (lf (lf (lf ([] ++ (cutI (padL (cutI k 0 k.length) 54) 0 128)) ++ (cutI p 0 p.length)) ++ (cutI q 0 q.length))) ((((0 : Int) + ((cutI (padL (cutI k 0 k.length) 54) 0 128).length : Int)) + ((cutI p 0 p.length).length : Int)) + ((cutI q 0 q.length).length : Int))).length, (cutI (padL (cutI k 0 k.length) 92) 0 128).length + (cutI (sumW (keyL 8 (g2 (abA (abA (keyL 8 (g2 (abA kStart384 ([] ++ (cutI (padL (cutI k 0 k.length) 54) 0 128))))) (lf ([] ++ (cutI (padL (cutI k 0 k.length) 54) 0 128)) ++ (cutI p 0 p.length))) (lf (lf ([] ++ (cutI (padL (cutI k 0 k.length) 54) 0 128)) ++ (cutI p 0 p.length)) ++ (cutI q 0 q.length))))) (lf (lf (lf ([] ++ (cutI (padL (cutI k 0 k.length) 54) 0 128)) ++ (cutI p 0 p.length)) ++ (cutI q 0 q.length))) ((((0 : Int) + ((cutI (padL (cutI k 0 k.length) 54) 0 128).length : Int)) + ((cutI p 0 p.length).length : Int)) + ((cutI q 0 q.length).length : Int))) 0 48).length ≤ 900000]) := by kernel_rfl
noncomputable def beO3 : List (Nat × Ent) := [(18, entB [] nwF384), (54, entB [.sl .u8, .av] paF), (19, eOr (entB [.mu 63 [.ag .u64 8, .sl .u8, .sg, .sg], .rs [.sl .u8]] adF) (entB [.mu 63 [.ag .u64 8, .sl .u8, .sg, .sg], .rs [.sl .u8, .sl .u8, .sl .u8]] adF))]
theorem beO3_ok [G384] : OOK Tryd.prog beO3 := ook_of (l := [(18, entB [] nwF384), (54, entB [.sl .u8, .av] paF), (19, eOr (entB [.mu 63 [.ag .u64 8, .sl .u8, .sg, .sg], .rs [.sl .u8]] adF) (entB [.mu 63 [.ag .u64 8, .sl .u8, .sg, .sg], .rs [.sl .u8, .sl .u8, .sl .u8]] adF))]) ⟨new384_ent _, pad_ent _, eOr_ok (add_ent _) (add_ent _), trivial⟩
noncomputable def eBegin3 : Ent := inl tyT beO3 noH [] 2000 Tryd.f41 []
theorem begin3_ent [G384] : EntOK Tryd.prog 41 eBegin3 := inl_ok tyT_ok beO3_ok mixed_ Tryd.func41 (by kernel_rfl) (by kernel_rfl) _
noncomputable def msO3 : List (Nat × Ent) := [(41, eBegin3), (42, eTag)]
theorem msO3_ok [G384] : OOK Tryd.prog msO3 := ook_of (l := [(41, eBegin3), (42, eTag)]) ⟨begin3_ent, tag_ent, trivial⟩
theorem ms_run3 (κ : Nat → Value) (k : List Int) (cap : Nat) (p q u : List Int) : runF tyT msO3 noH [] 0 [8] [4] fMS (bA [.sl .u8 k, .rs cap [.sl .u8 p, .sl .u8 q, .sl .u8 u]] 0 0) (bH κ [.sl .u8 k, .rs cap [.sl .u8 p, .sl .u8 q, .sl .u8 u]] 0 0) 5 [] = some ([.fin], { tm := tmL 9 [(4, .av (.one (.s 0 0 48 48)))], hp := [(0, ⟨0, 36, [.arr .u8 (keyL 48 (g2 (shaL kStart384 (cutI (padL (cutI k 0 k.length) 92) 0 128 ++ cutI (sumW (keyL 8 (g2 (abA (abA (abA (keyL 8 (g2 (abA kStart384 ([] ++ (cutI (padL (cutI k 0 k.length) 54) 0 128))))) (lf ([] ++ (cutI (padL (cutI k 0 k.length) 54) 0 128)) ++ (cutI p 0 p.length))) (lf (lf ([] ++ (cutI (padL (cutI k 0 k.length) 54) 0 128)) ++ (cutI p 0 p.length)) ++ (cutI q 0 q.length))) (lf (lf (lf ([] ++ (cutI (padL (cutI k 0 k.length) 54) 0 128)) ++ (cutI p 0 p.length)) ++ (cutI q 0 q.length)) ++ (cutI u 0 u.length))))) (lf (lf (lf (lf ([] ++ (cutI (padL (cutI k 0 k.length) 54) 0 128)) ++ (cutI p 0 p.length)) ++ (cutI q 0 q.length)) ++ (cutI u 0 u.length))) (((((0 : Int) + ((cutI (padL (cutI k 0 k.length) 54) 0 128).length : Int)) + ((cutI p 0 p.length).length : Int)) + ((cutI q 0 q.length).length : Int)) + ((cutI u 0 u.length).length : Int))) 0 48))))]⟩)], nx := 1, gl := [] }, [True, 0 + k.length ≤ k.length, (cutI k 0 k.length).length ≤ 900000, 0 + k.length ≤ k.length, (cutI k 0 k.length).length ≤ 900000, 0 + 128 ≤ (padL (cutI k 0 k.length) 54).length ∧ 128 ≤ 128, 63 = 63 ∧ kStart384.length = 8 ∧ ([] : List Int).length + (cutI (padL (cutI k 0 k.length) 54) 0 128).length ≤ 900000 ∧ (0 : Int) ≤ 0 ∧ (0 : Int) ≤ 1000000, 128 * KN ([] ++ (cutI (padL (cutI k 0 k.length) 54) 0 128)) + (([] ++ (cutI (padL (cutI k 0 k.length) 54) 0 128)).length - 128 * KN ([] ++ (cutI (padL (cutI k 0 k.length) 54) 0 128))) ≤ ([] ++ (cutI (padL (cutI k 0 k.length) 54) 0 128)).length, 0 + p.length ≤ p.length, 0 + q.length ≤ q.length, 0 + u.length ≤ u.length, 63 = 63 ∧ (keyL 8 (g2 (abA kStart384 ([] ++ (cutI (padL (cutI k 0 k.length) 54) 0 128))))).length = 8 ∧ (lf ([] ++ (cutI (padL (cutI k 0 k.length) 54) 0 128))).length + ((cutI p 0 p.length).length + (cutI q 0 q.length).length + (cutI u 0 u.length).length) ≤ 900000 ∧ 0 ≤ ((0 : Int) + ((cutI (padL (cutI k 0 k.length) 54) 0 128).length : Int)) ∧ ((0 : Int) + ((cutI (padL (cutI k 0 k.length) 54) 0 128).length : Int)) ≤ 1000000, 128 * KN (lf (lf (lf ([] ++ (cutI (padL (cutI k 0 k.length) 54) 0 128)) ++ (cutI p 0 p.length)) ++ (cutI q 0 q.length)) ++ (cutI u 0 u.length)) + ((lf (lf (lf ([] ++ (cutI (padL (cutI k 0 k.length) 54) 0 128)) ++ (cutI p 0 p.length)) ++ (cutI q 0 q.length)) ++ (cutI u 0 u.length)).length - 128 * KN (lf (lf (lf ([] ++ (cutI (padL (cutI k 0 k.length) 54) 0 128)) ++ (cutI p 0 p.length)) ++ (cutI q 0 q.length)) ++ (cutI u 0 u.length))) ≤ (lf (lf (lf ([] ++ (cutI (padL (cutI k 0 k.length) 54) 0 128)) ++ (cutI p 0 p.length)) ++ (cutI q 0 q.length)) ++ (cutI u 0 u.length)).length, (keyL 8 (g2 (abA (abA (abA (keyL 8 (g2 (abA kStart384 ([] ++ (cutI (padL (cutI k 0 k.length) 54) 0 128))))) (lf ([] ++ (cutI (padL (cutI k 0 k.length) 54) 0 128)) ++ (cutI p 0 p.length))) (lf (lf ([] ++ (cutI (padL (cutI k 0 k.length) 54) 0 128)) ++ (cutI p 0 p.length)) ++ (cutI q 0 q.length))) (lf (lf (lf ([] ++ (cutI (padL (cutI k 0 k.length) 54) 0 128)) ++ (cutI p 0 p.length)) ++ (cutI q 0 q.length)) ++ (cutI u 0 u.length))))).length = 8 ∧ (lf (lf (lf (lf ([] ++ (cutI (padL (cutI k 0 k.length) 54) 0 128)) ++ (cutI p 0 p.length)) ++ (cutI q 0 q.length)) ++ (cutI u 0 u.length))).length ≤ 1000 ∧ 0 ≤ (((((0 : Int) + ((cutI (padL (cutI k 0 k.length) 54) 0 128).length : Int)) + ((cutI p 0 p.length).length : Int)) + ((cutI q 0 q.length).length : Int)) + ((cutI u 0 u.length).length : Int)) ∧ (((((0 : Int) + ((cutI (padL (cutI k 0 k.length) 54) 0 128).length : Int)) + ((cutI p 0 p.length).length : Int)) + ((cutI q 0 q.length).length : Int)) + ((cutI u 0 u.length).length : Int)) ≤ 1000000 ∧ ((48 : Int) = 64 ∨ (48 : Int) = 48), 0 + 128 ≤ (padL (cutI k 0 k.length) 92).length ∧ 128 ≤ 128, 0 + 48 ≤ (sumW (keyL 8 (g2 (abA (abA (abA (keyL 8 (g2 (abA kStart384 ([] ++ (cutI (padL (cutI k 0 k.length) 54) 0 128))))) (lf ([] ++ (cutI (padL (cutI k 0 k.length) 54) 0 128)) ++ (cutI p 0 p.length))) (lf (lf ([] ++ (cutI (padL (cutI k 0 k.length) 54) 0 128)) ++ (cutI p 0 p.length)) ++ (cutI q 0 q.length))) (lf (lf (lf ([] ++ (cutI (padL (cutI k 0 k.length) 54) 0 128)) ++ (cutI p 0 p.length)) ++ (cutI q 0 q.length)) ++ (cutI u 0 u.length))))) (lf (lf (lf (lf ([] ++ (cutI (padL (cutI k 0 k.length) 54) 0 128)) ++ (cutI p 0 p.length)) ++ (cutI q 0 q.length)) ++ (cutI u 0 u.length))) (((((0 : Int) + ((cutI (padL (cutI k 0 k.length) 54) 0 128).length : Int)) + ((cutI p 0 p.length).length : Int)) + ((cutI q 0 q.length).length : Int)) + ((cutI u 0 u.length).length : Int))).length, (cutI (padL (cutI k 0 k.length) 92) 0 128).length + (cutI (sumW (keyL 8 (g2 (abA (abA (abA (keyL 8 (g2 (abA kStart384 ([] ++ (cutI (padL (cutI k 0 k.length) 54) 0 128))))) (lf ([] ++ (cutI (padL (cutI k 0 k.length) 54) 0 128)) ++ (cutI p 0 p.length))) (lf (lf ([] ++ (cutI (padL (cutI k 0 k.length) 54) 0 128)) ++ (cutI p 0 p.length)) ++ (cutI q 0 q.length))) (lf (lf (lf ([] ++ (cutI (padL (cutI k 0 k.length) 54) 0 128)) ++ (cutI p 0 p.length)) ++ (cutI q 0 q.length)) ++ (cutI u 0 u.length))))) (lf (lf (lf (lf ([] ++ (cutI (padL (cutI k 0 k.length) 54) 0 128)) ++ (cutI p 0 p.length)) ++ (cutI q 0 q.length)) ++ (cutI u 0 u.length))) (((((0 : Int) + ((cutI (padL (cutI k 0 k.length) 54) 0 128).length : Int)) + ((cutI p 0 p.length).length : Int)) + ((cutI q 0 q.length).length : Int)) + ((cutI u 0 u.length).length : Int))) 0 48).length ≤ 900000]) := by kernel_rfl
end Go.Proofs.YtmhmfmnjdbehcaaDoor.Am
