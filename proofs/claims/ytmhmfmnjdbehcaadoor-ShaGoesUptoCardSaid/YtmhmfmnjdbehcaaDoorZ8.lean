/- The sums' words as bytes; new sums. Conditions: none. -/
import Derived.Test.YtmhmfmnjdbehcaaDoorZ7
import Derived.Test.YtmhmfmnjdbehcaaDoorRows
import Derived.WalkKit
import Derived.ProofKit
import Derived.OpenShut
import Derived.ChangeOld
import Derived.Below
import Derived.Test.YtmhmfmnjdbehcaaDoorZ6
import Derived.ChangeSlices
set_option linter.unusedSectionVars false
namespace Go.Proofs.YtmhmfmnjdbehcaaDoor.Am
set_option linter.unusedVariables false
set_option linter.unusedSimpArgs false
open Go Go.RowKit
set_option linter.unusedSectionVars false
variable [GT] [GRnd]
noncomputable abbrev fBy : Func := Tryd.f39
def byE (sf : Nat → Int) (j : Nat) : Int := IntKind.wrap .u8 (ishr .u64 (sf (j / 8)) (56 - 8 * (j % 8) : Nat))
/-- Words as bytes. -/
def byL (sf : Nat → Int) : List Int := keyL 64 (byE sf)
def byC (x : Value) (n z : Int) (sf : Nat → Int) : List Seg := [.arr .u64 [sf 0, sf 1, sf 2, sf 3, sf 4, sf 5, sf 6, sf 7], .v x, .v (.int .i64 n), .v (.int .i64 z)]
def byV (sf : Nat → Int) (m : Nat) : List Seg := [.arr .u8 (keyL m (byE sf))]
def byY (sf : Nat → Int) (x : Value) (n z : Int) : St := { tm := tmL 26 [(3, ofV (Value.slice none 0 0)), (7, .av (.one (.p 0 0))), (8, ofV (.int .i64 0))], hp := [(0, ⟨2, 0, byC x n z sf⟩)], nx := 1, gl := [] }
def byS (sf : Nat → Int) (x : Value) (n z : Int) (i : Nat) : St := { tm := tmL 26 [(3, .av (.one (.r 0 0 (8 * i) 0))), (7, .av (.one (.p 1 0))), (8, ofV (.int .i64 (i : Nat)))], hp := [(0, ⟨1, 5, byV sf (8 * i)⟩), (1, ⟨2, 0, byC x n z sf⟩)], nx := 2, gl := [] }
def byZ (sf : Nat → Int) : St := { tm := tmL 26 [(2, .av (.one (.r 0 0 64 0)))], hp := [(0, ⟨1, 5, byV sf 64⟩)], nx := 1, gl := [] }
def byB (sf : Nat → Int) (i : Nat) (n z : Int) : List CB := [.rd [.ag .u64 (keyL 8 sf), .kp i, .sg (.v (.int .i64 n)), .sg (.v (.int .i64 z))]]
theorem by_start (κ : Nat → Value) (sf : Nat → Int) (i : Nat) (n z : Int) : runF tyT [] noH [] 0 [0] [3, 7, 8] fBy (bA (byB sf i n z) 0 0) (bH κ (byB sf i n z) 0 0) 1 [] = some (toAt fBy 3 [], byY sf (κ i) n z, []) := by kernel_rfl
theorem by_0 (sf : Nat → Int) (x : Value) (n z : Int) (k_ : Nat) : runN tyT [] noH [(6, 9)] 2000 0 [16, 0] [3, 7, 8] (inAt fBy 3 [] k_) (byY sf x n z) = some (hdAt fBy 3 [] k_, byS sf x n z 1, []) := by kernel_rfl
theorem by_1 (sf : Nat → Int) (x : Value) (n z : Int) (k_ : Nat) : runN tyT [] noH [(6, 9)] 2000 0 [17, 1] [3, 7, 8] (inAt fBy 3 [] k_) (byS sf x n z 1) = some (hdAt fBy 3 [] k_, byS sf x n z 2, []) := by kernel_rfl
theorem by_2 (sf : Nat → Int) (x : Value) (n z : Int) (k_ : Nat) : runN tyT [] noH [(6, 9)] 2000 0 [17, 1] [3, 7, 8] (inAt fBy 3 [] k_) (byS sf x n z 2) = some (hdAt fBy 3 [] k_, byS sf x n z 3, []) := by kernel_rfl
theorem by_3 (sf : Nat → Int) (x : Value) (n z : Int) (k_ : Nat) : runN tyT [] noH [(6, 9)] 2000 0 [17, 1] [3, 7, 8] (inAt fBy 3 [] k_) (byS sf x n z 3) = some (hdAt fBy 3 [] k_, byS sf x n z 4, []) := by kernel_rfl
theorem by_4 (sf : Nat → Int) (x : Value) (n z : Int) (k_ : Nat) : runN tyT [] noH [(6, 9)] 2000 0 [17, 1] [3, 7, 8] (inAt fBy 3 [] k_) (byS sf x n z 4) = some (hdAt fBy 3 [] k_, byS sf x n z 5, []) := by kernel_rfl
theorem by_5 (sf : Nat → Int) (x : Value) (n z : Int) (k_ : Nat) : runN tyT [] noH [(6, 9)] 2000 0 [17, 1] [3, 7, 8] (inAt fBy 3 [] k_) (byS sf x n z 5) = some (hdAt fBy 3 [] k_, byS sf x n z 6, []) := by kernel_rfl
theorem by_6 (sf : Nat → Int) (x : Value) (n z : Int) (k_ : Nat) : runN tyT [] noH [(6, 9)] 2000 0 [17, 1] [3, 7, 8] (inAt fBy 3 [] k_) (byS sf x n z 6) = some (hdAt fBy 3 [] k_, byS sf x n z 7, []) := by kernel_rfl
theorem by_7 (sf : Nat → Int) (x : Value) (n z : Int) (k_ : Nat) : runN tyT [] noH [(6, 9)] 2000 0 [17, 1] [3, 7, 8] (inAt fBy 3 [] k_) (byS sf x n z 7) = some (hdAt fBy 3 [] k_, byS sf x n z 8, []) := by kernel_rfl
theorem by_end (sf : Nat → Int) (x : Value) (n z : Int) (k_ : Nat) : runN tyT [] noH [] 2000 0 [0] [2] (inAt fBy 3 [] k_) (byS sf x n z 8) = some ([.fin], byZ sf, []) := by kernel_rfl
def byF : List CB → Option BR
  | [.rd [.ag .u64 s, .kp _, .sg (.v (.int .i64 _)), .sg (.v (.int .i64 _))]] => some { pre := s.length = 8, val := .av (.one (.r 0 0 64 0)), new := [⟨1, 5, [.arr .u8 (byL (g2 s))]⟩] }
  | _ => none
theorem by_reach (sf : Nat → Int) (x : Value) (n z : Int) : Reaches Tryd.prog 0 (toAt fBy 3 []) (byY sf x n z) [.fin] (byZ sf) :=
  Reaches.roundsK 9 (Reaches.oneK ((Reaches.runK tyT_ok nil_ok mixed_ (by_0 sf x n z 8) trivial).trans (Reaches.oneK ((Reaches.runK tyT_ok nil_ok mixed_ (by_1 sf x n z 7) trivial).trans (Reaches.oneK ((Reaches.runK tyT_ok nil_ok mixed_ (by_2 sf x n z 6) trivial).trans (Reaches.oneK ((Reaches.runK tyT_ok nil_ok mixed_ (by_3 sf x n z 5) trivial).trans (Reaches.oneK ((Reaches.runK tyT_ok nil_ok mixed_ (by_4 sf x n z 4) trivial).trans (Reaches.oneK ((Reaches.runK tyT_ok nil_ok mixed_ (by_5 sf x n z 3) trivial).trans (Reaches.oneK ((Reaches.runK tyT_ok nil_ok mixed_ (by_6 sf x n z 2) trivial).trans (Reaches.oneK ((Reaches.runK tyT_ok nil_ok mixed_ (by_7 sf x n z 1) trivial).trans (Reaches.oneK (Reaches.runK tyT_ok nil_ok mixed_ (by_end sf x n z 0) trivial))))))))))))))))))
theorem by_ends (cbs : List CB) (r : BR) (hF : byF cbs = some r) (hp : r.pre) : EndsB Tryd.prog tyT [] fBy cbs r := by
  unfold byF at hF
  split at hF
  · rename_i s i n z
    injection hF with hF
    subst hF
    have hs : s.length = 8 := hp
    intro κ
    have h := (FromK.run (m0 := 0) tyT_ok nil_ok mixed_ (by_start κ (g2 s) i n z) trivial).trans (by_reach (g2 s) (κ i) n z)
    unfold byB at h
    rw [keyL_g2 hs] at h
    exact ⟨[.fin], _, .av (.one (.r 0 0 64 0)), [0], .inr rfl, h, by kernel_rfl, by kernel_rfl, by kernel_rfl⟩
  · cases hF
theorem bytes_ent (sh : List ShB) (hs : sh.length = 1 := by rfl) : EntOK Tryd.prog 39 (entB sh byF) :=
  ok_B tyT_ok Tryd.func39 (by kernel_rfl) (by kernel_rfl) [] (fun x hx => by cases hx) (by rw [hs]; kernel_rfl) by_ends
end Go.Proofs.YtmhmfmnjdbehcaaDoor.Am
/- The sums' Sum, New512, New384, Len, Add of nothing. Conditions: none. -/
namespace Go.Proofs.YtmhmfmnjdbehcaaDoor.Am
set_option linter.unusedVariables false
set_option linter.unusedSimpArgs false
open Go Go.RowKit
set_option linter.unusedSectionVars false
variable [GT] [GRnd]
noncomputable abbrev fSu : Func := Tryd.f20
noncomputable def suO : List (Nat × Ent) := [(19, entB [.mu 63 [.ag .u64 8, .sl .u8, .sg, .sg], .rs [.sl .u8]] adF), (37, eClone false), (38, entB [.av] tlF), (39, entB [.rd [.ag .u64 8, .kp, .sg, .sg]] byF)]
theorem suO_ok : OOK Tryd.prog suO := ook_of (l := [(19, entB [.mu 63 [.ag .u64 8, .sl .u8, .sg, .sg], .rs [.sl .u8]] adF), (37, eClone false), (38, entB [.av] tlF), (39, entB [.rd [.ag .u64 8, .kp, .sg, .sg]] byF)]) ⟨add_ent _, clone_ent _, tail_ent _, bytes_ent _, trivial⟩
def suB (sf : Nat → Int) (l : List Int) (n z : Int) : List CB := [.rd [.ag .u64 (keyL 8 sf), .sl .u8 l, .sg (.v (.int .i64 n)), .sg (.v (.int .i64 z))]]
def suA (l : List Int) (n : Int) : List Int := cutI (cutI l 0 l.length) 0 (cutI l 0 l.length).length ++ cutI (tailL n.toNat) 0 (padN n.toNat + 17)
/-- The sum of what was taken. -/
def sumW (s l : List Int) (n : Int) : List Int := byL (g2 (abA s (l ++ tailL n.toNat)))
theorem su_run64 (κ : Nat → Value) (sf : Nat → Int) (l : List Int) (n : Int) : runF tyT suO (atH 4 6 symH noH) [] 0 [11] [2] fSu (bA (suB sf l n 64) 0 0) (bH κ (suB sf l n 64) 0 0) 2 [] = some ([.fin], { tm := tmL 27 [(2, .av (.one (.r 0 0 64 0)))], hp := [(0, ⟨1, 5, [.arr .u8 (byL (g2 (keyL 8 (g2 (abA (keyL 8 sf) (suA l n))))))]⟩)], nx := 1, gl := [] }, [0 + l.length ≤ l.length, (cutI l 0 l.length).length ≤ 1000000, 0 ≤ n ∧ n ≤ 1000000, 0 + (cutI l 0 l.length).length ≤ (cutI l 0 l.length).length, 0 + (padN n.toNat + 17) ≤ (tailL n.toNat).length, 63 = 63 ∧ (keyL 8 sf).length = 8 ∧ (cutI (cutI l 0 l.length) 0 (cutI l 0 l.length).length).length + (cutI (tailL n.toNat) 0 (padN n.toNat + 17)).length ≤ 900000 ∧ 0 ≤ n ∧ n ≤ 1000000, (keyL 8 (g2 (abA (keyL 8 sf) (suA l n)))).length = 8, 64 ≤ widths [Seg.arr .u8 (byL (g2 (keyL 8 (g2 (abA (keyL 8 sf) (suA l n))))))], (0 : Int) ≤ 64 ∧ 64 ≤ widths [Seg.arr .u8 (byL (g2 (keyL 8 (g2 (abA (keyL 8 sf) (suA l n))))))] - 0]) := by kernel_rfl
theorem su_run48 (κ : Nat → Value) (sf : Nat → Int) (l : List Int) (n : Int) : runF tyT suO (atH 4 6 symH noH) [] 0 [11] [2] fSu (bA (suB sf l n 48) 0 0) (bH κ (suB sf l n 48) 0 0) 2 [] = some ([.fin], { tm := tmL 27 [(2, .av (.one (.r 0 0 48 0)))], hp := [(0, ⟨1, 5, [.arr .u8 (byL (g2 (keyL 8 (g2 (abA (keyL 8 sf) (suA l n))))))]⟩)], nx := 1, gl := [] }, [0 + l.length ≤ l.length, (cutI l 0 l.length).length ≤ 1000000, 0 ≤ n ∧ n ≤ 1000000, 0 + (cutI l 0 l.length).length ≤ (cutI l 0 l.length).length, 0 + (padN n.toNat + 17) ≤ (tailL n.toNat).length, 63 = 63 ∧ (keyL 8 sf).length = 8 ∧ (cutI (cutI l 0 l.length) 0 (cutI l 0 l.length).length).length + (cutI (tailL n.toNat) 0 (padN n.toNat + 17)).length ≤ 900000 ∧ 0 ≤ n ∧ n ≤ 1000000, (keyL 8 (g2 (abA (keyL 8 sf) (suA l n)))).length = 8, 64 ≤ widths [Seg.arr .u8 (byL (g2 (keyL 8 (g2 (abA (keyL 8 sf) (suA l n))))))], (0 : Int) ≤ 48 ∧ 48 ≤ widths [Seg.arr .u8 (byL (g2 (keyL 8 (g2 (abA (keyL 8 sf) (suA l n))))))] - 0]) := by kernel_rfl
theorem tailL_len (n : Nat) : (tailL n).length = padN n + 17 := by
  unfold tailL
  rw [List.length_append, tlO_len, tlZ_len]
theorem suA_eq (l : List Int) (n : Int) : suA l n = l ++ tailL n.toNat := by
  unfold suA
  rw [cutI_all, cutI_all, ← tailL_len, cutI_all]
def suF : List CB → Option BR
  | [.rd [.ag .u64 s, .sl .u8 l, .sg (.v (.int .i64 n)), .sg (.v (.int .i64 z))]] => some { pre := s.length = 8 ∧ l.length ≤ 1000 ∧ 0 ≤ n ∧ n ≤ 1000000 ∧ (z = 64 ∨ z = 48), val := .av (.one (.r 0 0 z.toNat 0)), new := [⟨1, 5, [.arr .u8 (sumW s l n)]⟩] }
  | _ => none
theorem padN_le (n : Nat) : padN n ≤ 127 := by
  unfold padN
  omega
theorem byL_len (f : Nat → Int) : (byL f).length = 64 := keyL_len _ _
theorem su_ends (cbs : List CB) (r : BR) (hF : suF cbs = some r) (hp : r.pre) : EndsB Tryd.prog tyT [] fSu cbs r := by
  unfold suF at hF
  split at hF
  · rename_i s l n z
    injection hF with hF
    subst hF
    obtain ⟨hs, hl, h0, h1, hz⟩ : s.length = 8 ∧ l.length ≤ 1000 ∧ 0 ≤ n ∧ n ≤ 1000000 ∧ (z = 64 ∨ z = 48) := hp
    intro κ
    have hpad := padN_le n.toNat
    rcases hz with rfl | rfl
    · have hrun := su_run64 κ (g2 s) l n
      rw [keyL_g2 (abA_len (keyL_len 8 (g2 s)) _), suA_eq] at hrun
      unfold suB at hrun
      rw [keyL_g2 hs] at hrun
      have h := FromK.run (m0 := 0) tyT_ok suO_ok mixed_ hrun ?_
      · exact ⟨[.fin], _, .av (.one (.r 0 0 64 0)), [0], .inr rfl, h, by kernel_rfl, by kernel_rfl, by kernel_rfl⟩
      · simp only [allP_cons, allP_nil, and_true, true_and, cutI_all, ← tailL_len, widths_o, byL_len, hs, abA_len hs]
        simp only [tailL_len]
        omega
    · have hrun := su_run48 κ (g2 s) l n
      rw [keyL_g2 (abA_len (keyL_len 8 (g2 s)) _), suA_eq] at hrun
      unfold suB at hrun
      rw [keyL_g2 hs] at hrun
      have h := FromK.run (m0 := 0) tyT_ok suO_ok mixed_ hrun ?_
      · exact ⟨[.fin], _, .av (.one (.r 0 0 48 0)), [0], .inr rfl, h, by kernel_rfl, by kernel_rfl, by kernel_rfl⟩
      · simp only [allP_cons, allP_nil, and_true, true_and, cutI_all, ← tailL_len, widths_o, byL_len, hs, abA_len hs]
        simp only [tailL_len]
        omega
  · cases hF
theorem sum_ent (sh : List ShB) (hs : sh.length = 1 := by rfl) : EntOK Tryd.prog 20 (entB sh suF) :=
  ok_B tyT_ok Tryd.func20 (by kernel_rfl) (by kernel_rfl) [] (fun x hx => by cases hx) (by rw [hs]; kernel_rfl) su_ends
noncomputable abbrev fN512 : Func := Tryd.f17
def gs512 : List GV := [(0, .u64, kStart512)]
theorem gs512_ok [G512] : ∀ x, x ∈ gs512 → (x.1, x.2.2.map (Value.int x.2.1)) ∈ GT.tab := fun x hx => by
  simp only [gs512, List.mem_cons, List.not_mem_nil, or_false] at hx
  subst hx
  exact G512.h
def nwC512 : List Seg := [.arr .u64 kStart512, .v (.slice none 0 0), .v (.int .i64 0), .v (.int .i64 64)]
theorem n512_run : runF tyT [] noH [] 1 [1] [0] fN512 [] (gH gs512 0) 1 (gL gs512 0) = some ([.fin], { tm := tmL 4 [(0, .av (.one (.p 1 0)))], hp := [(0, ⟨2, 0, [.arr .u64 kStart512]⟩), (1, ⟨0, 63, nwC512⟩)], nx := 2, gl := gL gs512 0 }, []) := by kernel_rfl
def nwF512 : List CB → Option BR
  | [] => some { val := .av (.one (.p 0 0)), new := [⟨0, 63, nwC512⟩] }
  | _ => none
theorem n512_ends (cbs : List CB) (r : BR) (hF : nwF512 cbs = some r) (hp : r.pre) : EndsB Tryd.prog tyT gs512 fN512 cbs r := by
  unfold nwF512 at hF
  split at hF
  · injection hF with hF
    subst hF
    intro κ
    have h := FromK.run (m0 := 0) tyT_ok nil_ok mixed_ n512_run trivial
    exact ⟨[.fin], _, .av (.one (.p 1 0)), [1], .inr rfl, h, by kernel_rfl, by kernel_rfl, by kernel_rfl⟩
  · cases hF
theorem new512_ent [G512] (sh : List ShB) (hs : sh.length = 0 := by rfl) : EntOK Tryd.prog 17 (entB sh nwF512) :=
  ok_B tyT_ok Tryd.func17 (by kernel_rfl) (by kernel_rfl) gs512 gs512_ok (by rw [hs]; kernel_rfl) n512_ends
noncomputable abbrev fN384 : Func := Tryd.f18
def gs384 : List GV := [(1, .u64, kStart384)]
theorem gs384_ok [G384] : ∀ x, x ∈ gs384 → (x.1, x.2.2.map (Value.int x.2.1)) ∈ GT.tab := fun x hx => by
  simp only [gs384, List.mem_cons, List.not_mem_nil, or_false] at hx
  subst hx
  exact G384.h
def nwC384 : List Seg := [.arr .u64 kStart384, .v (.slice none 0 0), .v (.int .i64 0), .v (.int .i64 48)]
theorem n384_run : runF tyT [] noH [] 1 [1] [0] fN384 [] (gH gs384 0) 1 (gL gs384 0) = some ([.fin], { tm := tmL 4 [(0, .av (.one (.p 1 0)))], hp := [(0, ⟨2, 0, [.arr .u64 kStart384]⟩), (1, ⟨0, 63, nwC384⟩)], nx := 2, gl := gL gs384 0 }, []) := by kernel_rfl
def nwF384 : List CB → Option BR
  | [] => some { val := .av (.one (.p 0 0)), new := [⟨0, 63, nwC384⟩] }
  | _ => none
theorem n384_ends (cbs : List CB) (r : BR) (hF : nwF384 cbs = some r) (hp : r.pre) : EndsB Tryd.prog tyT gs384 fN384 cbs r := by
  unfold nwF384 at hF
  split at hF
  · injection hF with hF
    subst hF
    intro κ
    have h := FromK.run (m0 := 0) tyT_ok nil_ok mixed_ n384_run trivial
    exact ⟨[.fin], _, .av (.one (.p 1 0)), [1], .inr rfl, h, by kernel_rfl, by kernel_rfl, by kernel_rfl⟩
  · cases hF
theorem new384_ent [G384] (sh : List ShB) (hs : sh.length = 0 := by rfl) : EntOK Tryd.prog 18 (entB sh nwF384) :=
  ok_B tyT_ok Tryd.func18 (by kernel_rfl) (by kernel_rfl) gs384 gs384_ok (by rw [hs]; kernel_rfl) n384_ends
end Go.Proofs.YtmhmfmnjdbehcaaDoor.Am
/- The sums of one, two, three parts. Conditions: none. -/
namespace Go.Proofs.YtmhmfmnjdbehcaaDoor.Am
set_option linter.unusedVariables false
set_option linter.unusedSimpArgs false
open Go Go.RowKit
set_option linter.unusedSectionVars false
variable [GT] [GRnd]
theorem lf_all (a b : List Int) : (a ++ b).drop (128 * KN a) = lf a ++ b := by
  rw [lf_eq, List.drop_append_of_le_length (KN_le a)]
theorem KN_app (a b : List Int) : KN (a ++ b) = KN a + KN (lf a ++ b) := by
  have := lf_len a
  unfold KN
  simp only [List.length_append]
  omega
theorem abN_pre (s a b : List Int) : ∀ j, j ≤ KN a → abN s (a ++ b) j = abN s a j
  | 0, _ => rfl
  | j + 1, h => by
    have hle := KN_le a
    show compL (abN s (a ++ b) j) _ = compL (abN s a j) _
    rw [abN_pre s a b j (by omega), List.drop_append_of_le_length (by omega), List.take_append_of_le_length (by rw [List.length_drop]; omega)]
theorem abN_app (s a b : List Int) : ∀ k, abN s (a ++ b) (KN a + k) = abN (abA s a) (lf a ++ b) k
  | 0 => abN_pre s a b _ (Nat.le_refl _)
  | k + 1 => by
    show compL (abN s (a ++ b) (KN a + k)) (((a ++ b).drop (128 * (KN a + k))).take 128) = compL (abN (abA s a) (lf a ++ b) k) _
    rw [abN_app s a b k, Nat.mul_add, ← List.drop_drop, lf_all]
theorem abA_app (s a b : List Int) : abA (abA s a) (lf a ++ b) = abA s (a ++ b) := by
  show abN _ _ (KN (lf a ++ b)) = abN _ _ (KN (a ++ b))
  rw [KN_app a b, abN_app]
theorem lf_app (a b : List Int) : lf (lf a ++ b) = lf (a ++ b) := by
  rw [lf_eq (lf a ++ b), lf_eq (a ++ b), KN_app a b, Nat.mul_add, ← List.drop_drop, lf_all]
/-- The sum of a row, from a start. -/
def shaL (s a : List Int) : List Int := byL (g2 (abA s (a ++ tailL a.length)))
theorem shaL_len (s a : List Int) : (shaL s a).length = 64 := byL_len _
theorem sumW_eq (s a : List Int) (n : Int) (hn : n = a.length) : sumW (abA s a) (lf a) n = shaL s a := by
  subst hn
  unfold sumW shaL
  rw [Int.toNat_natCast, abA_app]
/-- A sum that goes on. -/
def hsC (s : List Int) : List Int := keyL 8 (g2 s)
noncomputable abbrev fS5 : Func := Tryd.f25
noncomputable def s512O1 : List (Nat × Ent) := [(19, entB [.mu 63 [.ag .u64 8, .sl .u8, .sg, .sg], .rs [.sl .u8]] adF), (20, entB [.rd [.ag .u64 8, .sl .u8, .sg, .sg]] suF), (17, entB [] nwF512)]
theorem s512O1_ok [G512] : OOK Tryd.prog s512O1 := ook_of (l := [(19, entB [.mu 63 [.ag .u64 8, .sl .u8, .sg, .sg], .rs [.sl .u8]] adF), (20, entB [.rd [.ag .u64 8, .sl .u8, .sg, .sg]] suF), (17, entB [] nwF512)]) ⟨add_ent _, sum_ent _, new512_ent _, trivial⟩
theorem s512_run1 (κ : Nat → Value) (cap : Nat) (p : List Int) : runF tyT s512O1 noH [] 0 [2] [2] fS5 (bA [.rs cap [.sl .u8 p]] 0 0) (bH κ [.rs cap [.sl .u8 p]] 0 0) 2 [] = some ([.fin], { tm := tmL 12 [(2, .av (.one (.p 0 0)))], hp := [(0, ⟨0, 34, [.arr .u8 (keyL 64 (g2 (sumW (keyL 8 (g2 (abA kStart512 ([] ++ (cutI p 0 p.length))))) (lf ([] ++ (cutI p 0 p.length))) ((0 : Int) + ((cutI p 0 p.length).length : Int)))))]⟩)], nx := 1, gl := [] }, [True, 0 + p.length ≤ p.length, 63 = 63 ∧ kStart512.length = 8 ∧ ([] : List Int).length + (cutI p 0 p.length).length ≤ 900000 ∧ (0 : Int) ≤ 0 ∧ (0 : Int) ≤ 1000000, 128 * KN ([] ++ (cutI p 0 p.length)) + (([] ++ (cutI p 0 p.length)).length - 128 * KN ([] ++ (cutI p 0 p.length))) ≤ ([] ++ (cutI p 0 p.length)).length, (keyL 8 (g2 (abA kStart512 ([] ++ (cutI p 0 p.length))))).length = 8 ∧ (lf ([] ++ (cutI p 0 p.length))).length ≤ 1000 ∧ 0 ≤ ((0 : Int) + ((cutI p 0 p.length).length : Int)) ∧ ((0 : Int) + ((cutI p 0 p.length).length : Int)) ≤ 1000000 ∧ ((64 : Int) = 64 ∨ (64 : Int) = 48)]) := by kernel_rfl
def s512F1 : List CB → Option BR
  | [.rs _ [.sl .u8 p]] => some { pre := p.length ≤ 900000, val := .av (.one (.arr .u8 (keyL 64 (g2 (shaL kStart512 (p)))))) }
  | _ => none
theorem s512_ends1 [G512] (cbs : List CB) (r : BR) (hF : s512F1 cbs = some r) (hp : r.pre) : EndsB Tryd.prog tyT [] fS5 cbs r := by
  unfold s512F1 at hF
  split at hF
  · rename_i cap p
    injection hF with hF
    subst hF
    have hl : p.length ≤ 900000 := hp
    intro κ
    have hrun := s512_run1 κ cap p
    have h8 : kStart512.length = 8 := rfl
    rw [keyL_g2 (abA_len h8 _)] at hrun
    simp only [cutI_all, List.nil_append, abA_app, lf_app, List.append_assoc] at hrun
    rw [sumW_eq _ _ _ (by first | omega | (simp only [List.length_append, Int.natCast_add]; omega))] at hrun
    have h := FromK.run (m0 := 0) tyT_ok s512O1_ok mixed_ hrun ?_
    · exact ⟨[.fin], _, .av (.one (.arr .u8 (keyL 64 (g2 (shaL kStart512 (p)))))), [], .inr rfl, h, by kernel_rfl, by kernel_rfl, by kernel_rfl⟩
    · have k1 := KN_le p
      have m1 := lf_len p
      have k2 := k1
      simp only [List.length_append] at *
      simp only [allP_cons, allP_nil, and_true, true_and, true_or, or_true, cutI_all, abA_len h8, h8, List.length_append, List.length_nil]
      omega
  · cases hF
theorem s512_ent1 [G512] (sh : List ShB) (hs : sh.length = 1 := by rfl) : EntOK Tryd.prog 25 (entB sh s512F1) :=
  ok_B tyT_ok Tryd.func25 (by kernel_rfl) (by kernel_rfl) [] (fun x hx => by cases hx) (by rw [hs]; kernel_rfl) s512_ends1
noncomputable def s512O2 : List (Nat × Ent) := [(19, entB [.mu 63 [.ag .u64 8, .sl .u8, .sg, .sg], .rs [.sl .u8, .sl .u8]] adF), (20, entB [.rd [.ag .u64 8, .sl .u8, .sg, .sg]] suF), (17, entB [] nwF512)]
theorem s512O2_ok [G512] : OOK Tryd.prog s512O2 := ook_of (l := [(19, entB [.mu 63 [.ag .u64 8, .sl .u8, .sg, .sg], .rs [.sl .u8, .sl .u8]] adF), (20, entB [.rd [.ag .u64 8, .sl .u8, .sg, .sg]] suF), (17, entB [] nwF512)]) ⟨add_ent _, sum_ent _, new512_ent _, trivial⟩
theorem s512_run2 (κ : Nat → Value) (cap : Nat) (p q : List Int) : runF tyT s512O2 noH [] 0 [3] [2] fS5 (bA [.rs cap [.sl .u8 p, .sl .u8 q]] 0 0) (bH κ [.rs cap [.sl .u8 p, .sl .u8 q]] 0 0) 3 [] = some ([.fin], { tm := tmL 12 [(2, .av (.one (.p 0 0)))], hp := [(0, ⟨0, 34, [.arr .u8 (keyL 64 (g2 (sumW (keyL 8 (g2 (abA (abA kStart512 ([] ++ (cutI p 0 p.length))) (lf ([] ++ (cutI p 0 p.length)) ++ (cutI q 0 q.length))))) (lf (lf ([] ++ (cutI p 0 p.length)) ++ (cutI q 0 q.length))) (((0 : Int) + ((cutI p 0 p.length).length : Int)) + ((cutI q 0 q.length).length : Int)))))]⟩)], nx := 1, gl := [] }, [True, 0 + p.length ≤ p.length, 0 + q.length ≤ q.length, 63 = 63 ∧ kStart512.length = 8 ∧ ([] : List Int).length + ((cutI p 0 p.length).length + (cutI q 0 q.length).length) ≤ 900000 ∧ (0 : Int) ≤ 0 ∧ (0 : Int) ≤ 1000000, 128 * KN (lf ([] ++ (cutI p 0 p.length)) ++ (cutI q 0 q.length)) + ((lf ([] ++ (cutI p 0 p.length)) ++ (cutI q 0 q.length)).length - 128 * KN (lf ([] ++ (cutI p 0 p.length)) ++ (cutI q 0 q.length))) ≤ (lf ([] ++ (cutI p 0 p.length)) ++ (cutI q 0 q.length)).length, (keyL 8 (g2 (abA (abA kStart512 ([] ++ (cutI p 0 p.length))) (lf ([] ++ (cutI p 0 p.length)) ++ (cutI q 0 q.length))))).length = 8 ∧ (lf (lf ([] ++ (cutI p 0 p.length)) ++ (cutI q 0 q.length))).length ≤ 1000 ∧ 0 ≤ (((0 : Int) + ((cutI p 0 p.length).length : Int)) + ((cutI q 0 q.length).length : Int)) ∧ (((0 : Int) + ((cutI p 0 p.length).length : Int)) + ((cutI q 0 q.length).length : Int)) ≤ 1000000 ∧ ((64 : Int) = 64 ∨ (64 : Int) = 48)]) := by kernel_rfl
def s512F2 : List CB → Option BR
  | [.rs _ [.sl .u8 p, .sl .u8 q]] => some { pre := p.length + q.length ≤ 900000, val := .av (.one (.arr .u8 (keyL 64 (g2 (shaL kStart512 (p ++ q)))))) }
  | _ => none
theorem s512_ends2 [G512] (cbs : List CB) (r : BR) (hF : s512F2 cbs = some r) (hp : r.pre) : EndsB Tryd.prog tyT [] fS5 cbs r := by
  unfold s512F2 at hF
  split at hF
  · rename_i cap p q
    injection hF with hF
    subst hF
    have hl : p.length + q.length ≤ 900000 := hp
    intro κ
    have hrun := s512_run2 κ cap p q
    have h8 : kStart512.length = 8 := rfl
    rw [keyL_g2 (abA_len (abA_len h8 _) _)] at hrun
    simp only [cutI_all, List.nil_append, abA_app, lf_app, List.append_assoc] at hrun
    rw [sumW_eq _ _ _ (by first | omega | (simp only [List.length_append, Int.natCast_add]; omega))] at hrun
    have h := FromK.run (m0 := 0) tyT_ok s512O2_ok mixed_ hrun ?_
    · exact ⟨[.fin], _, .av (.one (.arr .u8 (keyL 64 (g2 (shaL kStart512 (p ++ q)))))), [], .inr rfl, h, by kernel_rfl, by kernel_rfl, by kernel_rfl⟩
    · have k1 := KN_le p
      have m1 := lf_len p
      have k2 := KN_le (lf p ++ q)
      have m2 := lf_len (p ++ q)
      simp only [List.length_append] at *
      simp only [allP_cons, allP_nil, and_true, true_and, true_or, or_true, cutI_all, abA_len h8, h8, List.length_append, List.length_nil]
      omega
  · cases hF
theorem s512_ent2 [G512] (sh : List ShB) (hs : sh.length = 1 := by rfl) : EntOK Tryd.prog 25 (entB sh s512F2) :=
  ok_B tyT_ok Tryd.func25 (by kernel_rfl) (by kernel_rfl) [] (fun x hx => by cases hx) (by rw [hs]; kernel_rfl) s512_ends2
noncomputable def s512O3 : List (Nat × Ent) := [(19, entB [.mu 63 [.ag .u64 8, .sl .u8, .sg, .sg], .rs [.sl .u8, .sl .u8, .sl .u8]] adF), (20, entB [.rd [.ag .u64 8, .sl .u8, .sg, .sg]] suF), (17, entB [] nwF512)]
theorem s512O3_ok [G512] : OOK Tryd.prog s512O3 := ook_of (l := [(19, entB [.mu 63 [.ag .u64 8, .sl .u8, .sg, .sg], .rs [.sl .u8, .sl .u8, .sl .u8]] adF), (20, entB [.rd [.ag .u64 8, .sl .u8, .sg, .sg]] suF), (17, entB [] nwF512)]) ⟨add_ent _, sum_ent _, new512_ent _, trivial⟩
theorem s512_run3 (κ : Nat → Value) (cap : Nat) (p q u : List Int) : runF tyT s512O3 noH [] 0 [4] [2] fS5 (bA [.rs cap [.sl .u8 p, .sl .u8 q, .sl .u8 u]] 0 0) (bH κ [.rs cap [.sl .u8 p, .sl .u8 q, .sl .u8 u]] 0 0) 4 [] = some ([.fin], { tm := tmL 12 [(2, .av (.one (.p 0 0)))], hp := [(0, ⟨0, 34, [.arr .u8 (keyL 64 (g2 (sumW (keyL 8 (g2 (abA (abA (abA kStart512 ([] ++ (cutI p 0 p.length))) (lf ([] ++ (cutI p 0 p.length)) ++ (cutI q 0 q.length))) (lf (lf ([] ++ (cutI p 0 p.length)) ++ (cutI q 0 q.length)) ++ (cutI u 0 u.length))))) (lf (lf (lf ([] ++ (cutI p 0 p.length)) ++ (cutI q 0 q.length)) ++ (cutI u 0 u.length))) ((((0 : Int) + ((cutI p 0 p.length).length : Int)) + ((cutI q 0 q.length).length : Int)) + ((cutI u 0 u.length).length : Int)))))]⟩)], nx := 1, gl := [] }, [True, 0 + p.length ≤ p.length, 0 + q.length ≤ q.length, 0 + u.length ≤ u.length, 63 = 63 ∧ kStart512.length = 8 ∧ ([] : List Int).length + ((cutI p 0 p.length).length + (cutI q 0 q.length).length + (cutI u 0 u.length).length) ≤ 900000 ∧ (0 : Int) ≤ 0 ∧ (0 : Int) ≤ 1000000, 128 * KN (lf (lf ([] ++ (cutI p 0 p.length)) ++ (cutI q 0 q.length)) ++ (cutI u 0 u.length)) + ((lf (lf ([] ++ (cutI p 0 p.length)) ++ (cutI q 0 q.length)) ++ (cutI u 0 u.length)).length - 128 * KN (lf (lf ([] ++ (cutI p 0 p.length)) ++ (cutI q 0 q.length)) ++ (cutI u 0 u.length))) ≤ (lf (lf ([] ++ (cutI p 0 p.length)) ++ (cutI q 0 q.length)) ++ (cutI u 0 u.length)).length, (keyL 8 (g2 (abA (abA (abA kStart512 ([] ++ (cutI p 0 p.length))) (lf ([] ++ (cutI p 0 p.length)) ++ (cutI q 0 q.length))) (lf (lf ([] ++ (cutI p 0 p.length)) ++ (cutI q 0 q.length)) ++ (cutI u 0 u.length))))).length = 8 ∧ (lf (lf (lf ([] ++ (cutI p 0 p.length)) ++ (cutI q 0 q.length)) ++ (cutI u 0 u.length))).length ≤ 1000 ∧ 0 ≤ ((((0 : Int) + ((cutI p 0 p.length).length : Int)) + ((cutI q 0 q.length).length : Int)) + ((cutI u 0 u.length).length : Int)) ∧ ((((0 : Int) + ((cutI p 0 p.length).length : Int)) + ((cutI q 0 q.length).length : Int)) + ((cutI u 0 u.length).length : Int)) ≤ 1000000 ∧ ((64 : Int) = 64 ∨ (64 : Int) = 48)]) := by kernel_rfl
def s512F3 : List CB → Option BR
  | [.rs _ [.sl .u8 p, .sl .u8 q, .sl .u8 u]] => some { pre := p.length + q.length + u.length ≤ 900000, val := .av (.one (.arr .u8 (keyL 64 (g2 (shaL kStart512 (p ++ (q ++ u))))))) }
  | _ => none
theorem s512_ends3 [G512] (cbs : List CB) (r : BR) (hF : s512F3 cbs = some r) (hp : r.pre) : EndsB Tryd.prog tyT [] fS5 cbs r := by
  unfold s512F3 at hF
  split at hF
  · rename_i cap p q u
    injection hF with hF
    subst hF
    have hl : p.length + q.length + u.length ≤ 900000 := hp
    intro κ
    have hrun := s512_run3 κ cap p q u
    have h8 : kStart512.length = 8 := rfl
    rw [keyL_g2 (abA_len (abA_len (abA_len h8 _) _) _)] at hrun
    simp only [cutI_all, List.nil_append, abA_app, lf_app, List.append_assoc] at hrun
    rw [sumW_eq _ _ _ (by first | omega | (simp only [List.length_append, Int.natCast_add]; omega))] at hrun
    have h := FromK.run (m0 := 0) tyT_ok s512O3_ok mixed_ hrun ?_
    · exact ⟨[.fin], _, .av (.one (.arr .u8 (keyL 64 (g2 (shaL kStart512 (p ++ (q ++ u))))))), [], .inr rfl, h, by kernel_rfl, by kernel_rfl, by kernel_rfl⟩
    · have k1 := KN_le p
      have m1 := lf_len p
      have k2 := KN_le (lf (p ++ q) ++ u)
      have m2 := lf_len (p ++ (q ++ u))
      have m3 := lf_len (p ++ q)
      simp only [List.length_append] at *
      simp only [allP_cons, allP_nil, and_true, true_and, true_or, or_true, cutI_all, abA_len h8, h8, List.length_append, List.length_nil]
      omega
  · cases hF
theorem s512_ent3 [G512] (sh : List ShB) (hs : sh.length = 1 := by rfl) : EntOK Tryd.prog 25 (entB sh s512F3) :=
  ok_B tyT_ok Tryd.func25 (by kernel_rfl) (by kernel_rfl) [] (fun x hx => by cases hx) (by rw [hs]; kernel_rfl) s512_ends3
noncomputable abbrev fS3 : Func := Tryd.f26
noncomputable def s384O1 : List (Nat × Ent) := [(19, entB [.mu 63 [.ag .u64 8, .sl .u8, .sg, .sg], .rs [.sl .u8]] adF), (20, entB [.rd [.ag .u64 8, .sl .u8, .sg, .sg]] suF), (18, entB [] nwF384)]
theorem s384O1_ok [G384] : OOK Tryd.prog s384O1 := ook_of (l := [(19, entB [.mu 63 [.ag .u64 8, .sl .u8, .sg, .sg], .rs [.sl .u8]] adF), (20, entB [.rd [.ag .u64 8, .sl .u8, .sg, .sg]] suF), (18, entB [] nwF384)]) ⟨add_ent _, sum_ent _, new384_ent _, trivial⟩
theorem s384_run1 (κ : Nat → Value) (cap : Nat) (p : List Int) : runF tyT s384O1 noH [] 0 [2] [2] fS3 (bA [.rs cap [.sl .u8 p]] 0 0) (bH κ [.rs cap [.sl .u8 p]] 0 0) 2 [] = some ([.fin], { tm := tmL 12 [(2, .av (.one (.p 0 0)))], hp := [(0, ⟨0, 36, [.arr .u8 (keyL 48 (g2 (sumW (keyL 8 (g2 (abA kStart384 ([] ++ (cutI p 0 p.length))))) (lf ([] ++ (cutI p 0 p.length))) ((0 : Int) + ((cutI p 0 p.length).length : Int)))))]⟩)], nx := 1, gl := [] }, [True, 0 + p.length ≤ p.length, 63 = 63 ∧ kStart384.length = 8 ∧ ([] : List Int).length + (cutI p 0 p.length).length ≤ 900000 ∧ (0 : Int) ≤ 0 ∧ (0 : Int) ≤ 1000000, 128 * KN ([] ++ (cutI p 0 p.length)) + (([] ++ (cutI p 0 p.length)).length - 128 * KN ([] ++ (cutI p 0 p.length))) ≤ ([] ++ (cutI p 0 p.length)).length, (keyL 8 (g2 (abA kStart384 ([] ++ (cutI p 0 p.length))))).length = 8 ∧ (lf ([] ++ (cutI p 0 p.length))).length ≤ 1000 ∧ 0 ≤ ((0 : Int) + ((cutI p 0 p.length).length : Int)) ∧ ((0 : Int) + ((cutI p 0 p.length).length : Int)) ≤ 1000000 ∧ ((48 : Int) = 64 ∨ (48 : Int) = 48)]) := by kernel_rfl
def s384F1 : List CB → Option BR
  | [.rs _ [.sl .u8 p]] => some { pre := p.length ≤ 900000, val := .av (.one (.arr .u8 (keyL 48 (g2 (shaL kStart384 (p)))))) }
  | _ => none
theorem s384_ends1 [G384] (cbs : List CB) (r : BR) (hF : s384F1 cbs = some r) (hp : r.pre) : EndsB Tryd.prog tyT [] fS3 cbs r := by
  unfold s384F1 at hF
  split at hF
  · rename_i cap p
    injection hF with hF
    subst hF
    have hl : p.length ≤ 900000 := hp
    intro κ
    have hrun := s384_run1 κ cap p
    have h8 : kStart384.length = 8 := rfl
    rw [keyL_g2 (abA_len h8 _)] at hrun
    simp only [cutI_all, List.nil_append, abA_app, lf_app, List.append_assoc] at hrun
    rw [sumW_eq _ _ _ (by first | omega | (simp only [List.length_append, Int.natCast_add]; omega))] at hrun
    have h := FromK.run (m0 := 0) tyT_ok s384O1_ok mixed_ hrun ?_
    · exact ⟨[.fin], _, .av (.one (.arr .u8 (keyL 48 (g2 (shaL kStart384 (p)))))), [], .inr rfl, h, by kernel_rfl, by kernel_rfl, by kernel_rfl⟩
    · have k1 := KN_le p
      have m1 := lf_len p
      have k2 := k1
      simp only [List.length_append] at *
      simp only [allP_cons, allP_nil, and_true, true_and, true_or, or_true, cutI_all, abA_len h8, h8, List.length_append, List.length_nil]
      omega
  · cases hF
theorem s384_ent1 [G384] (sh : List ShB) (hs : sh.length = 1 := by rfl) : EntOK Tryd.prog 26 (entB sh s384F1) :=
  ok_B tyT_ok Tryd.func26 (by kernel_rfl) (by kernel_rfl) [] (fun x hx => by cases hx) (by rw [hs]; kernel_rfl) s384_ends1
noncomputable def s384O2 : List (Nat × Ent) := [(19, entB [.mu 63 [.ag .u64 8, .sl .u8, .sg, .sg], .rs [.sl .u8, .sl .u8]] adF), (20, entB [.rd [.ag .u64 8, .sl .u8, .sg, .sg]] suF), (18, entB [] nwF384)]
theorem s384O2_ok [G384] : OOK Tryd.prog s384O2 := ook_of (l := [(19, entB [.mu 63 [.ag .u64 8, .sl .u8, .sg, .sg], .rs [.sl .u8, .sl .u8]] adF), (20, entB [.rd [.ag .u64 8, .sl .u8, .sg, .sg]] suF), (18, entB [] nwF384)]) ⟨add_ent _, sum_ent _, new384_ent _, trivial⟩
theorem s384_run2 (κ : Nat → Value) (cap : Nat) (p q : List Int) : runF tyT s384O2 noH [] 0 [3] [2] fS3 (bA [.rs cap [.sl .u8 p, .sl .u8 q]] 0 0) (bH κ [.rs cap [.sl .u8 p, .sl .u8 q]] 0 0) 3 [] = some ([.fin], { tm := tmL 12 [(2, .av (.one (.p 0 0)))], hp := [(0, ⟨0, 36, [.arr .u8 (keyL 48 (g2 (sumW (keyL 8 (g2 (abA (abA kStart384 ([] ++ (cutI p 0 p.length))) (lf ([] ++ (cutI p 0 p.length)) ++ (cutI q 0 q.length))))) (lf (lf ([] ++ (cutI p 0 p.length)) ++ (cutI q 0 q.length))) (((0 : Int) + ((cutI p 0 p.length).length : Int)) + ((cutI q 0 q.length).length : Int)))))]⟩)], nx := 1, gl := [] }, [True, 0 + p.length ≤ p.length, 0 + q.length ≤ q.length, 63 = 63 ∧ kStart384.length = 8 ∧ ([] : List Int).length + ((cutI p 0 p.length).length + (cutI q 0 q.length).length) ≤ 900000 ∧ (0 : Int) ≤ 0 ∧ (0 : Int) ≤ 1000000, 128 * KN (lf ([] ++ (cutI p 0 p.length)) ++ (cutI q 0 q.length)) + ((lf ([] ++ (cutI p 0 p.length)) ++ (cutI q 0 q.length)).length - 128 * KN (lf ([] ++ (cutI p 0 p.length)) ++ (cutI q 0 q.length))) ≤ (lf ([] ++ (cutI p 0 p.length)) ++ (cutI q 0 q.length)).length, (keyL 8 (g2 (abA (abA kStart384 ([] ++ (cutI p 0 p.length))) (lf ([] ++ (cutI p 0 p.length)) ++ (cutI q 0 q.length))))).length = 8 ∧ (lf (lf ([] ++ (cutI p 0 p.length)) ++ (cutI q 0 q.length))).length ≤ 1000 ∧ 0 ≤ (((0 : Int) + ((cutI p 0 p.length).length : Int)) + ((cutI q 0 q.length).length : Int)) ∧ (((0 : Int) + ((cutI p 0 p.length).length : Int)) + ((cutI q 0 q.length).length : Int)) ≤ 1000000 ∧ ((48 : Int) = 64 ∨ (48 : Int) = 48)]) := by kernel_rfl
def s384F2 : List CB → Option BR
  | [.rs _ [.sl .u8 p, .sl .u8 q]] => some { pre := p.length + q.length ≤ 900000, val := .av (.one (.arr .u8 (keyL 48 (g2 (shaL kStart384 (p ++ q)))))) }
  | _ => none
theorem s384_ends2 [G384] (cbs : List CB) (r : BR) (hF : s384F2 cbs = some r) (hp : r.pre) : EndsB Tryd.prog tyT [] fS3 cbs r := by
  unfold s384F2 at hF
  split at hF
  · rename_i cap p q
    injection hF with hF
    subst hF
    have hl : p.length + q.length ≤ 900000 := hp
    intro κ
    have hrun := s384_run2 κ cap p q
    have h8 : kStart384.length = 8 := rfl
    rw [keyL_g2 (abA_len (abA_len h8 _) _)] at hrun
    simp only [cutI_all, List.nil_append, abA_app, lf_app, List.append_assoc] at hrun
    rw [sumW_eq _ _ _ (by first | omega | (simp only [List.length_append, Int.natCast_add]; omega))] at hrun
    have h := FromK.run (m0 := 0) tyT_ok s384O2_ok mixed_ hrun ?_
    · exact ⟨[.fin], _, .av (.one (.arr .u8 (keyL 48 (g2 (shaL kStart384 (p ++ q)))))), [], .inr rfl, h, by kernel_rfl, by kernel_rfl, by kernel_rfl⟩
    · have k1 := KN_le p
      have m1 := lf_len p
      have k2 := KN_le (lf p ++ q)
      have m2 := lf_len (p ++ q)
      simp only [List.length_append] at *
      simp only [allP_cons, allP_nil, and_true, true_and, true_or, or_true, cutI_all, abA_len h8, h8, List.length_append, List.length_nil]
      omega
  · cases hF
theorem s384_ent2 [G384] (sh : List ShB) (hs : sh.length = 1 := by rfl) : EntOK Tryd.prog 26 (entB sh s384F2) :=
  ok_B tyT_ok Tryd.func26 (by kernel_rfl) (by kernel_rfl) [] (fun x hx => by cases hx) (by rw [hs]; kernel_rfl) s384_ends2
noncomputable def s384O3 : List (Nat × Ent) := [(19, entB [.mu 63 [.ag .u64 8, .sl .u8, .sg, .sg], .rs [.sl .u8, .sl .u8, .sl .u8]] adF), (20, entB [.rd [.ag .u64 8, .sl .u8, .sg, .sg]] suF), (18, entB [] nwF384)]
theorem s384O3_ok [G384] : OOK Tryd.prog s384O3 := ook_of (l := [(19, entB [.mu 63 [.ag .u64 8, .sl .u8, .sg, .sg], .rs [.sl .u8, .sl .u8, .sl .u8]] adF), (20, entB [.rd [.ag .u64 8, .sl .u8, .sg, .sg]] suF), (18, entB [] nwF384)]) ⟨add_ent _, sum_ent _, new384_ent _, trivial⟩
theorem s384_run3 (κ : Nat → Value) (cap : Nat) (p q u : List Int) : runF tyT s384O3 noH [] 0 [4] [2] fS3 (bA [.rs cap [.sl .u8 p, .sl .u8 q, .sl .u8 u]] 0 0) (bH κ [.rs cap [.sl .u8 p, .sl .u8 q, .sl .u8 u]] 0 0) 4 [] = some ([.fin], { tm := tmL 12 [(2, .av (.one (.p 0 0)))], hp := [(0, ⟨0, 36, [.arr .u8 (keyL 48 (g2 (sumW (keyL 8 (g2 (abA (abA (abA kStart384 ([] ++ (cutI p 0 p.length))) (lf ([] ++ (cutI p 0 p.length)) ++ (cutI q 0 q.length))) (lf (lf ([] ++ (cutI p 0 p.length)) ++ (cutI q 0 q.length)) ++ (cutI u 0 u.length))))) (lf (lf (lf ([] ++ (cutI p 0 p.length)) ++ (cutI q 0 q.length)) ++ (cutI u 0 u.length))) ((((0 : Int) + ((cutI p 0 p.length).length : Int)) + ((cutI q 0 q.length).length : Int)) + ((cutI u 0 u.length).length : Int)))))]⟩)], nx := 1, gl := [] }, [True, 0 + p.length ≤ p.length, 0 + q.length ≤ q.length, 0 + u.length ≤ u.length, 63 = 63 ∧ kStart384.length = 8 ∧ ([] : List Int).length + ((cutI p 0 p.length).length + (cutI q 0 q.length).length + (cutI u 0 u.length).length) ≤ 900000 ∧ (0 : Int) ≤ 0 ∧ (0 : Int) ≤ 1000000, 128 * KN (lf (lf ([] ++ (cutI p 0 p.length)) ++ (cutI q 0 q.length)) ++ (cutI u 0 u.length)) + ((lf (lf ([] ++ (cutI p 0 p.length)) ++ (cutI q 0 q.length)) ++ (cutI u 0 u.length)).length - 128 * KN (lf (lf ([] ++ (cutI p 0 p.length)) ++ (cutI q 0 q.length)) ++ (cutI u 0 u.length))) ≤ (lf (lf ([] ++ (cutI p 0 p.length)) ++ (cutI q 0 q.length)) ++ (cutI u 0 u.length)).length, (keyL 8 (g2 (abA (abA (abA kStart384 ([] ++ (cutI p 0 p.length))) (lf ([] ++ (cutI p 0 p.length)) ++ (cutI q 0 q.length))) (lf (lf ([] ++ (cutI p 0 p.length)) ++ (cutI q 0 q.length)) ++ (cutI u 0 u.length))))).length = 8 ∧ (lf (lf (lf ([] ++ (cutI p 0 p.length)) ++ (cutI q 0 q.length)) ++ (cutI u 0 u.length))).length ≤ 1000 ∧ 0 ≤ ((((0 : Int) + ((cutI p 0 p.length).length : Int)) + ((cutI q 0 q.length).length : Int)) + ((cutI u 0 u.length).length : Int)) ∧ ((((0 : Int) + ((cutI p 0 p.length).length : Int)) + ((cutI q 0 q.length).length : Int)) + ((cutI u 0 u.length).length : Int)) ≤ 1000000 ∧ ((48 : Int) = 64 ∨ (48 : Int) = 48)]) := by kernel_rfl
def s384F3 : List CB → Option BR
  | [.rs _ [.sl .u8 p, .sl .u8 q, .sl .u8 u]] => some { pre := p.length + q.length + u.length ≤ 900000, val := .av (.one (.arr .u8 (keyL 48 (g2 (shaL kStart384 (p ++ (q ++ u))))))) }
  | _ => none
theorem s384_ends3 [G384] (cbs : List CB) (r : BR) (hF : s384F3 cbs = some r) (hp : r.pre) : EndsB Tryd.prog tyT [] fS3 cbs r := by
  unfold s384F3 at hF
  split at hF
  · rename_i cap p q u
    injection hF with hF
    subst hF
    have hl : p.length + q.length + u.length ≤ 900000 := hp
    intro κ
    have hrun := s384_run3 κ cap p q u
    have h8 : kStart384.length = 8 := rfl
    rw [keyL_g2 (abA_len (abA_len (abA_len h8 _) _) _)] at hrun
    simp only [cutI_all, List.nil_append, abA_app, lf_app, List.append_assoc] at hrun
    rw [sumW_eq _ _ _ (by first | omega | (simp only [List.length_append, Int.natCast_add]; omega))] at hrun
    have h := FromK.run (m0 := 0) tyT_ok s384O3_ok mixed_ hrun ?_
    · exact ⟨[.fin], _, .av (.one (.arr .u8 (keyL 48 (g2 (shaL kStart384 (p ++ (q ++ u))))))), [], .inr rfl, h, by kernel_rfl, by kernel_rfl, by kernel_rfl⟩
    · have k1 := KN_le p
      have m1 := lf_len p
      have k2 := KN_le (lf (p ++ q) ++ u)
      have m2 := lf_len (p ++ (q ++ u))
      have m3 := lf_len (p ++ q)
      simp only [List.length_append] at *
      simp only [allP_cons, allP_nil, and_true, true_and, true_or, or_true, cutI_all, abA_len h8, h8, List.length_append, List.length_nil]
      omega
  · cases hF
theorem s384_ent3 [G384] (sh : List ShB) (hs : sh.length = 1 := by rfl) : EntOK Tryd.prog 26 (entB sh s384F3) :=
  ok_B tyT_ok Tryd.func26 (by kernel_rfl) (by kernel_rfl) [] (fun x hx => by cases hx) (by rw [hs]; kernel_rfl) s384_ends3
end Go.Proofs.YtmhmfmnjdbehcaaDoor.Am
/- The document's words: Turn, down, choose, major, word. Conditions: none. -/
namespace Go.Proofs.YtmhmfmnjdbehcaaDoor.Am
set_option linter.unusedVariables false
set_option linter.unusedSimpArgs false
open Go Go.RowKit
set_option linter.unusedSectionVars false
variable [GT] [GRnd]
noncomputable abbrev fTr : Func := Tryd.f50
noncomputable abbrev fDn : Func := Tryd.f51
noncomputable abbrev fWr : Func := Tryd.f49
noncomputable abbrev fCh : Func := Tryd.f52
noncomputable abbrev fMa : Func := Tryd.f53
def trB (x : Int) (n : Nat) : List CB := [.av (.one (.v (.int .u64 x))), .av (.one (.v (.int .i64 n)))]
def trS (m : Nat) (x : Int) (n i : Nat) : St := { tm := tmL m [(0, ofV (.int .u64 x)), (1, ofV (.int .i64 n)), (5, ofV (.int .i64 (i : Nat)))], hp := [], nx := 0, gl := [] }
def trE (m : Nat) (x : Int) : St := { tm := tmL m [(4, ofV (.int .u64 x))], hp := [], nx := 0, gl := [] }
theorem tr_start (κ : Nat → Value) (x : Int) (n : Nat) : runF tyT [] noH [] 0 [] [0, 1, 5] fTr (bA (trB x n) 0 0) (bH κ (trB x n) 0 0) 0 [] = some (toAt fTr 2 [], trS 21 x n 0, []) := by kernel_rfl
theorem tr_odd (x : Int) (n i k_ : Nat) : runN tyT [] (atH 2 2 (isB true) (atH 6 1 (isB true) (atH 3 1 (isI .i64 ((i + 1 : Nat) : Int)) noH))) [] 2000 0 [] [0, 1, 5] (inAt fTr 2 [] k_) (trS 21 x n i) = some (hdAt fTr 2 [] k_, trS 21 (IntKind.wrap .u64 (IntKind.wrap .u64 (Int.tdiv x 2) + 9223372036854775808)) n (i + 1), [tB (decide ((i : Int) < n)) true, tB (Int.tmod x 2 == 1) true, tI .i64 (IntKind.wrap .i64 ((i : Int) + 1)) ((i + 1 : Nat) : Int)]) := by kernel_rfl
theorem tr_even (x : Int) (n i k_ : Nat) : runN tyT [] (atH 2 2 (isB true) (atH 6 1 (isB false) (atH 3 1 (isI .i64 ((i + 1 : Nat) : Int)) noH))) [] 2000 0 [] [0, 1, 5] (inAt fTr 2 [] k_) (trS 21 x n i) = some (hdAt fTr 2 [] k_, trS 21 (IntKind.wrap .u64 (Int.tdiv x 2)) n (i + 1), [tB (decide ((i : Int) < n)) true, tB (Int.tmod x 2 == 1) false, tI .i64 (IntKind.wrap .i64 ((i : Int) + 1)) ((i + 1 : Nat) : Int)]) := by kernel_rfl
theorem tr_end (x : Int) (n i k_ : Nat) : runN tyT [] (atH 2 2 (isB false) noH) [] 2000 0 [] [4] (inAt fTr 2 [] k_) (trS 21 x n i) = some ([.fin], trE 21 x, [tB (decide ((i : Int) < n)) false]) := by kernel_rfl
theorem tr_rounds (X n : Nat) (hX : X < 18446744073709551616) (hn : n ≤ 64) : ∀ (r i : Nat), i + r = n → Reaches Tryd.prog 0 (hdAt fTr 2 [] (r + 1)) (trS 21 (turT X i : Nat) n i) [.fin] (trE 21 (turT X n : Nat))
  | 0, i, h => by
    obtain rfl : i = n := by omega
    refine Reaches.oneK (Reaches.runK tyT_ok nil_ok mixed_ (tr_end _ _ _ 0) ?_)
    simp only [allP_cons, allP_nil, and_true, tB_nlt]
    omega
  | r + 1, i, h => by
    have ih := tr_rounds X n hX hn r (i + 1) (by omega)
    have hlt := turT_lt X i (by omega) hX
    have hs := turT_succ X i (by omega)
    have e5 := w64 (z := ((i : Nat) : Int) + 1) (by omega) (by omega)
    generalize turT X i = T at hlt hs
    have e1 : Int.tdiv (T : Int) 2 = ((T / 2 : Nat) : Int) := by
      rw [Int.tdiv_eq_ediv_of_nonneg (by omega)]
      omega
    have e2 : Int.tmod (T : Int) 2 = ((T % 2 : Nat) : Int) := by
      rw [Int.tmod_eq_emod_of_nonneg (by omega)]
      omega
    by_cases ho : T % 2 = 1
    · have hrun := tr_odd (T : Int) n i (r + 1)
      rw [e1, e2, wU (z := ((T / 2 : Nat) : Int)) (by omega) (by omega), wU (by omega) (by omega), show ((T / 2 : Nat) : Int) + 9223372036854775808 = ((turT X (i + 1) : Nat) : Int) by omega] at hrun
      refine (Reaches.oneK (Reaches.runK tyT_ok nil_ok mixed_ hrun ?_)).trans ih
      simp only [allP_cons, allP_nil, and_true, tB_lt, tB_eq, tI_iff]
      omega
    · have hrun := tr_even (T : Int) n i (r + 1)
      rw [e1, e2, wU (z := ((T / 2 : Nat) : Int)) (by omega) (by omega), show ((T / 2 : Nat) : Int) = ((turT X (i + 1) : Nat) : Int) by omega] at hrun
      refine (Reaches.oneK (Reaches.runK tyT_ok nil_ok mixed_ hrun ?_)).trans ih
      simp only [allP_cons, allP_nil, and_true, tB_lt, tB_neq, tI_iff]
      omega
def trF : List CB → Option BR
  | [.av (.one (.v (.int .u64 x))), .av (.one (.v (.int .i64 n)))] => some { pre := inU x ∧ 1 ≤ n ∧ n ≤ 63, val := .av (.one (.v (.int .u64 (rr x n.toNat)))) }
  | _ => none
theorem tr_ends (cbs : List CB) (r : BR) (hF : trF cbs = some r) (hp : r.pre) : EndsB Tryd.prog tyT [] fTr cbs r := by
  unfold trF at hF
  split at hF
  · rename_i x n
    injection hF with hF
    subst hF
    obtain ⟨⟨h0, h1⟩, h2, h3⟩ : inU x ∧ 1 ≤ n ∧ n ≤ 63 := hp
    obtain ⟨X, rfl⟩ : ∃ X : Nat, x = X := ⟨x.toNat, by omega⟩
    obtain ⟨m, rfl⟩ : ∃ m : Nat, n = m := ⟨n.toNat, by omega⟩
    intro κ
    have hr := tr_rounds X m (by omega) (by omega) m 0 (by omega)
    rw [turT_zero] at hr
    have h := (FromK.run (m0 := 0) tyT_ok nil_ok mixed_ (tr_start κ X m) trivial).trans (Reaches.roundsK (m + 1) hr)
    rw [← rr_nat X m (by omega) (by omega) (by omega)] at h
    exact ⟨[.fin], _, .av (.one (.v (.int .u64 (rr (X : Int) m)))), [], .inr rfl, h, by kernel_rfl, by kernel_rfl, by kernel_rfl⟩
  · cases hF
theorem Turn_ent (sh : List ShB) (hs : sh.length = 2 := by rfl) : EntOK Tryd.prog 50 (entB sh trF) :=
  ok_B tyT_ok Tryd.func50 (by kernel_rfl) (by kernel_rfl) [] (fun x hx => by cases hx) (by rw [hs]; kernel_rfl) tr_ends
theorem dn_start (κ : Nat → Value) (x : Int) (n : Nat) : runF tyT [] noH [] 0 [] [0, 1, 5] fDn (bA (trB x n) 0 0) (bH κ (trB x n) 0 0) 0 [] = some (toAt fDn 2 [], trS 14 x n 0, []) := by kernel_rfl
theorem dn_go (x : Int) (n i k_ : Nat) : runN tyT [] (atH 2 2 (isB true) (atH 3 1 (isI .i64 ((i + 1 : Nat) : Int)) noH)) [] 2000 0 [] [0, 1, 5] (inAt fDn 2 [] k_) (trS 14 x n i) = some (hdAt fDn 2 [] k_, trS 14 (IntKind.wrap .u64 (Int.tdiv x 2)) n (i + 1), [tB (decide ((i : Int) < n)) true, tI .i64 (IntKind.wrap .i64 ((i : Int) + 1)) ((i + 1 : Nat) : Int)]) := by kernel_rfl
theorem dn_end (x : Int) (n i k_ : Nat) : runN tyT [] (atH 2 2 (isB false) noH) [] 2000 0 [] [4] (inAt fDn 2 [] k_) (trS 14 x n i) = some ([.fin], trE 14 x, [tB (decide ((i : Int) < n)) false]) := by kernel_rfl
theorem dn_rounds (X n : Nat) (hX : X < 18446744073709551616) (hn : n ≤ 64) : ∀ (r i : Nat), i + r = n → Reaches Tryd.prog 0 (hdAt fDn 2 [] (r + 1)) (trS 14 (X / 2 ^ i : Nat) n i) [.fin] (trE 14 (X / 2 ^ n : Nat))
  | 0, i, h => by
    obtain rfl : i = n := by omega
    refine Reaches.oneK (Reaches.runK tyT_ok nil_ok mixed_ (dn_end _ _ _ 0) ?_)
    simp only [allP_cons, allP_nil, and_true, tB_nlt]
    omega
  | r + 1, i, h => by
    have ih := dn_rounds X n hX hn r (i + 1) (by omega)
    have hle := Nat.div_le_self X (2 ^ i)
    have e5 := w64 (z := ((i : Nat) : Int) + 1) (by omega) (by omega)
    rw [Nat.pow_succ, ← Nat.div_div_eq_div_mul] at ih
    generalize X / 2 ^ i = T at hle ih
    have e1 : Int.tdiv (T : Int) 2 = ((T / 2 : Nat) : Int) := by
      rw [Int.tdiv_eq_ediv_of_nonneg (by omega)]
      omega
    have hrun := dn_go (T : Int) n i (r + 1)
    rw [e1, wU (z := ((T / 2 : Nat) : Int)) (by omega) (by omega)] at hrun
    refine (Reaches.oneK (Reaches.runK tyT_ok nil_ok mixed_ hrun ?_)).trans ih
    simp only [allP_cons, allP_nil, and_true, tB_lt, tI_iff]
    omega
def dnF : List CB → Option BR
  | [.av (.one (.v (.int .u64 x))), .av (.one (.v (.int .i64 n)))] => some { pre := inU x ∧ 0 ≤ n ∧ n ≤ 63, val := .av (.one (.v (.int .u64 (ishr .u64 x n.toNat)))) }
  | _ => none
theorem dn_ends (cbs : List CB) (r : BR) (hF : dnF cbs = some r) (hp : r.pre) : EndsB Tryd.prog tyT [] fDn cbs r := by
  unfold dnF at hF
  split at hF
  · rename_i x n
    injection hF with hF
    subst hF
    obtain ⟨⟨h0, h1⟩, h2, h3⟩ : inU x ∧ 0 ≤ n ∧ n ≤ 63 := hp
    obtain ⟨X, rfl⟩ : ∃ X : Nat, x = X := ⟨x.toNat, by omega⟩
    obtain ⟨m, rfl⟩ : ∃ m : Nat, n = m := ⟨n.toNat, by omega⟩
    intro κ
    have hr := dn_rounds X m (by omega) (by omega) m 0 (by omega)
    rw [Nat.pow_zero, Nat.div_one] at hr
    have h := (FromK.run (m0 := 0) tyT_ok nil_ok mixed_ (dn_start κ X m) trivial).trans (Reaches.roundsK (m + 1) hr)
    rw [← ishr_nat X m (by omega)] at h
    exact ⟨[.fin], _, .av (.one (.v (.int .u64 (ishr .u64 (X : Int) m)))), [], .inr rfl, h, by kernel_rfl, by kernel_rfl, by kernel_rfl⟩
  · cases hF
theorem down_ent (sh : List ShB) (hs : sh.length = 2 := by rfl) : EntOK Tryd.prog 51 (entB sh dnF) :=
  ok_B tyT_ok Tryd.func51 (by kernel_rfl) (by kernel_rfl) [] (fun x hx => by cases hx) (by rw [hs]; kernel_rfl) dn_ends
def cmB (a b c : Int) : List CB := [.av (.one (.v (.int .u64 a))), .av (.one (.v (.int .u64 b))), .av (.one (.v (.int .u64 c)))]
theorem ch_run (κ : Nat → Value) (a b c : Int) : runF tyT [] noH [] 0 [] [6] fCh (bA (cmB a b c) 0 0) (bH κ (cmB a b c) 0 0) 0 [] = some ([.fin], { tm := tmL 15 [(6, ofV (.int .u64 (ior .u64 (iand .u64 a b) (iand .u64 c (IntKind.wrap .u64 (18446744073709551615 - a))))))], hp := [], nx := 0, gl := [] }, []) := by kernel_rfl
theorem ma_run (κ : Nat → Value) (a b c : Int) : runF tyT [] noH [] 0 [] [6] fMa (bA (cmB a b c) 0 0) (bH κ (cmB a b c) 0 0) 0 [] = some ([.fin], { tm := tmL 18 [(6, ofV (.int .u64 (ior .u64 (ior .u64 (iand .u64 a b) (iand .u64 a c)) (iand .u64 b c))))], hp := [], nx := 0, gl := [] }, []) := by kernel_rfl
def chF : List CB → Option BR
  | [.av (.one (.v (.int .u64 a))), .av (.one (.v (.int .u64 b))), .av (.one (.v (.int .u64 c)))] => some { val := .av (.one (.v (.int .u64 (chE a b c)))) }
  | _ => none
theorem ch_ends (cbs : List CB) (r : BR) (hF : chF cbs = some r) (hp : r.pre) : EndsB Tryd.prog tyT [] fCh cbs r := by
  unfold chF at hF
  split at hF
  · rename_i a b c
    injection hF with hF
    subst hF
    intro κ
    have h := FromK.run (m0 := 0) tyT_ok nil_ok mixed_ (ch_run κ a b c) trivial
    rw [choose_eq] at h
    exact ⟨[.fin], _, .av (.one (.v (.int .u64 (chE a b c)))), [], .inr rfl, h, by kernel_rfl, by kernel_rfl, by kernel_rfl⟩
  · cases hF
theorem choose_ent (sh : List ShB) (hs : sh.length = 3 := by rfl) : EntOK Tryd.prog 52 (entB sh chF) :=
  ok_B tyT_ok Tryd.func52 (by kernel_rfl) (by kernel_rfl) [] (fun x hx => by cases hx) (by rw [hs]; kernel_rfl) ch_ends
def maF : List CB → Option BR
  | [.av (.one (.v (.int .u64 a))), .av (.one (.v (.int .u64 b))), .av (.one (.v (.int .u64 c)))] => some { val := .av (.one (.v (.int .u64 (mjE a b c)))) }
  | _ => none
theorem ma_ends (cbs : List CB) (r : BR) (hF : maF cbs = some r) (hp : r.pre) : EndsB Tryd.prog tyT [] fMa cbs r := by
  unfold maF at hF
  split at hF
  · rename_i a b c
    injection hF with hF
    subst hF
    intro κ
    have h := FromK.run (m0 := 0) tyT_ok nil_ok mixed_ (ma_run κ a b c) trivial
    rw [major_eq] at h
    exact ⟨[.fin], _, .av (.one (.v (.int .u64 (mjE a b c)))), [], .inr rfl, h, by kernel_rfl, by kernel_rfl, by kernel_rfl⟩
  · cases hF
theorem major_ent (sh : List ShB) (hs : sh.length = 3 := by rfl) : EntOK Tryd.prog 53 (entB sh maF) :=
  ok_B tyT_ok Tryd.func53 (by kernel_rfl) (by kernel_rfl) [] (fun x hx => by cases hx) (by rw [hs]; kernel_rfl) ma_ends
def wrB (bf : Nat → Int) : List CB := [.sl .u8 (keyL 8 bf)]
theorem wr_run (κ : Nat → Value) (bf : Nat → Int) : runF tyT [] noH [(3, 10)] 0 [] [2] fWr (bA (wrB bf) 0 0) (bH κ (wrB bf) 0 0) 1 [] = some ([.fin], { tm := tmL 18 [(2, ofV (.int .u64 (IntKind.wrap .u64 (IntKind.wrap .u64 ((IntKind.wrap .u64 (IntKind.wrap .u64 ((IntKind.wrap .u64 (IntKind.wrap .u64 ((IntKind.wrap .u64 (IntKind.wrap .u64 ((IntKind.wrap .u64 (IntKind.wrap .u64 ((IntKind.wrap .u64 (IntKind.wrap .u64 ((IntKind.wrap .u64 (IntKind.wrap .u64 ((IntKind.wrap .u64 (0 + IntKind.wrap .u64 (bf 0))) * 256) + IntKind.wrap .u64 (bf 1))) * 256) + IntKind.wrap .u64 (bf 2))) * 256) + IntKind.wrap .u64 (bf 3))) * 256) + IntKind.wrap .u64 (bf 4))) * 256) + IntKind.wrap .u64 (bf 5))) * 256) + IntKind.wrap .u64 (bf 6))) * 256) + IntKind.wrap .u64 (bf 7)))))], hp := [], nx := 0, gl := [] }, []) := by kernel_rfl
theorem wB1_int {z b : Int} (hz : inU z) (hb0 : 0 ≤ b) (hb : b < 256) : IntKind.wrap .u64 (IntKind.wrap .u64 (z * 256) + IntKind.wrap .u64 b) = wB1 z b := by
  obtain ⟨z0, z1⟩ := hz
  obtain ⟨Z, rfl⟩ : ∃ Z : Nat, z = Z := ⟨z.toNat, by omega⟩
  obtain ⟨B, rfl⟩ : ∃ B : Nat, b = B := ⟨b.toNat, by omega⟩
  rw [wB1_nat Z B (by omega), wU_def, wU_def, wU_def, wU_def]
  omega
theorem wB1_in (z b : Int) : inU (wB1 z b) := ior_in _ _
theorem wr_val (bf : Nat → Int) (hb : ∀ i, i < 8 → 0 ≤ bf i ∧ bf i < 256) : IntKind.wrap .u64 (IntKind.wrap .u64 ((IntKind.wrap .u64 (IntKind.wrap .u64 ((IntKind.wrap .u64 (IntKind.wrap .u64 ((IntKind.wrap .u64 (IntKind.wrap .u64 ((IntKind.wrap .u64 (IntKind.wrap .u64 ((IntKind.wrap .u64 (IntKind.wrap .u64 ((IntKind.wrap .u64 (IntKind.wrap .u64 ((IntKind.wrap .u64 (0 + IntKind.wrap .u64 (bf 0))) * 256) + IntKind.wrap .u64 (bf 1))) * 256) + IntKind.wrap .u64 (bf 2))) * 256) + IntKind.wrap .u64 (bf 3))) * 256) + IntKind.wrap .u64 (bf 4))) * 256) + IntKind.wrap .u64 (bf 5))) * 256) + IntKind.wrap .u64 (bf 6))) * 256) + IntKind.wrap .u64 (bf 7)) = wB8 bf 0 0 := by
  have e0 : IntKind.wrap .u64 (0 + IntKind.wrap .u64 (bf 0)) = wB1 0 (bf 0) := by
    rw [← wB1_int ⟨by decide, by decide⟩ (hb 0 (by omega)).1 (hb 0 (by omega)).2]
    rfl
  rw [e0, wB1_int (wB1_in _ _) (hb 1 (by omega)).1 (hb 1 (by omega)).2, wB1_int (wB1_in _ _) (hb 2 (by omega)).1 (hb 2 (by omega)).2, wB1_int (wB1_in _ _) (hb 3 (by omega)).1 (hb 3 (by omega)).2, wB1_int (wB1_in _ _) (hb 4 (by omega)).1 (hb 4 (by omega)).2, wB1_int (wB1_in _ _) (hb 5 (by omega)).1 (hb 5 (by omega)).2, wB1_int (wB1_in _ _) (hb 6 (by omega)).1 (hb 6 (by omega)).2, wB1_int (wB1_in _ _) (hb 7 (by omega)).1 (hb 7 (by omega)).2]
  rfl
def wrF : List CB → Option BR
  | [.sl .u8 b] => some { pre := b.length = 8 ∧ ∀ z ∈ b, 0 ≤ z ∧ z < 256, val := .av (.one (.v (.int .u64 (wB8 (g2 b) 0 0)))) }
  | _ => none
theorem g2_in {b : List Int} (hb : ∀ z ∈ b, 0 ≤ z ∧ z < 256) (i : Nat) : 0 ≤ g2 b i ∧ g2 b i < 256 := by
  unfold g2
  rw [List.getD_eq_getElem?_getD]
  rcases h : b[i]? with _ | z
  · exact ⟨by decide, by decide⟩
  · exact hb z (List.mem_of_getElem? h)
theorem wr_ends (cbs : List CB) (r : BR) (hF : wrF cbs = some r) (hp : r.pre) : EndsB Tryd.prog tyT [] fWr cbs r := by
  unfold wrF at hF
  split at hF
  · rename_i b
    injection hF with hF
    subst hF
    obtain ⟨hl, hb⟩ : b.length = 8 ∧ ∀ z ∈ b, 0 ≤ z ∧ z < 256 := hp
    intro κ
    have h := FromK.run (m0 := 0) tyT_ok nil_ok mixed_ (wr_run κ (g2 b)) trivial
    unfold wrB at h
    rw [keyL_g2 hl, wr_val (g2 b) (fun i _ => g2_in hb i)] at h
    exact ⟨[.fin], _, .av (.one (.v (.int .u64 (wB8 (g2 b) 0 0)))), [], .inr rfl, h, by kernel_rfl, by kernel_rfl, by kernel_rfl⟩
  · cases hF
theorem word_ent (sh : List ShB) (hs : sh.length = 1 := by rfl) : EntOK Tryd.prog 49 (entB sh wrF) :=
  ok_B tyT_ok Tryd.func49 (by kernel_rfl) (by kernel_rfl) [] (fun x hx => by cases hx) (by rw [hs]; kernel_rfl) wr_ends
end Go.Proofs.YtmhmfmnjdbehcaaDoor.Am
/- The document's filling up. Conditions: none. -/
namespace Go.Proofs.YtmhmfmnjdbehcaaDoor.Am
set_option linter.unusedVariables false
set_option linter.unusedSimpArgs false
open Go Go.RowKit
set_option linter.unusedSectionVars false
variable [GT] [GRnd]
noncomputable abbrev fFi : Func := Tryd.f48
def fiS (b o : List Int) (L : Nat) : St := { tm := tmL 37 [(0, .av (.one (.r 0 0 b.length 0))), (3, .av (.one (.r 1 0 L 0)))], hp := [(0, ⟨2, 0, [.arr .u8 b]⟩), (1, ⟨1, 5, [.arr .u8 o]⟩)], nx := 2, gl := [] }
def fq (n : Nat) : Nat → Int
  | 0 => (n : Int) * 8
  | i + 1 => IntKind.wrap .i64 (Int.tdiv (fq n i) 256)
def fqB (n i : Nat) : Int := IntKind.wrap .u8 (Int.tmod (fq n i) 256)
def fiE (o : List Int) (L : Nat) (c : List Seg) : St := { tm := tmL 37 [(2, .av (.one (.r 0 0 L 0)))], hp := [(0, ⟨1, 5, .arr .u8 o :: c⟩)], nx := 1, gl := [] }
theorem fi_start (κ : Nat → Value) (b : List Int) : runF tyT [] (atH 1 2 symH (atH 1 4 symH noH)) [] 0 [0, 4] [0, 3] fFi (bA [.sl .u8 b] 0 0) (bH κ [.sl .u8 b] 0 0) 1 [] = some (toAt fFi 2 [], fiS b (b.take b.length ++ [128]) (widths [Seg.arr .u8 (b.take b.length)] + 1), [0 = widths [] ∧ 0 = widths [], 0 + b.length ≤ widths [Seg.arr .u8 b], (0 + b.length) * 2 ≤ 140737488355328, 0 + b.length = widths [Seg.arr .u8 (b.take b.length)], 1 ≤ 1, (widths [Seg.arr .u8 (b.take b.length)] + 1) * 2 ≤ 140737488355328]) := by kernel_rfl
theorem fi_go (b o : List Int) (L k_ : Nat) : runN tyT [] (atH 2 3 (isB true) (atH 3 2 symH noH)) [] 2000 0 [0, 3] [0, 3] (inAt fFi 2 [] k_) (fiS b o L) = some (hdAt fFi 2 [] k_, fiS b (o ++ [0]) (widths [Seg.arr .u8 o] + 1), [tB (Int.tmod (L : Int) 128 != 112) true, L = widths [Seg.arr .u8 o], 1 ≤ 1, (widths [Seg.arr .u8 o] + 1) * 2 ≤ 140737488355328]) := by kernel_rfl
theorem fi_end (b o : List Int) (L k_ : Nat) : runN tyT [] (atH 2 3 (isB false) (atH 4 2 (isI .i64 ((b.length : Int) * 8)) (atH 11 2 symH noH))) [(7, 17)] 2000 0 [33] [2] (inAt fFi 2 [] k_) (fiS b o L) = some ([.fin], fiE o (widths [Seg.arr .u8 o] + 16) [.v (.int .u8 (fqB b.length 15)), .v (.int .u8 (fqB b.length 14)), .v (.int .u8 (fqB b.length 13)), .v (.int .u8 (fqB b.length 12)), .v (.int .u8 (fqB b.length 11)), .v (.int .u8 (fqB b.length 10)), .v (.int .u8 (fqB b.length 9)), .v (.int .u8 (fqB b.length 8)), .v (.int .u8 (fqB b.length 7)), .v (.int .u8 (fqB b.length 6)), .v (.int .u8 (fqB b.length 5)), .v (.int .u8 (fqB b.length 4)), .v (.int .u8 (fqB b.length 3)), .v (.int .u8 (fqB b.length 2)), .v (.int .u8 (fqB b.length 1)), .v (.int .u8 (fqB b.length 0))], [tB (Int.tmod (L : Int) 128 != 112) false, tI .i64 (IntKind.wrap .i64 ((b.length : Int) * 8)) ((b.length : Int) * 8), L = widths [Seg.arr .u8 o], 16 ≤ 16, (widths [Seg.arr .u8 o] + 16) * 2 ≤ 140737488355328]) := by kernel_rfl
theorem wB_def (z : Int) : IntKind.wrap .u8 z = z % 256 := by
  simp [IntKind.wrap, IntKind.signed, IntKind.bits]
theorem fq_zero (n : Nat) (h : fq n 3 = 0) : ∀ i, fq n (i + 3) = 0
  | 0 => h
  | i + 1 => by
    show IntKind.wrap .i64 (Int.tdiv (fq n (i + 3)) 256) = 0
    rw [fq_zero n h i]
    decide
theorem fil_eq (n : Nat) (h : n ≤ 1000000) : [fqB n 15, fqB n 14, fqB n 13, fqB n 12, fqB n 11, fqB n 10, fqB n 9, fqB n 8, fqB n 7, fqB n 6, fqB n 5, fqB n 4, fqB n 3, fqB n 2, fqB n 1, fqB n 0] = tlZ n := by
  have q0 : fq n 0 = ((8 * n : Nat) : Int) := by show (n : Int) * 8 = _; omega
  have q1 : fq n 1 = ((8 * n / 256 : Nat) : Int) := by
    show IntKind.wrap .i64 (Int.tdiv (fq n 0) 256) = _
    rw [q0, Int.tdiv_eq_ediv_of_nonneg (by omega), w64 (by omega) (by omega)]
    omega
  have q2 : fq n 2 = ((8 * n / 65536 : Nat) : Int) := by
    show IntKind.wrap .i64 (Int.tdiv (fq n 1) 256) = _
    rw [q1, Int.tdiv_eq_ediv_of_nonneg (by omega), w64 (by omega) (by omega)]
    omega
  have q3 : fq n 3 = 0 := by
    show IntKind.wrap .i64 (Int.tdiv (fq n 2) 256) = _
    rw [q2, Int.tdiv_eq_ediv_of_nonneg (by omega), w64 (by omega) (by omega)]
    omega
  have b0 : fqB n 0 = ((8 * n % 256 : Nat) : Int) := by
    unfold fqB
    rw [q0, Int.tmod_eq_emod_of_nonneg (by omega), wB_def]
    omega
  have b1 : fqB n 1 = ((8 * n / 256 % 256 : Nat) : Int) := by
    unfold fqB
    rw [q1, Int.tmod_eq_emod_of_nonneg (by omega), wB_def]
    omega
  have b2 : fqB n 2 = ((8 * n / 65536 % 256 : Nat) : Int) := by
    unfold fqB
    rw [q2, Int.tmod_eq_emod_of_nonneg (by omega), wB_def]
    omega
  have bz : ∀ i, fqB n (i + 3) = 0 := fun i => by
    unfold fqB
    rw [fq_zero n q3 i]
    decide
  have hs : ishl .u64 (IntKind.wrap .u64 (n : Int)) 3 = ((8 * n : Nat) : Int) := by
    show IntKind.wrap .u64 (IntKind.wrap .u64 (n : Int) * 8) = _
    rw [wU (z := (n : Int)) (by omega) (by omega), wU (z := (n : Int) * 8) (by omega) (by omega)]
    omega
  have hz : ∀ j, 24 ≤ j → j ≤ 64 → IntKind.wrap .u8 (ishr .u64 ((8 * n : Nat) : Int) j) = 0 := fun j h1 h2 => by
    rw [ishr_nat _ _ h2, Nat.div_eq_of_lt (Nat.lt_of_lt_of_le (by omega : 8 * n < 2 ^ 24) (Nat.pow_le_pow_right (by omega) h1))]
    decide
  have hn : IntKind.wrap .u8 (ishr .u64 (IntKind.wrap .u64 (n : Int)) 61) = 0 := by
    rw [wU (by omega) (by omega), ishr_nat n 61 (by omega), Nat.div_eq_of_lt (by omega)]
    decide
  unfold tlZ
  rw [hs, hn, hz 24 (by omega) (by omega), hz 32 (by omega) (by omega), hz 40 (by omega) (by omega), hz 48 (by omega) (by omega), hz 56 (by omega) (by omega), ishr_nat _ 0 (by omega), ishr_nat _ 8 (by omega), ishr_nat _ 16 (by omega), wB_def, wB_def, wB_def, b0, b1, b2]
  rw [bz 0, bz 1, bz 2, bz 3, bz 4, bz 5, bz 6, bz 7, bz 8, bz 9, bz 10, bz 11, bz 12]
  have c0 : ((8 * n % 256 : Nat) : Int) = ((8 * n / 2 ^ 0 : Nat) : Int) % 256 := by omega
  have c1 : ((8 * n / 256 % 256 : Nat) : Int) = ((8 * n / 2 ^ 8 : Nat) : Int) % 256 := by omega
  have c2 : ((8 * n / 65536 % 256 : Nat) : Int) = ((8 * n / 2 ^ 16 : Nat) : Int) % 256 := by omega
  rw [c0, c1, c2]
/-- A row, filled up. -/
def filL (b : List Int) : List Int := b ++ tailL b.length
theorem fi_mod (L : Nat) : Int.tmod (L : Int) 128 = ((L % 128 : Nat) : Int) := by
  rw [Int.tmod_eq_emod_of_nonneg (by omega)]
  omega
theorem fi_rounds (b : List Int) (h : b.length ≤ 1000000) : ∀ (j k : Nat), k + j = padN b.length → Reaches Tryd.prog 0 (hdAt fFi 2 [] (j + 1)) (fiS b (b ++ tlO k) (b.length + (k + 1))) [.fin] (fiE (filL b) (filL b).length [])
  | 0, k, e => by
    obtain rfl : k = padN b.length := by omega
    have hp := padN_le b.length
    have hrun := fi_end b (b ++ tlO (padN b.length)) (b.length + (padN b.length + 1)) 0
    refine (Reaches.oneK (Reaches.runK tyT_ok nil_ok mixed_ hrun ?_)).trans ?_
    · simp only [allP_cons, allP_nil, and_true, true_and, tB_nne, tI_iff, widths_o, List.length_append, tlO_len, fi_mod]
      rw [w64 (by omega) (by omega)]
      unfold padN at *
      omega
    · rw [widths_o, List.length_append, tlO_len]
      have e1 : (filL b).length = b.length + (padN b.length + 1) + 16 := by
        unfold filL tailL
        simp only [List.length_append, tlO_len, tlZ_len]
        omega
      rw [← e1]
      refine Reaches.retell (m0 := 0) (todo := [.fin]) 0 [.arr .u8 (filL b)] (fun ρ => ?_)
      unfold filL tailL
      rw [← fil_eq b.length h]
      simp [fiE, cOf, look, segsVals, Seg.vals, Seg.conc]
  | j + 1, k, e => by
    have hp := padN_le b.length
    have ih := fi_rounds b h j (k + 1) (by omega)
    have hrun := fi_go b (b ++ tlO k) (b.length + (k + 1)) (j + 1)
    rw [List.append_assoc, tlO_succ, widths_o, List.length_append, tlO_len] at hrun
    refine (Reaches.oneK (Reaches.runK tyT_ok nil_ok mixed_ hrun ?_)).trans ih
    simp only [allP_cons, allP_nil, and_true, true_and, tB_ne, fi_mod]
    unfold padN at *
    omega
def fiF : List CB → Option BR
  | [.sl .u8 b] => some { pre := b.length ≤ 1000000, val := .av (.one (.r 0 0 (filL b).length 0)), new := [⟨1, 5, [.arr .u8 (filL b)]⟩] }
  | _ => none
theorem fi_ends (cbs : List CB) (r : BR) (hF : fiF cbs = some r) (hp : r.pre) : EndsB Tryd.prog tyT [] fFi cbs r := by
  unfold fiF at hF
  split at hF
  · rename_i b
    injection hF with hF
    subst hF
    have hl : b.length ≤ 1000000 := hp
    intro κ
    have hst := fi_start κ b
    rw [List.take_length, widths_o] at hst
    have h := (FromK.run (m0 := 0) tyT_ok nil_ok mixed_ hst ?_).trans (Reaches.roundsK (padN b.length + 1) (fi_rounds b hl (padN b.length) 0 (by omega)))
    · exact ⟨[.fin], _, .av (.one (.r 0 0 (filL b).length 0)), [0], .inr rfl, h, by kernel_rfl, by kernel_rfl, by kernel_rfl⟩
    · simp only [allP_cons, allP_nil, and_true, true_and, widths_o, widths]
      omega
  · cases hF
theorem Filled_ent (sh : List ShB) (hs : sh.length = 1 := by rfl) : EntOK Tryd.prog 48 (entB sh fiF) :=
  ok_B tyT_ok Tryd.func48 (by kernel_rfl) (by kernel_rfl) [] (fun x hx => by cases hx) (by rw [hs]; kernel_rfl) fi_ends
end Go.Proofs.YtmhmfmnjdbehcaaDoor.Am
/- The document's Sum: the walk. Conditions: none. -/
namespace Go.Proofs.YtmhmfmnjdbehcaaDoor.Am
set_option linter.unusedVariables false
set_option linter.unusedSimpArgs false
open Go Go.RowKit
set_option linter.unusedSectionVars false
variable [GT] [GRnd]
noncomputable abbrev fRs : Func := Tryd.f40
noncomputable def rsO : List (Nat × Ent) := [(48, entB [.sl .u8] fiF), (49, entB [.sl .u8] wrF), (50, entB [.av, .av] trF), (51, entB [.av, .av] dnF), (52, entB [.av, .av, .av] chF), (53, entB [.av, .av, .av] maF)]
theorem rsO_ok : OOK Tryd.prog rsO := ook_of (l := [(48, entB [.sl .u8] fiF), (49, entB [.sl .u8] wrF), (50, entB [.av, .av] trF), (51, entB [.av, .av] dnF), (52, entB [.av, .av, .av] chF), (53, entB [.av, .av, .av] maF)]) ⟨Filled_ent _, word_ent _, Turn_ent _, down_ent _, choose_ent _, major_ent _, trivial⟩
def gsK : List GV := [(2, .u64, kRounds)]
def rsB (b : List Int) (sf : Nat → Int) (n : Int) : List CB := [.sl .u8 b, .ag .u64 (keyL 8 sf), .av (.one (.v (.int .i64 n)))]
def rsH (b : List Int) : List (Nat × Blk) := [(0, ⟨2, 0, [.arr .u8 b]⟩), (1, ⟨2, 0, [.arr .u64 kRounds]⟩)]
def rsS (b F : List Int) (sf : Nat → Int) (n : Int) (j : Nat) : St := { tm := tmL 195 [(2, ofV (.int .i64 n)), (7, .av (.one (.r 2 0 F.length 0))), (8, .av (.one (.p 3 0))), (9, ofV (.int .i64 ((128 * j : Nat) : Int)))], hp := rsH b ++ [(2, ⟨1, 5, [.arr .u8 F]⟩), (3, ⟨0, 60, [.arr .u64 (keyL 8 sf)]⟩)], nx := 4, gl := [(2, 1)] }
def rsV (b F : List Int) (sf : Nat → Int) (w : List Int) (n : Int) (j t : Nat) : St := { tm := tmL 195 [(2, ofV (.int .i64 n)), (7, .av (.one (.r 2 0 F.length 0))), (8, .av (.one (.p 3 0))), (9, ofV (.int .i64 ((128 * j : Nat) : Int))), (10, .av (.one (.p 4 0))), (11, ofV (.int .i64 (t : Nat)))], hp := rsH b ++ [(2, ⟨1, 5, [.arr .u8 F]⟩), (3, ⟨0, 60, [.arr .u64 (keyL 8 sf)]⟩), (4, ⟨0, 74, [.arr .u64 w]⟩)], nx := 5, gl := [(2, 1)] }
def rsR (b F : List Int) (sf wf : Nat → Int) (vc : List Seg) (n : Int) (j t : Nat) : St := { tm := tmL 195 [(2, ofV (.int .i64 n)), (7, .av (.one (.r 2 0 F.length 0))), (8, .av (.one (.p 3 0))), (9, ofV (.int .i64 ((128 * j : Nat) : Int))), (10, .av (.one (.p 4 0))), (14, .av (.one (.p 5 0))), (15, ofV (.int .i64 (t : Nat)))], hp := rsH b ++ [(2, ⟨1, 5, [.arr .u8 F]⟩), (3, ⟨0, 60, [.arr .u64 (keyL 8 sf)]⟩), (4, ⟨0, 74, [.arr .u64 (keyL 80 wf)]⟩), (5, ⟨0, 60, vc⟩)], nx := 6, gl := [(2, 1)] }
def rsP (b : List Int) (sf : Nat → Int) (n : Int) : St := { tm := tmL 195 [(2, ofV (.int .i64 n)), (8, .av (.one (.p 2 0))), (19, ofV (Value.slice none 0 0)), (20, ofV (.int .i64 0))], hp := rsH b ++ [(2, ⟨0, 60, [.arr .u64 (keyL 8 sf)]⟩)], nx := 3, gl := [(2, 1)] }
def rsQ (b o : List Int) (L : Nat) (sf : Nat → Int) (n : Int) (i : Nat) : St := { tm := tmL 195 [(2, ofV (.int .i64 n)), (8, .av (.one (.p 2 0))), (19, .av (.one (.r 3 0 L 0))), (20, ofV (.int .i64 (i : Nat)))], hp := rsH b ++ [(2, ⟨0, 60, [.arr .u64 (keyL 8 sf)]⟩), (3, ⟨1, 5, [.arr .u8 o]⟩)], nx := 4, gl := [(2, 1)] }
def rsE (b o : List Int) (L : Nat) : St := { tm := tmL 195 [(6, .av (.one (.r 2 0 L 0)))], hp := rsH b ++ [(2, ⟨1, 5, [.arr .u8 o]⟩)], nx := 3, gl := [(2, 1)] }
theorem rs_start (κ : Nat → Value) (b : List Int) (sf : Nat → Int) (n : Int) : runF tyT rsO noH [] 2 [3, 4] [2, 7, 8, 9] fRs (bA (rsB b sf n) 0 0) (bH κ (rsB b sf n) 0 0 ++ gH gsK 1) 2 (gL gsK 1) = some (toAt fRs 4 [], rsS b (filL (cutI b 0 b.length)) sf n 0, [0 + b.length ≤ b.length, (cutI b 0 b.length).length ≤ 1000000]) := by kernel_rfl
theorem rs_in (b F : List Int) (sf : Nat → Int) (n : Int) (j k_ : Nat) : runN tyT rsO (atH 4 3 (isB true) noH) [] 2000 2 [2, 3, 4] [2, 7, 8, 9, 10, 11] (inAt fRs 4 [] k_) (rsS b F sf n j) = some (toAt fRs 8 [k_], rsV b F sf (keyL 80 fun _ => 0) n j 0, [tB (decide (((128 * j : Nat) : Int) < F.length)) true]) := by kernel_rfl
theorem rs_lo (b F : List Int) (sf : Nat → Int) (w : List Int) (n : Int) (j t j_ k_ : Nat) : runN tyT rsO (atH 8 1 (isB true) (atH 10 1 (isB true) (atH 11 4 (isI .i64 ((8 * t : Nat) : Int)) (atH 11 5 (isI .i64 ((128 * j + 8 * t : Nat) : Int)) (atH 11 8 (isI .i64 ((8 * t : Nat) : Int)) (atH 11 9 (isI .i64 ((128 * j + 8 * t : Nat) : Int)) (atH 11 10 (isI .i64 ((128 * j + 8 * t + 8 : Nat) : Int)) (atH 11 11 symH (atH 11 13 symH (atH 11 14 symH (atH 9 1 (isI .i64 ((t + 1 : Nat) : Int)) noH))))))))))) [] 2000 2 [2, 3, 4] [2, 7, 8, 9, 10, 11] (inAt fRs 8 [j_] k_) (rsV b F sf w n j t) = some (hdAt fRs 8 [j_] k_, rsV b F sf (w.set t (wB8 (g2 (cutI F (128 * j + 8 * t) (128 * j + 8 * t + 8 - (128 * j + 8 * t)))) 0 0)) n j (t + 1), [tB (decide ((t : Int) < 80)) true, tB (decide ((t : Int) < 16)) true, tI .i64 (IntKind.wrap .i64 (8 * (t : Int))) ((8 * t : Nat) : Int), tI .i64 (IntKind.wrap .i64 (((128 * j : Nat) : Int) + ((8 * t : Nat) : Int))) ((128 * j + 8 * t : Nat) : Int), tI .i64 (IntKind.wrap .i64 (8 * (t : Int))) ((8 * t : Nat) : Int), tI .i64 (IntKind.wrap .i64 (((128 * j : Nat) : Int) + ((8 * t : Nat) : Int))) ((128 * j + 8 * t : Nat) : Int), tI .i64 (IntKind.wrap .i64 (((128 * j + 8 * t : Nat) : Int) + 8)) ((128 * j + 8 * t + 8 : Nat) : Int), 0 + F.length ≤ widths [Seg.arr .u8 F], 0 ≤ ((128 * j + 8 * t + 8 : Nat) : Int) ∧ 128 * j + 8 * t + 8 ≤ widths [Seg.arr .u8 F] - 0, 0 ≤ ((128 * j + 8 * t : Nat) : Int) ∧ 128 * j + 8 * t ≤ 128 * j + 8 * t + 8, 128 * j + 8 * t + (128 * j + 8 * t + 8 - (128 * j + 8 * t)) ≤ F.length, (cutI F (128 * j + 8 * t) (128 * j + 8 * t + 8 - (128 * j + 8 * t))).length = 8 ∧ ∀ z ∈ cutI F (128 * j + 8 * t) (128 * j + 8 * t + 8 - (128 * j + 8 * t)), 0 ≤ z ∧ z < 256, 0 ≤ (t : Int) ∧ t ≤ 80 - 1, t < w.length, tI .i64 (IntKind.wrap .i64 ((t : Int) + 1)) ((t + 1 : Nat) : Int)]) := by kernel_rfl
def sgR0 (x : Int) : Int := ixor .u64 (ixor .u64 (rr x 1) (rr x 8)) (ishr .u64 x 7)
def sgR1 (x : Int) : Int := ixor .u64 (ixor .u64 (rr x 19) (rr x 61)) (ishr .u64 x 6)
def wRx (a b c d : Int) : Int := IntKind.wrap .u64 (IntKind.wrap .u64 (IntKind.wrap .u64 (sgR1 a + b) + sgR0 c) + d)
theorem rs_hi (b F : List Int) (sf : Nat → Int) (w : List Int) (n : Int) (j t j_ k_ : Nat) : runN tyT rsO (atH 8 1 (isB true) (atH 10 1 (isB false) (atH 12 1 (isI IntKind.i64 ((t - 15 : Nat) : Int)) (atH 12 2 symH (atH 12 3 symH (atH 12 5 (isI IntKind.i64 ((t - 2 : Nat) : Int)) (atH 12 6 symH (atH 12 7 symH (atH 13 10 (isI IntKind.i64 ((t - 7 : Nat) : Int)) (atH 13 11 symH (atH 13 12 symH (atH 13 24 (isI IntKind.i64 ((t - 16 : Nat) : Int)) (atH 13 25 symH (atH 13 26 symH (atH 13 28 symH (atH 13 29 symH (atH 9 1 (isI .i64 ((t + 1 : Nat) : Int)) noH))))))))))))))))) [] 2000 2 [2, 3, 4] [2, 7, 8, 9, 10, 11] (inAt fRs 8 [j_] k_) (rsV b F sf w n j t) = some (hdAt fRs 8 [j_] k_, rsV b F sf (w.set t (wRx (w.getD (t - 2) 0) (w.getD (t - 7) 0) (w.getD (t - 15) 0) (w.getD (t - 16) 0))) n j (t + 1), [tB (decide ((t : Int) < 80)) true, tB (decide ((t : Int) < 16)) false, tI .i64 (IntKind.wrap .i64 ((t : Int) - 15)) ((t - 15 : Nat) : Int), 0 ≤ ((t - 15 : Nat) : Int) ∧ t - 15 ≤ 80 - 1, t - 15 < w.length, tI .i64 (IntKind.wrap .i64 ((t : Int) - 2)) ((t - 2 : Nat) : Int), 0 ≤ ((t - 2 : Nat) : Int) ∧ t - 2 ≤ 80 - 1, t - 2 < w.length, inU (w.getD (t - 2) 0) ∧ (1 : Int) ≤ 19 ∧ (19 : Int) ≤ 63, inU (w.getD (t - 2) 0) ∧ (1 : Int) ≤ 61 ∧ (61 : Int) ≤ 63, inU (w.getD (t - 2) 0) ∧ (0 : Int) ≤ 6 ∧ (6 : Int) ≤ 63, tI .i64 (IntKind.wrap .i64 ((t : Int) - 7)) ((t - 7 : Nat) : Int), 0 ≤ ((t - 7 : Nat) : Int) ∧ t - 7 ≤ 80 - 1, t - 7 < w.length, inU (w.getD (t - 15) 0) ∧ (1 : Int) ≤ 1 ∧ (1 : Int) ≤ 63, inU (w.getD (t - 15) 0) ∧ (1 : Int) ≤ 8 ∧ (8 : Int) ≤ 63, inU (w.getD (t - 15) 0) ∧ (0 : Int) ≤ 7 ∧ (7 : Int) ≤ 63, tI .i64 (IntKind.wrap .i64 ((t : Int) - 16)) ((t - 16 : Nat) : Int), 0 ≤ ((t - 16 : Nat) : Int) ∧ t - 16 ≤ 80 - 1, t - 16 < w.length, 0 ≤ (t : Int) ∧ t ≤ 80 - 1, t < w.length, tI .i64 (IntKind.wrap .i64 ((t : Int) + 1)) ((t + 1 : Nat) : Int)]) := by kernel_rfl
theorem rs_mid (b F : List Int) (sf wf : Nat → Int) (n : Int) (j j_ k_ : Nat) : runN tyT rsO noH [] 2000 2 [2, 3, 4, 5] [2, 7, 8, 9, 10, 14, 15] (inAt fRs 8 [j_] k_) (rsV b F sf (keyL 80 wf) n j 80) = some (toAt fRs 16 [j_], rsR b F sf wf [.arr .u64 (keyL 8 sf)] n j 0, []) := by kernel_rfl
def turR (x : Int) (a b c : Nat) : Int := ixor .u64 (ixor .u64 (rr x a) (rr x b)) (rr x c)
def t1R (v : Nat → Int) (k w : Int) : Int := IntKind.wrap .u64 (IntKind.wrap .u64 (IntKind.wrap .u64 (IntKind.wrap .u64 (v 7 + turR (v 4) 14 18 41) + chE (v 4) (v 5) (v 6)) + k) + w)
def t2R (v : Nat → Int) : Int := IntKind.wrap .u64 (turR (v 0) 28 34 39 + mjE (v 0) (v 1) (v 2))
def rdR (v : Nat → Int) (k w : Int) : Nat → Int
  | 0 => IntKind.wrap .u64 (t1R v k w + t2R v)
  | 4 => IntKind.wrap .u64 (v 3 + t1R v k w)
  | i + 1 => v i
theorem rs_rd (b F : List Int) (sf wf vf : Nat → Int) (n : Int) (j t j_ k_ : Nat) : runN tyT rsO (atH 16 1 (isB true) (atH 18 23 symH (atH 18 24 symH (atH 18 27 symH (atH 18 28 symH (atH 17 1 (isI .i64 ((t + 1 : Nat) : Int)) noH)))))) [] 2000 2 [2, 3, 4, 5] [2, 7, 8, 9, 10, 14, 15] (inAt fRs 16 [j_] k_) (rsR b F sf wf [.arr .u64 (keyL 8 vf)] n j t) = some (hdAt fRs 16 [j_] k_, rsR b F sf wf ((keyL 8 (rdR vf (kRounds.getD t 0) ((keyL 80 wf).getD t 0))).map fun z => .v (.int .u64 z)) n j (t + 1), [tB (decide ((t : Int) < 80)) true, inU (vf 4) ∧ (1 : Int) ≤ 14 ∧ (14 : Int) ≤ 63, inU (vf 4) ∧ (1 : Int) ≤ 18 ∧ (18 : Int) ≤ 63, inU (vf 4) ∧ (1 : Int) ≤ 41 ∧ (41 : Int) ≤ 63, True, 0 ≤ (t : Int) ∧ t ≤ 80 - 1, t < 80, 0 ≤ (t : Int) ∧ t ≤ 80 - 1, t < 80, inU (vf 0) ∧ (1 : Int) ≤ 28 ∧ (28 : Int) ≤ 63, inU (vf 0) ∧ (1 : Int) ≤ 34 ∧ (34 : Int) ≤ 63, inU (vf 0) ∧ (1 : Int) ≤ 39 ∧ (39 : Int) ≤ 63, True, tI .i64 (IntKind.wrap .i64 ((t : Int) + 1)) ((t + 1 : Nat) : Int)]) := by kernel_rfl
theorem rs_fin (b F : List Int) (sf wf vf : Nat → Int) (n : Int) (j j_ k_ : Nat) : runN tyT rsO (atH 5 1 (isI .i64 ((128 * (j + 1) : Nat) : Int)) noH) [(22, 9)] 2000 2 [2, 3] [2, 7, 8, 9] (inAt fRs 16 [j_] k_) (rsR b F sf wf [.arr .u64 (keyL 8 vf)] n j 80) = some (hdAt fRs 4 [] j_, rsS b F (fun i => IntKind.wrap .u64 (sf i + vf i)) n (j + 1), [tI .i64 (IntKind.wrap .i64 (((128 * j : Nat) : Int) + 128)) ((128 * (j + 1) : Nat) : Int)]) := by kernel_rfl
theorem rs_out (b F : List Int) (sf : Nat → Int) (n : Int) (j k_ : Nat) : runN tyT rsO (atH 4 3 (isB false) noH) [] 2000 2 [3] [2, 8, 19, 20] (inAt fRs 4 [] k_) (rsS b F sf n j) = some (toAt fRs 27 [], rsP b sf n, [tB (decide (((128 * j : Nat) : Int) < F.length)) false]) := by kernel_rfl
theorem rs_by (b o : List Int) (L : Nat) (sf : Nat → Int) (n : Int) (i k_ : Nat) : runN tyT rsO (atH 27 2 (isB true) (atH 29 2 (isI .i64 ((i / 8 : Nat) : Int)) (atH 29 3 symH (atH 29 4 symH (atH 29 7 (isI .i64 ((8 * (i % 8) : Nat) : Int)) (atH 29 8 (isI .i64 ((56 - 8 * (i % 8) : Nat) : Int)) (atH 29 13 symH (atH 28 1 (isI .i64 ((i + 1 : Nat) : Int)) noH)))))))) [] 2000 2 [2, 5] [2, 8, 19, 20] (inAt fRs 27 [] k_) (rsQ b o L sf n i) = some (hdAt fRs 27 [] k_, rsQ b (o ++ [IntKind.wrap .u8 (Int.tmod (ishr .u64 ((keyL 8 sf).getD (i / 8) 0) (56 - 8 * (i % 8))) 256)]) (widths [Seg.arr .u8 o] + 1) sf n (i + 1), [tB (decide ((i : Int) < n)) true, tI .i64 (IntKind.wrap .i64 (Int.tdiv i 8)) ((i / 8 : Nat) : Int), 0 ≤ ((i / 8 : Nat) : Int) ∧ i / 8 ≤ 8 - 1, i / 8 < 8, tI .i64 (IntKind.wrap .i64 (8 * Int.tmod i 8)) ((8 * (i % 8) : Nat) : Int), tI .i64 (IntKind.wrap .i64 (56 - ((8 * (i % 8) : Nat) : Int))) ((56 - 8 * (i % 8) : Nat) : Int), inU ((keyL 8 sf).getD (i / 8) 0) ∧ (0 : Int) ≤ ((56 - 8 * (i % 8) : Nat) : Int) ∧ ((56 - 8 * (i % 8) : Nat) : Int) ≤ 63, L = widths [Seg.arr .u8 o], 1 ≤ 1, (widths [Seg.arr .u8 o] + 1) * 2 ≤ 140737488355328, tI .i64 (IntKind.wrap .i64 ((i : Int) + 1)) ((i + 1 : Nat) : Int)]) := by kernel_rfl
theorem rs_end (b o : List Int) (L : Nat) (sf : Nat → Int) (n : Int) (i k_ : Nat) : runN tyT rsO (atH 27 2 (isB false) noH) [] 2000 2 [3] [6] (inAt fRs 27 [] k_) (rsQ b o L sf n i) = some ([.fin], rsE b o L, [tB (decide ((i : Int) < n)) false]) := by kernel_rfl
end Go.Proofs.YtmhmfmnjdbehcaaDoor.Am
/- The document's Sum: its contract. Conditions: none. -/
namespace Go.Proofs.YtmhmfmnjdbehcaaDoor.Am
set_option linter.unusedVariables false
set_option linter.unusedSimpArgs false
open Go Go.RowKit
set_option linter.unusedSectionVars false
variable [GT] [GRnd]
/-- Bytes. -/
def isBs (l : List Int) : Prop := ∀ z ∈ l, 0 ≤ z ∧ z < 256
theorem isBs_nil : isBs [] := fun z h => absurd h List.not_mem_nil
theorem isBs_app {a b : List Int} (ha : isBs a) (hb : isBs b) : isBs (a ++ b) := fun z h => (List.mem_append.1 h).elim (ha z) (hb z)
theorem isBs_take {a : List Int} (n : Nat) (ha : isBs a) : isBs (a.take n) := fun z h => ha z (List.mem_of_mem_take h)
theorem isBs_drop {a : List Int} (n : Nat) (ha : isBs a) : isBs (a.drop n) := fun z h => ha z (List.mem_of_mem_drop h)
theorem isBs_cut {a : List Int} (o n : Nat) (ha : isBs a) : isBs (cutI a o n) := by
  rw [cutI_eq]
  exact isBs_take _ (isBs_drop _ ha)
theorem wB_in (z : Int) : 0 ≤ IntKind.wrap .u8 z ∧ IntKind.wrap .u8 z < 256 := by
  rw [wB_def]
  exact ⟨by omega, by omega⟩
theorem isBs_keyL {n : Nat} {f : Nat → Int} (h : ∀ i, i < n → 0 ≤ f i ∧ f i < 256) : isBs (keyL n f) := fun z hz => by
  unfold keyL at hz
  rw [upTo_range] at hz
  simp only [List.mem_map, List.mem_range] at hz
  obtain ⟨_, ⟨i, hi, rfl⟩, rfl⟩ := hz
  rw [Nat.zero_add]
  exact h i hi
theorem isBs_tail (n : Nat) : isBs (tailL n) := by
  unfold tailL
  refine isBs_app (fun z hz => ?_) (fun z hz => ?_)
  · unfold tlO at hz
    rcases List.mem_cons.1 hz with rfl | hz
    · exact ⟨by decide, by decide⟩
    · rw [(List.mem_replicate.1 hz).2]
      exact ⟨by decide, by decide⟩
  · unfold tlZ at hz
    simp only [List.mem_cons, List.not_mem_nil, or_false] at hz
    rcases hz with rfl | rfl | rfl | rfl | rfl | rfl | rfl | hz | hz | hz | hz | hz | hz | hz | hz | hz
    all_goals first
      | exact ⟨by decide, by decide⟩
      | (rw [hz]; exact wB_in _)
theorem isBs_fil {b : List Int} (h : isBs b) : isBs (filL b) := isBs_app h (isBs_tail _)
theorem g2_cut (l : List Int) (o L i : Nat) (h : i < L) : g2 (cutI l o L) i = g2 l (o + i) := by
  unfold g2
  rw [cutI_eq, List.getD_eq_getElem?_getD, List.getD_eq_getElem?_getD, List.getElem?_take_of_lt h, List.getElem?_drop]
theorem keyL_succ (n : Nat) (f : Nat → Int) : keyL (n + 1) f = keyL n f ++ [f n] := by
  unfold keyL
  rw [upTo_range, upTo_range, List.range_succ, List.map_append, List.map_append]
  simp
theorem tur_eq (x : Int) (a b c : Nat) : turR x a b c = tur3 x a b c := by
  unfold turR tur3
  rw [ixor0 (rr_in _ _)]
theorem sg0_eq (x : Int) : sgR0 x = sg0 x := by
  unfold sgR0 sg0 tur2
  rw [ixor0 (rr_in _ _)]
theorem sg1_eq (x : Int) : sgR1 x = sg1 x := by
  unfold sgR1 sg1 tur2
  rw [ixor0 (rr_in _ _)]
theorem wRx_eq (a b c d : Int) : wRx a b c d = wEx a b c d := by
  unfold wRx wEx
  rw [sg0_eq, sg1_eq]
theorem rdR_eq (v : Nat → Int) (k w : Int) : rdR v k w = rdE v k w := by
  have e1 : t1R v k w = t1E v k w := by
    unfold t1R t1E
    rw [tur_eq]
  have e2 : t2R v = t2E v := by
    unfold t2R t2E
    rw [tur_eq]
  funext i
  match i with
  | 0 => show IntKind.wrap .u64 (t1R v k w + t2R v) = IntKind.wrap .u64 (t1E v k w + t2E v); rw [e1, e2]
  | 4 => show IntKind.wrap .u64 (v 3 + t1R v k w) = IntKind.wrap .u64 (v 3 + t1E v k w); rw [e1]
  | 1 => rfl
  | 2 => rfl
  | 3 => rfl
  | i + 5 => rfl
theorem inU0 : inU 0 := ⟨by decide, by decide⟩
theorem wdN_zero (bf : Nat → Int) : ∀ n i, n ≤ i → wdN bf n i = 0
  | 0, _, _ => rfl
  | n + 1, i, h => by
    show setF (wdN bf n) n _ i = 0
    rw [setF_eq, if_neg (by omega)]
    exact wdN_zero bf n i (by omega)
theorem wdN_in (bf : Nat → Int) : ∀ n i, inU (wdN bf n i)
  | 0, _ => inU0
  | n + 1, i => by
    show inU (setF (wdN bf n) n _ i)
    rw [setF_eq]
    split
    · unfold wdNx
      split
      · exact wB1_in _ _
      · exact wU_in _
    · exact wdN_in bf n i
theorem rdE_in {v : Nat → Int} (h : ∀ i, inU (v i)) (k w : Int) (i : Nat) : inU (rdE v k w i) := by
  match i with
  | 0 => exact wU_in _
  | 4 => exact wU_in _
  | 1 => exact h 0
  | 2 => exact h 1
  | 3 => exact h 2
  | i + 5 => exact h (i + 4)
theorem vE_in {s : Nat → Int} (h : ∀ i, inU (s i)) (W : Nat → Int) : ∀ n i, inU (vE s W n i)
  | 0, i => h i
  | n + 1, i => rdE_in (vE_in h W n) _ _ i
theorem g2_inU {l : List Int} (h : ∀ z ∈ l, inU z) (i : Nat) : inU (g2 l i) := by
  unfold g2
  rw [List.getD_eq_getElem?_getD]
  rcases e : l[i]? with _ | z
  · exact inU0
  · exact h z (List.mem_of_getElem? e)
theorem compL_in (s b : List Int) : ∀ z ∈ compL s b, inU z := fun z hz => by
  unfold compL keyL at hz
  simp only [List.mem_map] at hz
  obtain ⟨i, _, rfl⟩ := hz
  exact wU_in _
theorem abN_in {s : List Int} (h : ∀ z ∈ s, inU z) (a : List Int) : ∀ n, ∀ z ∈ abN s a n, inU z
  | 0 => h
  | n + 1 => compL_in _ _
/-- A block of a row. -/
def blkL (F : List Int) (j : Nat) : List Int := (F.drop (128 * j)).take 128
theorem wB8_blk (F : List Int) (j t : Nat) (h : t < 16) : wB8 (g2 (cutI F (128 * j + 8 * t) 8)) 0 0 = wB8 (g2 (blkL F j)) t 0 := by
  have e : ∀ i, i < 8 → g2 (cutI F (128 * j + 8 * t) 8) i = g2 (blkL F j) (8 * t + i) := fun i hi => by
    rw [g2_cut _ _ _ _ hi]
    unfold blkL
    rw [← cutI_eq, g2_cut _ _ _ _ (by omega), Nat.add_assoc]
  unfold wB8
  rw [e 0 (by omega)]
  show wB1 (wB1 (wB1 (wB1 (wB1 (wB1 (wB1 (wB1 0 _) (g2 _ 1)) (g2 _ 2)) (g2 _ 3)) (g2 _ 4)) (g2 _ 5)) (g2 _ 6)) (g2 _ 7) = _
  rw [e 1 (by omega), e 2 (by omega), e 3 (by omega), e 4 (by omega), e 5 (by omega), e 6 (by omega), e 7 (by omega), Nat.add_zero]
theorem rs_word (b F : List Int) (hF : isBs F) (sf : Nat → Int) (n : Int) (j t j_ k_ : Nat) (hj : 128 * (j + 1) ≤ F.length) (hlen : F.length ≤ 2000000) (ht : t < 80) : Reaches Tryd.prog 0 (inAt fRs 8 [j_] k_) (rsV b F sf (keyL 80 (wdN (g2 (blkL F j)) t)) n j t) (hdAt fRs 8 [j_] k_) (rsV b F sf (keyL 80 (wdN (g2 (blkL F j)) (t + 1))) n j (t + 1)) := by
  have e5 := w64 (z := ((t : Nat) : Int) + 1) (by omega) (by omega)
  by_cases h16 : t < 16
  · have hrun := rs_lo b F sf (keyL 80 (wdN (g2 (blkL F j)) t)) n j t j_ k_
    rw [show 128 * j + 8 * t + 8 - (128 * j + 8 * t) = 8 by omega, wB8_blk F j t h16, keyL_set] at hrun
    have en : wdN (g2 (blkL F j)) (t + 1) = setF (wdN (g2 (blkL F j)) t) t (wB8 (g2 (blkL F j)) t 0) := by
      show setF _ t (wdNx _ t _) = _
      unfold wdNx
      rw [if_pos h16, wdN_zero _ _ _ (Nat.le_refl _)]
    rw [en]
    have hb := isBs_cut (128 * j + 8 * t) 8 hF
    have hl : (cutI F (128 * j + 8 * t) 8).length = 8 := by
      rw [cutI_eq, List.length_take, List.length_drop]
      omega
    refine Reaches.runK tyT_ok rsO_ok mixed_ hrun ?_
    have e1 := w64 (z := 8 * ((t : Nat) : Int)) (by omega) (by omega)
    have e2 := w64 (z := ((128 * j : Nat) : Int) + ((8 * t : Nat) : Int)) (by omega) (by omega)
    have e3 := w64 (z := ((128 * j + 8 * t : Nat) : Int) + 8) (by omega) (by omega)
    simp only [allP_cons, allP_nil, and_true, true_and, tB_lt, tI_iff, keyL_len, widths_o, hl]
    rw [e1, e2, e3, e5]
    refine ⟨by omega, by omega, by omega, by omega, by omega, by omega, by omega, by omega, by omega, by omega, by omega, hb, by omega, by omega, by omega⟩
  · have hrun := rs_hi b F sf (keyL 80 (wdN (g2 (blkL F j)) t)) n j t j_ k_
    rw [keyL_get 80 _ _ (by omega), keyL_get 80 _ _ (by omega), keyL_get 80 _ _ (by omega), keyL_get 80 _ _ (by omega), keyL_set, wRx_eq] at hrun
    have en : wdN (g2 (blkL F j)) (t + 1) = setF (wdN (g2 (blkL F j)) t) t (wEx (wdN (g2 (blkL F j)) t (t - 2)) (wdN (g2 (blkL F j)) t (t - 7)) (wdN (g2 (blkL F j)) t (t - 15)) (wdN (g2 (blkL F j)) t (t - 16))) := by
      show setF _ t (wdNx _ t _) = _
      unfold wdNx
      rw [if_neg h16]
    rw [en]
    refine Reaches.runK tyT_ok rsO_ok mixed_ hrun ?_
    have e1 := w64 (z := ((t : Nat) : Int) - 15) (by omega) (by omega)
    have e2 := w64 (z := ((t : Nat) : Int) - 2) (by omega) (by omega)
    have e3 := w64 (z := ((t : Nat) : Int) - 7) (by omega) (by omega)
    have e4 := w64 (z := ((t : Nat) : Int) - 16) (by omega) (by omega)
    have i2 := wdN_in (g2 (blkL F j)) t (t - 2)
    have i15 := wdN_in (g2 (blkL F j)) t (t - 15)
    simp only [allP_cons, allP_nil, and_true, true_and, tB_lt, tB_nlt, tI_iff, keyL_len, i2, i15]
    omega
theorem rs_words (b F : List Int) (hF : isBs F) (sf : Nat → Int) (n : Int) (j j_ : Nat) (hj : 128 * (j + 1) ≤ F.length) (hlen : F.length ≤ 2000000) : ∀ (k t : Nat), t + k = 80 → Reaches Tryd.prog 0 (hdAt fRs 8 [j_] (k + 1)) (rsV b F sf (keyL 80 (wdN (g2 (blkL F j)) t)) n j t) (toAt fRs 16 [j_]) (rsR b F sf (wdN (g2 (blkL F j)) 80) [.arr .u64 (keyL 8 sf)] n j 0)
  | 0, t, h => by
    obtain rfl : t = 80 := by omega
    exact Reaches.oneK (Reaches.runK tyT_ok rsO_ok mixed_ (rs_mid b F sf _ n j j_ 0) trivial)
  | k + 1, t, h => (Reaches.oneK (rs_word b F hF sf n j t j_ (k + 1) hj hlen (by omega))).trans (rs_words b F hF sf n j j_ hj hlen k (t + 1) (by omega))
theorem rs_rounds (b F : List Int) (sf wf : Nat → Int) (hs : ∀ i, inU (sf i)) (n : Int) (j j_ : Nat) (hj : j ≤ 100000) : ∀ (k t : Nat), t + k = 80 → Reaches Tryd.prog 0 (hdAt fRs 16 [j_] (k + 1)) (rsR b F sf wf [.arr .u64 (keyL 8 (vE sf wf t))] n j t) (hdAt fRs 4 [] j_) (rsS b F (fun i => IntKind.wrap .u64 (sf i + vE sf wf 80 i)) n (j + 1))
  | 0, t, h => by
    obtain rfl : t = 80 := by omega
    refine Reaches.oneK (Reaches.runK tyT_ok rsO_ok mixed_ (rs_fin b F sf wf _ n j j_ 0) ?_)
    have e1 := w64 (z := ((128 * j : Nat) : Int) + 128) (by omega) (by omega)
    simp only [allP_cons, allP_nil, and_true, tI_iff]
    omega
  | k + 1, t, h => by
    have hrun := rs_rd b F sf wf (vE sf wf t) n j t j_ (k + 1)
    rw [keyL_get 80 wf t (by omega), rdR_eq] at hrun
    have ih := rs_rounds b F sf wf hs n j j_ hj k (t + 1) (by omega)
    have hret : Reaches Tryd.prog 0 (hdAt fRs 16 [j_] (k + 1)) (rsR b F sf wf ((keyL 8 (rdE (vE sf wf t) (kRounds.getD t 0) (wf t))).map fun z => .v (.int .u64 z)) n j (t + 1)) (hdAt fRs 16 [j_] (k + 1)) (rsR b F sf wf [.arr .u64 (keyL 8 (vE sf wf (t + 1)))] n j (t + 1)) :=
      Reaches.retell 5 [.arr .u64 (keyL 8 (vE sf wf (t + 1)))] (fun ρ => by kernel_rfl)
    refine (Reaches.oneK (Reaches.runK tyT_ok rsO_ok mixed_ hrun ?_)).trans (hret.trans ih)
    have i0 := vE_in hs wf t 0
    have i4 := vE_in hs wf t 4
    simp only [allP_cons, allP_nil, and_true, true_and, tB_lt, tI_iff, i0, i4]
    have e5 := w64 (z := ((t : Nat) : Int) + 1) (by omega) (by omega)
    omega
theorem rs_block (b F : List Int) (hF : isBs F) (s : List Int) (h8 : s.length = 8) (hs : ∀ z ∈ s, inU z) (n : Int) (j j_ : Nat) (hj : 128 * (j + 1) ≤ F.length) (hlen : F.length ≤ 2000000) : Reaches Tryd.prog 0 (inAt fRs 4 [] j_) (rsS b F (g2 s) n j) (hdAt fRs 4 [] j_) (rsS b F (g2 (compL s (blkL F j))) n (j + 1)) := by
  have r1 := Reaches.runK (m0 := 0) tyT_ok rsO_ok mixed_ (rs_in b F (g2 s) n j j_) (by
    simp only [allP_cons, allP_nil, and_true, tB_lt]
    omega)
  have r2 := Reaches.roundsK 81 (rs_words b F hF (g2 s) n j j_ hj hlen 80 0 rfl)
  have r3 := Reaches.roundsK 81 (rs_rounds b F (g2 s) (wdN (g2 (blkL F j)) 80) (g2_inU hs) n j j_ (by omega) 80 0 rfl)
  have e : rsS b F (fun i => IntKind.wrap .u64 (g2 s i + vE (g2 s) (wdN (g2 (blkL F j)) 80) 80 i)) n (j + 1) = rsS b F (g2 (compL s (blkL F j))) n (j + 1) := by
    unfold rsS
    rw [keyL_g2 (compL_len _ _)]
    rfl
  rw [e] at r3
  exact r1.trans (r2.trans r3)
theorem rs_blocks (b F : List Int) (hF : isBs F) (s : List Int) (h8 : s.length = 8) (hs : ∀ z ∈ s, inU z) (n : Int) (hlen : F.length ≤ 2000000) (hm : F.length = 128 * KN F) : ∀ (k j : Nat), j + k = KN F → Reaches Tryd.prog 0 (hdAt fRs 4 [] (k + 1)) (rsS b F (g2 (abN s F j)) n j) (toAt fRs 27 []) (rsP b (g2 (abA s F)) n)
  | 0, j, h => by
    obtain rfl : j = KN F := by omega
    refine Reaches.oneK (Reaches.runK tyT_ok rsO_ok mixed_ (rs_out b F _ n _ 0) ?_)
    simp only [allP_cons, allP_nil, and_true, tB_nlt]
    omega
  | k + 1, j, h => (Reaches.oneK (rs_block b F hF (abN s F j) (abN_len h8 F j) (abN_in hs F j) n j (k + 1) (by omega) hlen)).trans (rs_blocks b F hF s h8 hs n hlen hm k (j + 1) (by omega))
theorem rs_byte {sf : Nat → Int} (hs : ∀ i, inU (sf i)) (i : Nat) (hi : i < 64) : IntKind.wrap .u8 (Int.tmod (ishr .u64 ((keyL 8 sf).getD (i / 8) 0) (56 - 8 * (i % 8))) 256) = byE sf i := by
  rw [keyL_get 8 sf _ (by omega)]
  unfold byE
  obtain ⟨h0, h1⟩ := hs (i / 8)
  obtain ⟨X, hX⟩ : ∃ X : Nat, sf (i / 8) = X := ⟨(sf (i / 8)).toNat, by omega⟩
  rw [hX, ishr_nat X _ (by omega), Int.tmod_eq_emod_of_nonneg (Int.natCast_nonneg _), wB_def, wB_def]
  omega
theorem rs_outs (b : List Int) (sf : Nat → Int) (hs : ∀ i, inU (sf i)) (n : Nat) (hn : n ≤ 64) : ∀ (k i : Nat), i + k = n → Reaches Tryd.prog 0 (hdAt fRs 27 [] (k + 1)) (rsQ b (keyL i (byE sf)) i sf n i) [.fin] (rsE b (keyL n (byE sf)) n)
  | 0, i, h => by
    obtain rfl : i = n := by omega
    refine Reaches.oneK (Reaches.runK tyT_ok rsO_ok mixed_ (rs_end b _ _ sf _ _ 0) ?_)
    simp only [allP_cons, allP_nil, and_true, tB_nlt]
    omega
  | k + 1, i, h => by
    have hrun := rs_by b (keyL i (byE sf)) i sf n i (k + 1)
    rw [rs_byte hs i (by omega), ← keyL_succ, widths_o, keyL_len] at hrun
    have ih := rs_outs b sf hs n hn k (i + 1) (by omega)
    refine (Reaches.oneK (Reaches.runK tyT_ok rsO_ok mixed_ hrun ?_)).trans ih
    rw [keyL_get 8 sf _ (by omega)]
    have h8 := hs (i / 8)
    have e1 : Int.tdiv (i : Int) 8 = ((i / 8 : Nat) : Int) := by
      rw [Int.tdiv_eq_ediv_of_nonneg (by omega)]
      omega
    have e2 : Int.tmod (i : Int) 8 = ((i % 8 : Nat) : Int) := by
      rw [Int.tmod_eq_emod_of_nonneg (by omega)]
      omega
    rw [e1, e2]
    have w1 := w64 (z := ((i / 8 : Nat) : Int)) (by omega) (by omega)
    have w2 := w64 (z := 8 * ((i % 8 : Nat) : Int)) (by omega) (by omega)
    have w3 := w64 (z := 56 - ((8 * (i % 8) : Nat) : Int)) (by omega) (by omega)
    have w4 := w64 (z := ((i : Nat) : Int) + 1) (by omega) (by omega)
    simp only [allP_cons, allP_nil, and_true, true_and, tB_lt, tI_iff, h8, w1, w2, w3, w4]
    omega
theorem fil_KN (b : List Int) : (filL b).length = 128 * KN (filL b) := by
  have e : (filL b).length = b.length + (padN b.length + 17) := by
    unfold filL
    rw [List.length_append, tailL_len]
  have hm : (filL b).length % 128 = 0 := by
    rw [e]
    unfold padN
    omega
  unfold KN
  omega
def rsF : List CB → Option BR
  | [.sl .u8 b, .ag .u64 s, .av (.one (.v (.int .i64 n)))] => some { pre := isBs b ∧ b.length ≤ 900000 ∧ s.length = 8 ∧ (∀ z ∈ s, inU z) ∧ 0 ≤ n ∧ n ≤ 64, val := .av (.one (.r 0 0 n.toNat 0)), new := [⟨1, 5, [.arr .u8 (keyL n.toNat (g2 (shaL s b)))]⟩] }
  | _ => none
theorem rs_ends (cbs : List CB) (r : BR) (hF : rsF cbs = some r) (hp : r.pre) : EndsB Tryd.prog tyT gsK fRs cbs r := by
  unfold rsF at hF
  split at hF
  · rename_i b s n
    injection hF with hF
    subst hF
    obtain ⟨hb, hl, h8, hs, h0, h1⟩ : isBs b ∧ b.length ≤ 900000 ∧ s.length = 8 ∧ (∀ z ∈ s, inU z) ∧ 0 ≤ n ∧ n ≤ 64 := hp
    obtain ⟨m, rfl⟩ : ∃ m : Nat, n = m := ⟨n.toNat, by omega⟩
    intro κ
    have hst := rs_start κ b (g2 s) m
    rw [cutI_all] at hst
    have hfl : (filL b).length ≤ 2000000 := by
      have := padN_le b.length
      unfold filL
      rw [List.length_append, tailL_len]
      omega
    have h2 := Reaches.roundsK (KN (filL b) + 1) (rs_blocks b (filL b) (isBs_fil hb) s h8 hs (m : Int) hfl (fil_KN b) (KN (filL b)) 0 (Nat.zero_add _))
    have had : Reaches Tryd.prog 0 (toAt fRs 27 []) (rsP b (g2 (abA s (filL b))) m) (toAt fRs 27 []) (rsQ b [] 0 (g2 (abA s (filL b))) m 0) := Reaches.adoptK (m := 2) (es := [2, 3]) (ks := [2, 8, 19, 20]) 5 .u8 (t := 19) (by kernel_rfl) (by kernel_rfl)
    have h3 := Reaches.roundsK (m + 1) (rs_outs b (g2 (abA s (filL b))) (g2_inU (abN_in hs _ _)) m (by omega) m 0 (Nat.zero_add _))
    have h := ((FromK.run (m0 := 0) tyT_ok rsO_ok mixed_ hst ?_).trans h2).trans (had.trans h3)
    · unfold rsB at h
      rw [keyL_g2 h8] at h
      have ek : keyL m (g2 (shaL s b)) = keyL m (byE (g2 (abA s (filL b)))) := keyL_congr fun i hi => by
        show (keyL 64 (byE (g2 (abA s (filL b))))).getD i 0 = _
        exact keyL_get 64 _ i (by omega)
      rw [← ek] at h
      exact ⟨[.fin], _, .av (.one (.r 2 0 m 0)), [2], .inr rfl, h, by kernel_rfl, by kernel_rfl, by kernel_rfl⟩
    · simp only [allP_cons, allP_nil, and_true]
      omega
  · cases hF
theorem gsK_ok : ∀ x, x ∈ gsK → (x.1, x.2.2.map (Value.int x.2.1)) ∈ GT.tab := fun x hx => by
  simp only [gsK, List.mem_cons, List.not_mem_nil, or_false] at hx
  subst hx
  exact GRnd.h
theorem rSum_ent (sh : List ShB) (hs : sh.length = 3 := by rfl) : EntOK Tryd.prog 40 (entB sh rsF) :=
  ok_B tyT_ok Tryd.func40 (by kernel_rfl) (by kernel_rfl) gsK gsK_ok (by rw [hs]; kernel_rfl) rs_ends
end Go.Proofs.YtmhmfmnjdbehcaaDoor.Am
/- The document's Long and Short; Len. Conditions: none. -/
namespace Go.Proofs.YtmhmfmnjdbehcaaDoor.Am
set_option linter.unusedVariables false
set_option linter.unusedSimpArgs false
open Go Go.RowKit
set_option linter.unusedSectionVars false
variable [GT] [GRnd]
noncomputable def loO : List (Nat × Ent) := [(40, entB [.sl .u8, .ag .u64, .av] rsF)]
theorem loO_ok : OOK Tryd.prog loO := ook_of (l := [(40, entB [.sl .u8, .ag .u64, .av] rsF)]) ⟨rSum_ent _, trivial⟩
noncomputable abbrev fLo : Func := Tryd.f21
theorem lo_run (κ : Nat → Value) (b : List Int) : runF tyT loO noH [] 2 [2] [2] fLo (bA [.sl .u8 b] 0 0) (bH κ [.sl .u8 b] 0 0 ++ gH gs512 1) 2 (gL gs512 1) = some ([.fin], { tm := tmL 6 [(2, .av (.one (.r 2 0 64 0)))], hp := [(0, ⟨2, 0, [.arr .u8 b]⟩), (1, ⟨2, 0, [.arr .u64 kStart512]⟩), (2, ⟨1, 5, [.arr .u8 (keyL 64 (g2 (shaL kStart512 (cutI b 0 b.length))))]⟩)], nx := 3, gl := gL gs512 1 }, [0 + b.length ≤ b.length, isBs (cutI b 0 b.length) ∧ (cutI b 0 b.length).length ≤ 900000 ∧ kStart512.length = 8 ∧ (∀ z ∈ kStart512, inU z) ∧ (0 : Int) ≤ 64 ∧ (64 : Int) ≤ 64]) := by kernel_rfl
theorem k512_in : ∀ z ∈ kStart512, inU z := by
  unfold kStart512 inU
  decide
def loF : List CB → Option BR
  | [.sl .u8 b] => some { pre := isBs b ∧ b.length ≤ 900000, val := .av (.one (.r 0 0 64 0)), new := [⟨1, 5, [.arr .u8 (keyL 64 (g2 (shaL kStart512 b)))]⟩] }
  | _ => none
theorem lo_ends (cbs : List CB) (r : BR) (hF : loF cbs = some r) (hp : r.pre) : EndsB Tryd.prog tyT gs512 fLo cbs r := by
  unfold loF at hF
  split at hF
  · rename_i b
    injection hF with hF
    subst hF
    obtain ⟨hb, hl⟩ : isBs b ∧ b.length ≤ 900000 := hp
    intro κ
    have hrun := lo_run κ b
    rw [cutI_all] at hrun
    have h := FromK.run (m0 := 0) tyT_ok loO_ok mixed_ hrun ⟨by omega, ⟨hb, hl, rfl, k512_in, by decide, by decide⟩, trivial⟩
    exact ⟨[.fin], _, .av (.one (.r 2 0 64 0)), [2], .inr rfl, h, by kernel_rfl, by kernel_rfl, by kernel_rfl⟩
  · cases hF
theorem Long_ent [G512] (sh : List ShB) (hs : sh.length = 1 := by rfl) : EntOK Tryd.prog 21 (entB sh loF) :=
  ok_B tyT_ok Tryd.func21 (by kernel_rfl) (by kernel_rfl) gs512 gs512_ok (by rw [hs]; kernel_rfl) lo_ends
noncomputable abbrev fSh : Func := Tryd.f22
theorem sr_run (κ : Nat → Value) (b : List Int) : runF tyT loO noH [] 2 [2] [2] fSh (bA [.sl .u8 b] 0 0) (bH κ [.sl .u8 b] 0 0 ++ gH gs384 1) 2 (gL gs384 1) = some ([.fin], { tm := tmL 6 [(2, .av (.one (.r 2 0 48 0)))], hp := [(0, ⟨2, 0, [.arr .u8 b]⟩), (1, ⟨2, 0, [.arr .u64 kStart384]⟩), (2, ⟨1, 5, [.arr .u8 (keyL 48 (g2 (shaL kStart384 (cutI b 0 b.length))))]⟩)], nx := 3, gl := gL gs384 1 }, [0 + b.length ≤ b.length, isBs (cutI b 0 b.length) ∧ (cutI b 0 b.length).length ≤ 900000 ∧ kStart384.length = 8 ∧ (∀ z ∈ kStart384, inU z) ∧ (0 : Int) ≤ 48 ∧ (48 : Int) ≤ 64]) := by kernel_rfl
theorem k384_in : ∀ z ∈ kStart384, inU z := by
  unfold kStart384 inU
  decide
def srF : List CB → Option BR
  | [.sl .u8 b] => some { pre := isBs b ∧ b.length ≤ 900000, val := .av (.one (.r 0 0 48 0)), new := [⟨1, 5, [.arr .u8 (keyL 48 (g2 (shaL kStart384 b)))]⟩] }
  | _ => none
theorem sr_ends (cbs : List CB) (r : BR) (hF : srF cbs = some r) (hp : r.pre) : EndsB Tryd.prog tyT gs384 fSh cbs r := by
  unfold srF at hF
  split at hF
  · rename_i b
    injection hF with hF
    subst hF
    obtain ⟨hb, hl⟩ : isBs b ∧ b.length ≤ 900000 := hp
    intro κ
    have hrun := sr_run κ b
    rw [cutI_all] at hrun
    have h := FromK.run (m0 := 0) tyT_ok loO_ok mixed_ hrun ⟨by omega, ⟨hb, hl, rfl, k384_in, by decide, by decide⟩, trivial⟩
    exact ⟨[.fin], _, .av (.one (.r 2 0 48 0)), [2], .inr rfl, h, by kernel_rfl, by kernel_rfl, by kernel_rfl⟩
  · cases hF
theorem Short_ent [G384] (sh : List ShB) (hs : sh.length = 1 := by rfl) : EntOK Tryd.prog 22 (entB sh srF) :=
  ok_B tyT_ok Tryd.func22 (by kernel_rfl) (by kernel_rfl) gs384 gs384_ok (by rw [hs]; kernel_rfl) sr_ends
noncomputable abbrev fLe : Func := Tryd.f23
def leB (sf : Nat → Int) (i : Nat) (n z : Int) : List CB := [.rd [.ag .u64 (keyL 8 sf), .kp i, .sg (.v (.int .i64 n)), .sg (.v (.int .i64 z))]]
theorem le_run (κ : Nat → Value) (sf : Nat → Int) (i : Nat) (n z : Int) : runF tyT [] noH [] 0 [] [2] fLe (bA (leB sf i n z) 0 0) (bH κ (leB sf i n z) 0 0) 1 [] = some ([.fin], { tm := tmL 7 [(2, ofV (.int .i64 n))], hp := [], nx := 0, gl := [] }, []) := by kernel_rfl
def leF : List CB → Option BR
  | [.rd [.ag .u64 s, .kp _, .sg (.v (.int .i64 n)), .sg (.v (.int .i64 _))]] => some { pre := s.length = 8, val := .av (.one (.v (.int .i64 n))) }
  | _ => none
theorem le_ends (cbs : List CB) (r : BR) (hF : leF cbs = some r) (hp : r.pre) : EndsB Tryd.prog tyT [] fLe cbs r := by
  unfold leF at hF
  split at hF
  · rename_i s i n z
    injection hF with hF
    subst hF
    have hs : s.length = 8 := hp
    intro κ
    have h := FromK.run (m0 := 0) tyT_ok nil_ok mixed_ (le_run κ (g2 s) i n z) trivial
    unfold leB at h
    rw [keyL_g2 hs] at h
    exact ⟨[.fin], _, .av (.one (.v (.int .i64 n))), [], .inr rfl, h, by kernel_rfl, by kernel_rfl, by kernel_rfl⟩
  · cases hF
theorem len_ent (sh : List ShB) (hs : sh.length = 1 := by rfl) : EntOK Tryd.prog 23 (entB sh leF) :=
  ok_B tyT_ok Tryd.func23 (by kernel_rfl) (by kernel_rfl) [] (fun x hx => by cases hx) (by rw [hs]; kernel_rfl) le_ends
end Go.Proofs.YtmhmfmnjdbehcaaDoor.Am
/- Opening arrays of bytes, and rows of them, at a law's call. Conditions: none. -/
namespace Go.Proofs.YtmhmfmnjdbehcaaDoor
set_option linter.unusedVariables false
set_option linter.unusedSimpArgs false
open Go Go.ChangeShapes Go.WideShapes Go.ChangeAt Go.RowKit

theorem own_ : ownKnob Tryd.prog.godebug = none := by kernel_rfl
theorem laidOut_ : laidOutB Tryd.prog = true := by kernel_rfl
theorem ints_of {k : IntKind} : ∀ l : List Value, (∀ i, i < l.length → ∃ z, l[i]? = some (.int k z) ∧ (Lit.int k z).wf = true) → ∃ bs : List Int, l = bs.map (Value.int k) ∧ ∀ z ∈ bs, (Lit.int k z).wf = true
  | [], _ => ⟨[], rfl, by simp⟩
  | x :: l, h => by
    obtain ⟨z, hz, hw⟩ := h 0 (by simp)
    obtain ⟨bs, hb, hbw⟩ := ints_of l fun i hi => by
      obtain ⟨z, hz, hw⟩ := h (i + 1) (by simp; omega)
      exact ⟨z, by simpa using hz, hw⟩
    simp only [List.getElem?_cons_zero, Option.some.injEq] at hz
    subst hz
    refine ⟨z :: bs, by rw [hb]; rfl, fun y hy => ?_⟩
    rcases List.mem_cons.1 hy with rfl | hy
    · exact hw
    · exact hbw y hy
/-- An array of integers that comes in. -/
theorem open_arr {H : Type} {enc : TypeId × Value → H} {W : World} {base : Nat} {b0 : Nat} {spare : Nat → Bool} {held : Bool} {v : Value} {d : DataW H} {ps : List MemPlace} {t e : TypeId} {n : Nat} {k : IntKind}
    (ht : Tryd.prog.underlying t = some (.array n e)) (he : Tryd.prog.underlying e = some (.int k)) (hct : Tryd.prog.cellsOf t = n) (hce : Tryd.prog.cellsOf e = 1)
    (hval : Value.okWide Tryd.prog W .any b0 t v) (h : DataW.Trod enc Tryd.prog W base spare held t v d ps) :
    ∃ bs : List Int, bs.length = n ∧ (∀ z ∈ bs, (Lit.int k z).wf = true) ∧ v = .agg (bs.map (Value.int k)).toArray := by
  obtain ⟨cs, rfl, hsz, _⟩ : ∃ cs, v = .agg cs ∧ cs.size = Tryd.prog.cellsOf t ∧ Row.okWide Tryd.prog W .any b0 t cs := by
    simpa [Value.okWide, ht] using hval
  rw [hct] at hsz
  obtain ⟨fuel, hf⟩ := h
  obtain ⟨xs, m, _, _, hl, hxs, hel⟩ := DataW.trod_array ht hf
  obtain ⟨l⟩ := cs
  have hl' : l.length = n := hsz
  have hc : (Value.agg ⟨l⟩).cells.toList = l := rfl
  obtain ⟨bs, hb, hw⟩ := ints_of (k := k) l fun i hi => by
    have := hel i (by omega)
    rw [hc, hce, Nat.mul_one, List.getElem?_eq_getElem (by omega)] at this
    obtain ⟨z, hz, _, hzw⟩ := DataW.trod_int he this
    refine ⟨z, ?_, hzw⟩
    have h2 := congrArg (fun q => q[0]?) hz
    simpa [List.getElem?_take, List.getElem?_drop] using h2
  exact ⟨bs, by rw [hb] at hl'; simpa using hl', hw, by rw [hb]⟩

/-- What is known of a row of integers that came in. -/
def IsRow (k : IntKind) (w : World) (a : Option Addr) (len cap : Nat) (zs : List Int) : Prop :=
  (a = none ∧ len = 0 ∧ cap = 0 ∧ zs = []) ∨
  ∃ x, a = some x ∧ len ≤ cap ∧ cap ≤ maxLen ∧ zs.length = cap ∧ (∀ i, i < zs.length → w.cell? (x.add i) = some (.int k (zs.getD i 0))) ∧ ∀ n ∈ zs, (Lit.int k n).wf = true

end Go.Proofs.YtmhmfmnjdbehcaaDoor
/- Opening slices of integers at a law's call, as the machine takes them; and a law's call. Conditions: none. -/
namespace Go.Proofs.YtmhmfmnjdbehcaaDoor
set_option linter.unusedVariables false
set_option linter.unusedSimpArgs false
open Go Go.ChangeShapes Go.WideShapes Go.ChangeAt Go.RowKit

theorem has_lt {P : Program} {w : World} {r : Reach} {base : Nat} {a : Addr} {e : TypeId} {n : Nat} (h : w.has P r base a e n) : a.block < w.heap.size := by
  obtain ⟨_, _, row, cells, hs, _⟩ := h
  unfold World.shape? at hs
  split at hs
  · rename_i hb
    exact (Array.getElem?_eq_some_iff.1 hb).1
  all_goals first | cases hs | (rename_i hb; exact (Array.getElem?_eq_some_iff.1 hb).1)
/-- A slice of integers that comes in. -/
theorem open_sl {H : Type} {enc : TypeId × Value → H} {W : World} {base : Nat} {b0 : Nat} {spare : Nat → Bool} {held : Bool} {v : Value} {d : DataW H} {ps : List MemPlace} {t e : TypeId} {k : IntKind}
    (ht : Tryd.prog.underlying t = some (.slice e)) (he : Tryd.prog.underlying e = some (.int k)) (hce : Tryd.prog.cellsOf e = 1)
    (hval : Value.okWide Tryd.prog W .any b0 t v) (h : DataW.Trod enc Tryd.prog W base spare held t v d ps) :
    ∃ a cap, ∃ zs : List Int, v = .slice a zs.length cap ∧ Am.RowAt W ⟨a, cap⟩ k zs ∧ ∀ z ∈ zs, (Lit.int k z).wf = true := by
  obtain ⟨a, len, cap, rfl⟩ := okWide_slice ht hval
  have hlt : ∀ x, a = some x → x.block < W.heap.size := fun x hx => by
    subst hx
    simp only [Value.okWide, ht, Cell.okWide, Cell.ok] at hval
    exact has_lt hval.2.2
  obtain ⟨fuel, hf⟩ := h
  rcases open_ints ht he hce hf with ⟨hcs, _⟩ | ⟨x, l, c, zs, hcs, _, hl, hm, hz, _, hcell, hwz⟩
  · simp [Value.cells] at hcs
    obtain ⟨rfl, rfl, rfl⟩ := hcs
    exact ⟨none, 0, [], rfl, ⟨Nat.le_refl _, .inl rfl, fun x hx => by cases hx⟩, by simp⟩
  · simp [Value.cells] at hcs
    obtain ⟨rfl, rfl, rfl⟩ := hcs
    have hzl : len ≤ zs.length := by rw [hz]; split <;> omega
    have hlen : (zs.take len).length = len := by rw [List.length_take]; omega
    refine ⟨some x, cap, zs.take len, by rw [hlen], ⟨by rw [hlen]; exact hl, .inr ⟨x, rfl, fun j u hj => ?_⟩, hlt⟩, fun z hz' => hwz z (List.mem_of_mem_take hz')⟩
    have hjl : j < len := by
      have := (List.getElem?_eq_some_iff.1 hj).1
      rw [List.length_map, hlen] at this; exact this
    rw [List.getElem?_map, List.getElem?_take, if_pos hjl, List.getElem?_eq_getElem (by omega)] at hj
    simp only [Option.map_some, Option.some.injEq] at hj
    subst hj
    have := hcell j (by omega)
    simpa [List.getD_eq_getElem?_getD, List.getElem?_eq_getElem (show j < zs.length by omega)] using this
end Go.Proofs.YtmhmfmnjdbehcaaDoor
namespace Go.Proofs.YtmhmfmnjdbehcaaDoor.Am
open Go Go.RowKit
variable [GT]
omit [GT] in
/-- Rows that come in, as blocks to be read. -/
def rowsH : List (Loc × IntKind × List Int) → Nat → List (Nat × Blk)
  | [], _ => []
  | (_, k, zs) :: l, n => (n, ⟨2, 0, [.arr k zs]⟩) :: rowsH l (n + 1)
omit [GT] in
theorem rowsH_spec : ∀ (l : List (Loc × IntKind × List Int)) (n i : Nat) (b : Blk), look (rowsH l n) i = some b → n ≤ i ∧ i < n + l.length ∧ ∃ x, l[i - n]? = some x ∧ b = ⟨2, 0, [.arr x.2.1 x.2.2]⟩
  | [], n, i, b, h => by cases h
  | (g, k, zs) :: l, n, i, b, h => by
    simp only [rowsH, look_cons] at h
    by_cases hi : n = i
    · subst hi
      rw [if_pos rfl] at h
      injection h with h
      subst h
      exact ⟨Nat.le_refl _, by simp, (g, k, zs), by simp, rfl⟩
    · rw [if_neg hi] at h
      obtain ⟨h1, h2, x, hx, hb⟩ := rowsH_spec l (n + 1) i b h
      refine ⟨by omega, by simp only [List.length_cons]; omega, x, ?_, hb⟩
      rw [show i - n = (i - (n + 1)) + 1 by omega, List.getElem?_cons_succ]
      exact hx
theorem hr_rows {w : World} (l : List (Loc × IntKind × List Int)) (h : ∀ x ∈ l, RowAt w x.1 x.2.1 x.2.2) (hgw : GWok w.heap.size [] w) : HR (fun i => (l.map (·.1)).getD i ⟨none, 0⟩) (· < l.length) w.heap.size [] (look (rowsH l 0)) w := by
  have hall : ∀ i b, look (rowsH l 0) i = some b → i < l.length ∧ ∃ k zs, b = ⟨2, 0, [.arr k zs]⟩ ∧ RowAt w ((l.map (·.1)).getD i ⟨none, 0⟩) k zs := fun i b hb => by
    obtain ⟨_, h2, x, hx, rfl⟩ := rowsH_spec _ _ _ _ hb
    rw [Nat.sub_zero] at hx
    refine ⟨by omega, _, _, rfl, ?_⟩
    have e : (l.map (·.1)).getD i ⟨none, 0⟩ = x.1 := by simp [List.getD_eq_getElem?_getD, hx]
    rw [e]
    exact h x (List.mem_of_getElem? hx)
  refine ⟨Nat.le_refl _, fun i b hb => ?_, fun i b x hb hx => ?_, fun i b x hb hk hx => ?_, fun i j bi bj x y hi hj hij hk hx hy => ?_, hgw⟩
  · obtain ⟨h2, k, zs, rfl, h3, h4, _⟩ := hall i b hb
    refine ⟨h2, fun s hs => (by simp at hs; subst hs; trivial), ?_⟩
    show (segsVals _ _).length ≤ _ ∧ _
    rw [segsVals_one]
    refine ⟨by simpa [Seg.vals] using h3, ?_⟩
    rcases h4 with rfl | h4
    · exact .inl rfl
    · exact .inr h4
  · obtain ⟨_, k, zs, rfl, _, _, h5⟩ := hall i b hb
    exact h5 x hx
  · obtain ⟨_, k, zs, rfl, _⟩ := hall i b hb
    simp at hk
  · obtain ⟨_, k, zs, rfl, _⟩ := hall i bi hi
    simp at hk
/-- A law's run that ends in true. -/
theorem law_reach {f : FuncId} {fn : Func} (hf : Tryd.prog.funcs[f]? = some fn) {avs : List SV} {hp : List (Nat × Blk)} {k : Nat} {todo : List AI} {st : St} (hR : From Tryd.prog fn avs hp k [] todo st) (hfin : todo = [] ∨ todo = [.fin]) (hv : resVal tyT st fn.results.toList = some (ofV (.bool true))) (hlen : Nat.ble avs.length fn.ntmps = true) (hin : avs.all (svB fun i => Nat.blt i k) = true) {ρc : Nat → Loc} {w : World} (hG : HR ρc (· < k) w.heap.size [] (look hp) w) :
    Calls Tryd.prog f (avs.map (SV.conc ρc)).toArray w fun e w' => e = .returned (.bool true) ∧ Below w.heap.size w w' := by
  obtain ⟨c, hc, hRe⟩ := hR
  exact reach_val tyT_ok hf hc hfin hRe hv (by rfl) hlen (fun s hs => svB_in (f := fun i => Nat.blt i k) (fun i h => Nat.le_of_ble_eq_true h) (List.all_eq_true.1 hin s hs)) hG (fun _ => ⟨none, 0⟩)
omit [GT] in
theorem conc_s0 {ρ : Nat → Loc} {i n cap : Nat} : SV.conc ρ (.av (.one (.s i 0 n cap))) = .slice (ρ i).a n cap := by
  simp only [SV.conc, AV.conc, Seg.conc]
  cases (ρ i).a <;> simp [Addr.add]
end Go.Proofs.YtmhmfmnjdbehcaaDoor.Am
/- Law 02's joined, of any parts: the contract. Conditions: none. -/
namespace Go.Proofs.YtmhmfmnjdbehcaaDoor.Am
set_option linter.unusedVariables false
set_option linter.unusedSimpArgs false
open Go Go.RowKit
set_option linter.unusedSectionVars false
section
variable [GT]
/-- A part: where it lies, its room, its bytes. -/
abbrev Pt := Option Addr × Nat × List Int
def pv (l : List Pt) : List Value := l.map fun x => .slice x.1 x.2.2.length x.2.1
def jn (l : List Pt) : List Int := l.flatMap fun x => x.2.2
def PtsOK (l : List Pt) : Prop := ∀ x ∈ l, TabRow GT.tab x.1 x.2.2.length x.2.1 .u8 x.2.2 ∨ (x.2.2 = [] ∧ x.2.1 = 0)
theorem pv_len (l : List Pt) : (pv l).length = l.length := by unfold pv; rw [List.length_map]
theorem pv_get {l : List Pt} {i : Nat} (h : i < l.length) : (pv l)[i]? = some (.slice l[i].1 l[i].2.2.length l[i].2.1) := by
  unfold pv
  rw [List.getElem?_map, List.getElem?_eq_getElem h]
  rfl
theorem jn_take {l : List Pt} {i : Nat} (h : i < l.length) : jn (l.take (i + 1)) = jn (l.take i) ++ l[i].2.2 := by
  unfold jn
  rw [List.take_succ_eq_append_getElem h, List.flatMap_append, List.flatMap_cons, List.flatMap_nil, List.append_nil]
theorem jn_le (l : List Pt) (i : Nat) : (jn (l.take i)).length ≤ (jn l).length := by
  have : jn l = jn (l.take i) ++ jn (l.drop i) := by
    unfold jn
    rw [← List.flatMap_append, List.take_append_drop]
  rw [this, List.length_append]
  omega
theorem part_le {l : List Pt} {i : Nat} (h : i < l.length) : l[i].2.2.length ≤ (jn l).length := by
  have h1 := jn_le l (i + 1)
  rw [jn_take h, List.length_append] at h1
  omega
noncomputable abbrev fJn : Func := Tryd.f24
/-- The hint at a part's load. -/
def ldH (a : Option Addr) (c : Nat) (p : List Int) : Hint := { c := some [.v (.slice a p.length c), .arr .u8 p] }
def jS0 (vs : List Value) (cap : Nat) : St := { tm := tmL 17 [(3, ofV (.slice none 0 0)), (6, .av (.one (.s 0 0 vs.length cap))), (7, ofV (.int .i64 vs.length)), (8, ofV (.int .i64 0))], hp := [(0, ⟨2, 0, [.vs vs]⟩)], nx := 1, gl := [] }
def jS (vs : List Value) (cap : Nat) (o : List Int) (L : Nat) (i : Int) : St := { tm := tmL 17 [(3, .av (.one (.r 1 0 L 0))), (6, .av (.one (.s 0 0 vs.length cap))), (7, ofV (.int .i64 vs.length)), (8, ofV (.int .i64 i))], hp := [(0, ⟨2, 0, [.vs vs]⟩), (1, ⟨1, 5, [.arr .u8 o]⟩)], nx := 2, gl := [] }
def jE (o : List Int) (L : Nat) : St := { tm := tmL 17 [(2, .av (.one (.r 0 0 L 0)))], hp := [(0, ⟨1, 5, [.arr .u8 o]⟩)], nx := 1, gl := [] }
theorem j_start (κ : Nat → Value) (vs : List Value) (cap : Nat) : runF tyT [] noH [] 0 [0] [3, 6, 7, 8] fJn (bA [.ro cap vs] 0 0) (bH κ [.ro cap vs] 0 0) 1 [] = some (toAt fJn 3 [], jS0 vs cap, []) := by kernel_rfl
theorem j_go (vs : List Value) (cap : Nat) (o p : List Int) (a : Option Addr) (c L i k_ : Nat) : runN tyT [] (atH 3 0 (isB true) (atH 4 0 symH (atH 4 1 (ldH a c p) (atH 5 2 symH (atH 6 0 (isI .i64 ((i + 1 : Nat) : Int)) noH))))) [] 2000 0 [0, 3] [3, 6, 7, 8] (inAt fJn 3 [] k_) (jS vs cap o L i) = some (hdAt fJn 3 [] k_, jS vs cap (o ++ List.take p.length p) (widths [Seg.arr .u8 o] + p.length) ((i + 1 : Nat) : Int), [tB (decide ((i : Int) < (vs.length : Int))) true, 0 + vs.length ≤ widths [Seg.vs vs], 0 ≤ (i : Int) ∧ (i : Int).toNat ≤ vs.length - 1, 1 ≤ vs.length, ∀ ρ : Nat → Loc, (segsVals ρ [Seg.vs vs])[i]? = some (.slice a p.length c), TabRow GT.tab a p.length c .u8 p, L = widths [Seg.arr .u8 o], 0 + p.length ≤ widths [Seg.arr .u8 p], (widths [Seg.arr .u8 o] + p.length) * 2 ≤ 140737488355328, tI .i64 (IntKind.wrap .i64 ((i : Int) + 1)) ((i + 1 : Nat) : Int)]) := by kernel_rfl
/-- The hint at the load of a part that is nothing, wherever it lies. -/
def ldZ (a : Option Addr) : Hint := { c := some [.v (.slice a 0 0)] }
theorem j_goZ (vs : List Value) (cap : Nat) (o : List Int) (a : Option Addr) (L i k_ : Nat) : runN tyT [] (atH 3 0 (isB true) (atH 4 0 symH (atH 4 1 (ldZ a) (atH 5 2 symH (atH 6 0 (isI .i64 ((i + 1 : Nat) : Int)) noH))))) [] 2000 0 [0, 1] [3, 6, 7, 8] (inAt fJn 3 [] k_) (jS vs cap o L i) = some (hdAt fJn 3 [] k_, jS vs cap o L ((i + 1 : Nat) : Int), [tB (decide ((i : Int) < (vs.length : Int))) true, 0 + vs.length ≤ widths [Seg.vs vs], 0 ≤ (i : Int) ∧ (i : Int).toNat ≤ vs.length - 1, 1 ≤ vs.length, ∀ ρ : Nat → Loc, (segsVals ρ [Seg.vs vs])[i]? = some (.slice a 0 0), L = widths [Seg.arr .u8 o], tI .i64 (IntKind.wrap .i64 ((i : Int) + 1)) ((i + 1 : Nat) : Int)]) := by kernel_rfl
theorem j_end (vs : List Value) (cap : Nat) (o : List Int) (L i k_ : Nat) : runN tyT [] (atH 3 0 (isB false) noH) [] 2000 0 [1] [2] (inAt fJn 3 [] k_) (jS vs cap o L i) = some ([.fin], jE o L, [tB (decide ((i : Int) < (vs.length : Int))) false]) := by kernel_rfl
theorem vs_get (vs : List Value) (i : Nat) (x : Value) (h : vs[i]? = some x) : ∀ ρ : Nat → Loc, (segsVals ρ [Seg.vs vs])[i]? = some x := fun ρ => by
  rw [segsVals_one]
  exact h
theorem vs_w (vs : List Value) : widths [Seg.vs vs] = vs.length := by
  show vs.length + 0 = _
  rw [Nat.add_zero]
theorem j_rounds (l : List Pt) (hl : PtsOK l) (ht : (jn l).length ≤ 2000000) (hn : l.length ≤ 2000000) (cap : Nat) : ∀ (k i : Nat), i + k = l.length → Reaches Tryd.prog 0 (hdAt fJn 3 [] (k + 1)) (jS (pv l) cap (jn (l.take i)) (jn (l.take i)).length i) [.fin] (jE (jn l) (jn l).length)
  | 0, i, e => by
    obtain rfl : i = l.length := by omega
    rw [List.take_length]
    refine Reaches.oneK (Reaches.runK tyT_ok nil_ok mixed_ (j_end (pv l) cap (jn l) (jn l).length l.length 0) ⟨tB_nlt.2 (by rw [pv_len]; omega), trivial⟩)
  | k + 1, i, e => by
    have hi : i < l.length := by omega
    have hp := part_le hi
    have h1 := jn_le l i
    have ih := j_rounds l hl ht hn cap k (i + 1) (by omega)
    rcases hl _ (List.getElem_mem hi) with hti | ⟨hz0, hz1⟩
    case inr =>
      have hg := pv_get hi
      rw [hz0, hz1] at hg
      have hrun := j_goZ (pv l) cap (jn (l.take i)) l[i].1 (jn (l.take i)).length i (k + 1)
      rw [widths_o, vs_w, pv_len] at hrun
      rw [jn_take hi, hz0, List.append_nil] at ih
      refine (Reaches.oneK (Reaches.runK tyT_ok nil_ok mixed_ hrun ?_)).trans ih
      refine ⟨tB_lt.2 (by omega), by omega, by omega, by omega, vs_get _ _ _ hg, rfl, ?_, trivial⟩
      rw [tI_iff, w64 (by omega) (by omega)]
      omega
    have hrun := j_go (pv l) cap (jn (l.take i)) l[i].2.2 l[i].1 l[i].2.1 (jn (l.take i)).length i (k + 1)
    rw [List.take_length, widths_o, widths_o, vs_w, pv_len, ← List.length_append, ← jn_take hi] at hrun
    refine (Reaches.oneK (Reaches.runK tyT_ok nil_ok mixed_ hrun ?_)).trans ih
    rw [jn_take hi, List.length_append]
    refine ⟨tB_lt.2 (by omega), by omega, by omega, by omega, vs_get _ _ _ (pv_get hi), hti, rfl, by omega, by omega, ?_, trivial⟩
    rw [tI_iff, w64 (by omega) (by omega)]
    omega
def jF (l : List Pt) : List CB → Option BR
  | [.ro _ vs] => some { pre := vs = pv l ∧ PtsOK l ∧ (jn l).length ≤ 2000000 ∧ l.length ≤ 2000000, val := .av (.one (.r 0 0 (jn l).length 0)), new := [⟨1, 5, [.arr .u8 (jn l)]⟩] }
  | _ => none
theorem j_ends (l : List Pt) (cbs : List CB) (r : BR) (hF : jF l cbs = some r) (hp : r.pre) : EndsB Tryd.prog tyT [] fJn cbs r := by
  unfold jF at hF
  split at hF
  · rename_i cap vs
    injection hF with hF
    subst hF
    obtain ⟨rfl, h1, h2, h3⟩ : vs = pv l ∧ PtsOK l ∧ (jn l).length ≤ 2000000 ∧ l.length ≤ 2000000 := hp
    intro κ
    have had : Reaches Tryd.prog 0 (toAt fJn 3 []) (jS0 (pv l) cap) (toAt fJn 3 []) (jS (pv l) cap [] 0 0) := Reaches.adoptK (m := 0) (es := [0, 1]) (ks := [3, 6, 7, 8]) 5 .u8 (t := 3) (by kernel_rfl) (by kernel_rfl)
    have h := ((FromK.run (m0 := 0) tyT_ok nil_ok mixed_ (j_start κ (pv l) cap) trivial).trans had).trans (Reaches.roundsK (l.length + 1) (j_rounds l h1 h2 h3 cap l.length 0 (Nat.zero_add _)))
    exact ⟨[.fin], _, .av (.one (.r 0 0 (jn l).length 0)), [0], .inr rfl, h, by kernel_rfl, by kernel_rfl, by kernel_rfl⟩
  · cases hF
theorem joined_ent (l : List Pt) (sh : List ShB) (hs : sh.length = 1 := by rfl) : EntOK Tryd.prog 24 (entB sh (jF l)) :=
  ok_B tyT_ok Tryd.func24 (by kernel_rfl) (by kernel_rfl) [] (fun x hx => by cases hx) (by rw [hs]; kernel_rfl) (j_ends l)
/-- A part together with nothing that lies anywhere. -/
def ccZB (a : List Int) (y : Option Addr) (cap : Nat) : List CB := [.rs cap [.sl .u8 a, .sg (.v (.slice y 0 0))]]
theorem ccZ_run (a : List Int) (y : Option Addr) (cap : Nat) : runF tyT ccO ccH [(3, 3), (11, 3)] 2 [3] [2] fCC (bA (ccZB a y cap) 0 0) (bH κ0 (ccZB a y cap) 0 0) 2 [] = some ([.fin], ccS 2 (0 + a.length) (bH κ0 (ccZB a y cap) 0 0) ([] ++ a.take a.length), [tB (decide (IntKind.wrap IntKind.i64 (0 + (a.length : Int)) < 0)) false, tB (decide (IntKind.wrap IntKind.i64 (IntKind.wrap IntKind.i64 (0 + (a.length : Int)) + 0) < 0)) false, 0 ≤ IntKind.wrap IntKind.i64 (IntKind.wrap IntKind.i64 (0 + (a.length : Int)) + 0) ∧ IntKind.wrap IntKind.i64 (IntKind.wrap IntKind.i64 (0 + (a.length : Int)) + 0) ≤ 1000000, 0 = 0, 0 + a.length ≤ widths [Seg.arr IntKind.u8 a], (0 + a.length) * 2 ≤ 140737488355328, 0 + a.length = widths [Seg.arr IntKind.u8 ([] ++ a.take a.length)]]) := by kernel_rfl
def ccZF : List CB → Option BR
  | [.rs _ [.sl .u8 a, .sg (.v (.slice _ 0 0))]] => some { pre := a.length ≤ 1000000, val := .av (.one (.r 0 0 a.length 0)), new := [⟨1, 5, [.arr .u8 a]⟩] }
  | _ => none
theorem ccZ_ends (cbs : List CB) (r : BR) (hF : ccZF cbs = some r) (hp : r.pre) : EndsB Tryd.prog tyT [] fCC cbs r := by
  unfold ccZF at hF
  split at hF
  · rename_i cap a y
    injection hF with hF
    subst hF
    have hp : a.length ≤ 1000000 := hp
    have hr := ccZ_run a y cap
    simp only [List.nil_append, List.take_length, widths_o, Int.zero_add, Nat.zero_add, Int.add_zero, wN hp] at hr
    exact fun κ => ⟨_, _, .av (.one (.r 2 0 a.length 0)), [2], .inr rfl, FromK.run tyT_ok ccO_ok mixed_ hr ⟨tB_nlt.2 (by omega), tB_nlt.2 (by omega), ⟨by omega, by omega⟩, trivial, Nat.le_refl _, by omega, trivial, trivial⟩, by kernel_rfl, by kernel_rfl, by kernel_rfl⟩
  · cases hF
theorem concatZ_ent (sh : List ShB) (hs : sh.length = 1 := by rfl) : EntOK Tryd.prog 35 (entB sh ccZF) :=
  ok_B tyT_ok Tryd.func35 (by kernel_rfl) (by kernel_rfl) [] (fun x hx => by cases hx) (by rw [hs]; kernel_rfl) ccZ_ends
noncomputable def fewO (l : List Pt) : List (Nat × Ent) := [(24, entB [.ro] (jF l))]
theorem fewO_ok (l : List Pt) : OOK Tryd.prog (fewO l) := ook_of (l := [(24, entB [.ro] (jF l))]) ⟨joined_ent l _, trivial⟩
end
end Go.Proofs.YtmhmfmnjdbehcaaDoor.Am
