/- The cipher: a block's rounds. Conditions: none. -/
import Derived.Test.YtkoackalpcmhaaaA4
namespace Go.Proofs.Ytkoackalpcmhaaa.Am
set_option linter.unusedVariables false
set_option linter.unusedSimpArgs false
open Go Go.RowKit

def turnH : Nat → Nat → Hint := atH 1 4 symH (atH 1 5 symH (atH 1 10 symH (atH 1 11 symH (atH 1 16 symH (atH 1 17 symH (atH 1 22 symH (atH 1 23 symH noH)))))))
noncomputable def turnE : Ent := inl tyT [] turnH [] 1000 Try.f23 []
theorem turn_ent : EntOK Try.prog 23 turnE := inl_ok tyT_ok (ook_of (l := []) trivial) mixed_ Try.func23 (by kernel_rfl) (by kernel_rfl) []
noncomputable def addE : Ent := inl tyT [(22, eWith)] noH [(1, 5)] 1000 Try.f27 [0]
theorem add_ent : EntOK Try.prog 27 addE := inl_ok tyT_ok (ook_of (l := [(22, eWith)]) ⟨with_ent, trivial⟩) mixed_ Try.func27 (by kernel_rfl) (by kernel_rfl) [0]
noncomputable def rowsE : Ent := inl tyT [] noH [(2, 5), (5, 5)] 1000 Try.f28 [0]
theorem rows_ent : EntOK Try.prog 28 rowsE := inl_ok tyT_ok (ook_of (l := []) trivial) mixed_ Try.func28 (by kernel_rfl) (by kernel_rfl) [0]
noncomputable def bO : List (Nat × Ent) := [(23, turnE), (27, addE), (28, rowsE), (29, eMix)]
theorem bO_ok : OOK Try.prog bO := ook_of ⟨turn_ent, add_ent, rows_ent, mix_ent, trivial⟩

def keyL (n : Nat) (kf : Nat → Int) : List Int := (upTo 0 n).map kf
def bHp (kf : Nat → Int) : List (Nat × Blk) := [(0, ⟨2, 66, [.arr .u8 sbox]⟩), (1, ⟨2, 53, [.p 0 0, .arr .u8 (keyL 240 kf)]⟩)]
def bArgs (bf : Nat → Int) : List SV := [.av (.one (.p 1 0)), .av (.one (.arr .u8 (keyL 16 bf)))]
def bLH : List (Nat × Nat) := [(3, 5), (12, 5), (18, 5), (26, 17)]
noncomputable def bTodo : List AI := match Try.f13.body with
  | some c => todoOf (arun tyT bO noH bLH 1000 [.code c] (start (bArgs fun _ => 0) 86 (bHp fun _ => 0) 2 []))
  | none => []
noncomputable def bX : Code := loopOf bTodo
noncomputable def bK : List AI := restOf bTodo
def piece (g : Nat → Int) (c : Nat) : Seg := .arr .u8 [g (4 * c), g (4 * c + 1), g (4 * c + 2), g (4 * c + 3)]
/-- The state at the rounds' head. -/
def bS (kf g : Nat → Int) (r : Int) : St := { tm := tmL 86 [(0, .av (.one (.p 1 0))), (4, .av (.one (.p 2 0))), (5, .av (.one (.p 3 0))), (7, ofV (.int .i64 r))], hp := bHp kf ++ [(2, ⟨0, 23, [.arr .u8 (List.replicate 16 0)]⟩), (3, ⟨0, 59, [piece g 0, piece g 1, piece g 2, piece g 3]⟩)], nx := 4, gl := [] }
def wk (g kf : Nat → Int) (r c : Nat) : List Int := wx [g (4 * c), g (4 * c + 1), g (4 * c + 2), g (4 * c + 3), kf (16 * r + 4 * c), kf (16 * r + 4 * c + 1), kf (16 * r + 4 * c + 2), kf (16 * r + 4 * c + 3)] 2
/-- A round's words put to it. -/
def gAdd (kf : Nat → Int) (r : Nat) (g : Nat → Int) (i : Nat) : Int := g2 (wk g kf r (i / 4)) (i % 4)
def sb (x : Int) : Int := sbox.getD x.toNat 0
def gRow (g : Nat → Int) (i : Nat) : Int := sb (g (4 * ((i / 4 + i % 4) % 4) + i % 4))
def gMix (g : Nat → Int) (i : Nat) : Int := g2 (mixW (g (4 * (i / 4))) (g (4 * (i / 4) + 1)) (g (4 * (i / 4) + 2)) (g (4 * (i / 4) + 3))) (i % 4)
def bPs (g : Nat → Int) : Nat → Nat → List Prop
  | _, 0 => []
  | i, n + 1 => (0 ≤ g i ∧ (g i).toNat ≤ 255) :: ((g i).toNat < sbox.length) :: bPs g (i + 1) n
theorem b_start (kf bf : Nat → Int) {c : Code} (hc : Try.f13.body = some c) : runN tyT bO noH bLH 1000 2 [3, 4] [0, 4, 5, 7] [.code c] (start (bArgs bf) 86 (bHp kf) 2 []) = some (.code (.loop bX) :: bK, bS kf (gAdd kf 0 bf) 1, []) := by
  have : ∀ d, Try.f13.body = d → (match d with | some c => runN tyT bO noH bLH 1000 2 [3, 4] [0, 4, 5, 7] [.code c] (start (bArgs bf) 86 (bHp kf) 2 []) | none => none) = some (.code (.loop bX) :: bK, bS kf (gAdd kf 0 bf) 1, []) := by
    intro d hd
    subst hd
    kernel_rfl
  exact this _ hc
theorem b_round1 (kf g : Nat → Int) (n : Nat) : runN tyT bO noH bLH 2000 4 [] [0, 4, 5, 7] (.code bX :: .hd n bX :: bK) (bS kf g 1) = some (.hd n bX :: bK, bS kf (gAdd kf 1 (gMix (gRow g))) 2, bPs g 0 16) := by
  kernel_rfl
theorem b_round2 (kf g : Nat → Int) (n : Nat) : runN tyT bO noH bLH 2000 4 [] [0, 4, 5, 7] (.code bX :: .hd n bX :: bK) (bS kf g 2) = some (.hd n bX :: bK, bS kf (gAdd kf 2 (gMix (gRow g))) 3, bPs g 0 16) := by
  kernel_rfl
theorem b_round3 (kf g : Nat → Int) (n : Nat) : runN tyT bO noH bLH 2000 4 [] [0, 4, 5, 7] (.code bX :: .hd n bX :: bK) (bS kf g 3) = some (.hd n bX :: bK, bS kf (gAdd kf 3 (gMix (gRow g))) 4, bPs g 0 16) := by
  kernel_rfl
theorem b_round4 (kf g : Nat → Int) (n : Nat) : runN tyT bO noH bLH 2000 4 [] [0, 4, 5, 7] (.code bX :: .hd n bX :: bK) (bS kf g 4) = some (.hd n bX :: bK, bS kf (gAdd kf 4 (gMix (gRow g))) 5, bPs g 0 16) := by
  kernel_rfl
theorem b_round5 (kf g : Nat → Int) (n : Nat) : runN tyT bO noH bLH 2000 4 [] [0, 4, 5, 7] (.code bX :: .hd n bX :: bK) (bS kf g 5) = some (.hd n bX :: bK, bS kf (gAdd kf 5 (gMix (gRow g))) 6, bPs g 0 16) := by
  kernel_rfl
theorem b_round6 (kf g : Nat → Int) (n : Nat) : runN tyT bO noH bLH 2000 4 [] [0, 4, 5, 7] (.code bX :: .hd n bX :: bK) (bS kf g 6) = some (.hd n bX :: bK, bS kf (gAdd kf 6 (gMix (gRow g))) 7, bPs g 0 16) := by
  kernel_rfl
theorem b_round7 (kf g : Nat → Int) (n : Nat) : runN tyT bO noH bLH 2000 4 [] [0, 4, 5, 7] (.code bX :: .hd n bX :: bK) (bS kf g 7) = some (.hd n bX :: bK, bS kf (gAdd kf 7 (gMix (gRow g))) 8, bPs g 0 16) := by
  kernel_rfl
theorem b_round8 (kf g : Nat → Int) (n : Nat) : runN tyT bO noH bLH 2000 4 [] [0, 4, 5, 7] (.code bX :: .hd n bX :: bK) (bS kf g 8) = some (.hd n bX :: bK, bS kf (gAdd kf 8 (gMix (gRow g))) 9, bPs g 0 16) := by
  kernel_rfl
theorem b_round9 (kf g : Nat → Int) (n : Nat) : runN tyT bO noH bLH 2000 4 [] [0, 4, 5, 7] (.code bX :: .hd n bX :: bK) (bS kf g 9) = some (.hd n bX :: bK, bS kf (gAdd kf 9 (gMix (gRow g))) 10, bPs g 0 16) := by
  kernel_rfl
theorem b_round10 (kf g : Nat → Int) (n : Nat) : runN tyT bO noH bLH 2000 4 [] [0, 4, 5, 7] (.code bX :: .hd n bX :: bK) (bS kf g 10) = some (.hd n bX :: bK, bS kf (gAdd kf 10 (gMix (gRow g))) 11, bPs g 0 16) := by
  kernel_rfl
theorem b_round11 (kf g : Nat → Int) (n : Nat) : runN tyT bO noH bLH 2000 4 [] [0, 4, 5, 7] (.code bX :: .hd n bX :: bK) (bS kf g 11) = some (.hd n bX :: bK, bS kf (gAdd kf 11 (gMix (gRow g))) 12, bPs g 0 16) := by
  kernel_rfl
theorem b_round12 (kf g : Nat → Int) (n : Nat) : runN tyT bO noH bLH 2000 4 [] [0, 4, 5, 7] (.code bX :: .hd n bX :: bK) (bS kf g 12) = some (.hd n bX :: bK, bS kf (gAdd kf 12 (gMix (gRow g))) 13, bPs g 0 16) := by
  kernel_rfl
theorem b_round13 (kf g : Nat → Int) (n : Nat) : runN tyT bO noH bLH 2000 4 [] [0, 4, 5, 7] (.code bX :: .hd n bX :: bK) (bS kf g 13) = some (.hd n bX :: bK, bS kf (gAdd kf 13 (gMix (gRow g))) 14, bPs g 0 16) := by
  kernel_rfl
theorem b_round14 (kf g : Nat → Int) (n : Nat) : runN tyT bO noH bLH 2000 4 [] [0, 4, 5, 7] (.code bX :: .hd n bX :: bK) (bS kf g 14) = some (.hd n bX :: bK, bS kf (gAdd kf 14 (gRow g)) 15, bPs g 0 16) := by
  kernel_rfl
def bEnd (kf g : Nat → Int) : St := { tm := tmL 86 [(4, .av (.one (.p 2 0)))], hp := bHp kf ++ [(2, ⟨0, 23, [.arr .u8 (keyL 16 g)]⟩)], nx := 3, gl := [] }
theorem b_end (kf g : Nat → Int) (n : Nat) : runN tyT bO noH bLH 2000 3 [] [4] (.code bX :: .hd n bX :: bK) (bS kf g 15) = some ([.fin], bEnd kf g, []) := by
  kernel_rfl

theorem u8_wrap (x : Nat) : 0 ≤ IntKind.u8.wrap x ∧ (IntKind.u8.wrap x).toNat ≤ 255 := by
  have : IntKind.u8.wrap (x : Int) = (x : Int) % 256 := by
    simp [IntKind.wrap, IntKind.bits, IntKind.signed]
  rw [this]
  omega
theorem bx_range (a b : Int) : 0 ≤ bx a b ∧ (bx a b).toNat ≤ 255 := u8_wrap _
theorem bPs_ok {g : Nat → Int} (h : ∀ i, 0 ≤ g i ∧ (g i).toNat ≤ 255) : ∀ n i, AllP (bPs g i n)
  | 0, _ => trivial
  | n + 1, i => ⟨h i, by have := (h i).2; have : sbox.length = 256 := by decide +kernel
                         omega, bPs_ok h n (i + 1)⟩
theorem g2_range {l : List Int} (h : ∀ x ∈ l, 0 ≤ x ∧ x.toNat ≤ 255) (i : Nat) : 0 ≤ g2 l i ∧ (g2 l i).toNat ≤ 255 := by
  unfold g2
  rw [List.getD_eq_getElem?_getD]
  cases hx : l[i]? with
  | none => exact ⟨Int.le_refl _, Nat.zero_le _⟩
  | some x => exact h x (List.mem_of_getElem? hx)
theorem gAdd_range (kf : Nat → Int) (r : Nat) (g : Nat → Int) (i : Nat) : 0 ≤ gAdd kf r g i ∧ (gAdd kf r g i).toNat ≤ 255 := by
  unfold gAdd
  refine g2_range (fun x hx => ?_) _
  simp only [wk, wx, List.mem_cons, List.not_mem_nil, or_false] at hx
  rcases hx with rfl | rfl | rfl | rfl <;> exact bx_range _ _
/-- So many rounds. -/
def rnds (kf : Nat → Int) : Nat → Nat → (Nat → Int) → (Nat → Int)
  | _, 0, g => g
  | r, n + 1, g => rnds kf (r + 1) n (gAdd kf r (gMix (gRow g)))
def encG (kf bf : Nat → Int) : Nat → Int := gAdd kf 14 (gRow (rnds kf 1 13 (gAdd kf 0 bf)))
theorem b_reach (kf bf : Nat → Int) {c : Code} (hc : Try.f13.body = some c) : Reaches Try.prog 0 [.code c] (start (bArgs bf) 86 (bHp kf) 2 []) [.fin] (bEnd kf (encG kf bf)) := by
  have hr := fun r g => bPs_ok (gAdd_range kf r g) 16 0
  refine (reach_run tyT_ok bO_ok mixed_ (b_start kf bf hc) trivial rfl).trans (Reaches.loop 15 ?_)
  refine Reaches.round ((reach_run tyT_ok bO_ok mixed_ (b_round1 kf _ 14) (hr _ _) rfl).trans ?_)
  refine Reaches.round ((reach_run tyT_ok bO_ok mixed_ (b_round2 kf _ 13) (hr _ _) rfl).trans ?_)
  refine Reaches.round ((reach_run tyT_ok bO_ok mixed_ (b_round3 kf _ 12) (hr _ _) rfl).trans ?_)
  refine Reaches.round ((reach_run tyT_ok bO_ok mixed_ (b_round4 kf _ 11) (hr _ _) rfl).trans ?_)
  refine Reaches.round ((reach_run tyT_ok bO_ok mixed_ (b_round5 kf _ 10) (hr _ _) rfl).trans ?_)
  refine Reaches.round ((reach_run tyT_ok bO_ok mixed_ (b_round6 kf _ 9) (hr _ _) rfl).trans ?_)
  refine Reaches.round ((reach_run tyT_ok bO_ok mixed_ (b_round7 kf _ 8) (hr _ _) rfl).trans ?_)
  refine Reaches.round ((reach_run tyT_ok bO_ok mixed_ (b_round8 kf _ 7) (hr _ _) rfl).trans ?_)
  refine Reaches.round ((reach_run tyT_ok bO_ok mixed_ (b_round9 kf _ 6) (hr _ _) rfl).trans ?_)
  refine Reaches.round ((reach_run tyT_ok bO_ok mixed_ (b_round10 kf _ 5) (hr _ _) rfl).trans ?_)
  refine Reaches.round ((reach_run tyT_ok bO_ok mixed_ (b_round11 kf _ 4) (hr _ _) rfl).trans ?_)
  refine Reaches.round ((reach_run tyT_ok bO_ok mixed_ (b_round12 kf _ 3) (hr _ _) rfl).trans ?_)
  refine Reaches.round ((reach_run tyT_ok bO_ok mixed_ (b_round13 kf _ 2) (hr _ _) rfl).trans ?_)
  refine Reaches.round ((reach_run tyT_ok bO_ok mixed_ (b_round14 kf _ 1) (hr _ _) rfl).trans ?_)
  exact Reaches.round (reach_run tyT_ok bO_ok mixed_ (b_end kf _ 0) trivial rfl)
end Go.Proofs.Ytkoackalpcmhaaa.Am
