/- The cipher: a key's words. Conditions: none. -/
import Derived.Test.YtkoackalpcmhaaaA5
namespace Go.Proofs.Ytkoackalpcmhaaa.Am
set_option linter.unusedVariables false
set_option linter.unusedSimpArgs false
open Go Go.RowKit

noncomputable def nO : List (Nat × Ent) := [(21, tableE), (24, e1I .u8 tw), (23, turnE), (22, eWith)]
theorem nO_ok : OOK Try.prog nO := ook_of (l := [(21, tableE), (24, e1I .u8 tw), (23, turnE), (22, eWith)]) ⟨table_ent, twice_ent, turn_ent, with_ent, trivial⟩
def nArgs (cap : Nat) : List SV := [.av (.one (.s 0 0 32 cap))]
def nHp (kb : Nat → Int) : List (Nat × Blk) := [(0, ⟨2, 5, [.arr .u8 (keyL 32 kb)]⟩)]
def pieces (W : Nat → Int) (n : Nat) : List Seg := (upTo 0 n).map (piece W)
def nH : Nat → Nat → Hint := atH 9 8 symH noH
noncomputable def nTodo : List AI := match Try.f11.body with
  | some c => todoOf (arun tyT nO nH [] 1000 [.code c] (start (nArgs 32) 89 (nHp fun _ => 0) 1 []))
  | none => []
noncomputable def nX : Code := loopOf nTodo
noncomputable def nK : List AI := restOf nTodo
def nS (kb : Nat → Int) (cap : Nat) (W : Nat → Int) (x : Int) (i : Nat) : St := { tm := tmL 89 [(0, .av (.one (.s 0 0 32 cap))), (4, .av (.one (.p 2 0))), (5, ofV (.int .u8 x)), (14, ofV (.int .i64 i))], hp := nHp kb ++ [(1, ⟨0, 66, [.arr .u8 sbox]⟩), (2, ⟨0, 53, .p 1 0 :: pieces W 60⟩)], nx := 3, gl := [] }
def updW (W : Nat → Int) (i : Nat) (l : List Int) (j : Nat) : Int := if j / 4 = i then g2 l (j % 4) else W j
def w4 (W : Nat → Int) (i : Nat) : List Int := [W (4 * i), W (4 * i + 1), W (4 * i + 2), W (4 * i + 3)]
def newW (kb W : Nat → Int) (x : Int) (i : Nat) : List Int := match Nat.blt i 8 with
  | true => w4 kb i
  | false => match i % 8 with
    | 0 => wx (w4 W (i - 8) ++ wx [sb (W (4 * i - 3)), sb (W (4 * i - 2)), sb (W (4 * i - 1)), sb (W (4 * i - 4)), x, 0, 0, 0] 2) 2
    | 4 => wx (w4 W (i - 8) ++ [sb (W (4 * i - 4)), sb (W (4 * i - 3)), sb (W (4 * i - 2)), sb (W (4 * i - 1))]) 2
    | _ => wx (w4 W (i - 8) ++ w4 W (i - 1)) 2
def newX (x : Int) (i : Nat) : Int := match Nat.blt i 8 with
  | true => x
  | false => match i % 8 with
    | 0 => tw x
    | _ => x
def inR (z : Int) : Prop := 0 ≤ z ∧ z.toNat ≤ 255
def rP (z : Int) : List Prop := [inR z, z.toNat < sbox.length]
def newP (cap : Nat) (W : Nat → Int) (i : Nat) : List Prop := match Nat.blt i 8 with
  | true => [32 ≤ cap, 0 ≤ ((4 * i + 4 : Nat) : Int) ∧ ((4 * i + 4 : Nat) : Int).toNat ≤ cap, 0 ≤ ((4 * i : Nat) : Int) ∧ ((4 * i : Nat) : Int).toNat ≤ ((4 * i + 4 : Nat) : Int).toNat]
  | false => match i % 8 with
    | 0 => rP (W (4 * i - 3)) ++ (rP (W (4 * i - 2)) ++ (rP (W (4 * i - 1)) ++ rP (W (4 * i - 4))))
    | 4 => rP (W (4 * i - 4)) ++ (rP (W (4 * i - 3)) ++ (rP (W (4 * i - 2)) ++ rP (W (4 * i - 1))))
    | _ => []
theorem n_start (kb : Nat → Int) (cap : Nat) {c : Code} (hc : Try.f11.body = some c) : runN tyT nO nH [] 1000 3 [] [0, 4, 5, 14] [.code c] (start (nArgs cap) 89 (nHp kb) 1 []) = some (.code (.loop nX) :: nK, nS kb cap (fun _ => 0) 1 0, []) := by
  have : ∀ d, Try.f11.body = d → (match d with | some c => runN tyT nO nH [] 1000 3 [] [0, 4, 5, 14] [.code c] (start (nArgs cap) 89 (nHp kb) 1 []) | none => none) = some (.code (.loop nX) :: nK, nS kb cap (fun _ => 0) 1 0, []) := by
    intro d hd
    subst hd
    kernel_rfl
  exact this _ hc
theorem n_round0 (kb W : Nat → Int) (cap : Nat) (x : Int) (n : Nat) : runN tyT nO nH [] 2000 3 [] [0, 4, 5, 14] (.code nX :: .hd n nX :: nK) (nS kb cap W x 0) = some (.hd n nX :: nK, nS kb cap (updW W 0 (newW kb W x 0)) (newX x 0) 1, newP cap W 0) := by
  kernel_rfl
theorem n_round1 (kb W : Nat → Int) (cap : Nat) (x : Int) (n : Nat) : runN tyT nO nH [] 2000 3 [] [0, 4, 5, 14] (.code nX :: .hd n nX :: nK) (nS kb cap W x 1) = some (.hd n nX :: nK, nS kb cap (updW W 1 (newW kb W x 1)) (newX x 1) 2, newP cap W 1) := by
  kernel_rfl
theorem n_round2 (kb W : Nat → Int) (cap : Nat) (x : Int) (n : Nat) : runN tyT nO nH [] 2000 3 [] [0, 4, 5, 14] (.code nX :: .hd n nX :: nK) (nS kb cap W x 2) = some (.hd n nX :: nK, nS kb cap (updW W 2 (newW kb W x 2)) (newX x 2) 3, newP cap W 2) := by
  kernel_rfl
theorem n_round3 (kb W : Nat → Int) (cap : Nat) (x : Int) (n : Nat) : runN tyT nO nH [] 2000 3 [] [0, 4, 5, 14] (.code nX :: .hd n nX :: nK) (nS kb cap W x 3) = some (.hd n nX :: nK, nS kb cap (updW W 3 (newW kb W x 3)) (newX x 3) 4, newP cap W 3) := by
  kernel_rfl
theorem n_round4 (kb W : Nat → Int) (cap : Nat) (x : Int) (n : Nat) : runN tyT nO nH [] 2000 3 [] [0, 4, 5, 14] (.code nX :: .hd n nX :: nK) (nS kb cap W x 4) = some (.hd n nX :: nK, nS kb cap (updW W 4 (newW kb W x 4)) (newX x 4) 5, newP cap W 4) := by
  kernel_rfl
theorem n_round5 (kb W : Nat → Int) (cap : Nat) (x : Int) (n : Nat) : runN tyT nO nH [] 2000 3 [] [0, 4, 5, 14] (.code nX :: .hd n nX :: nK) (nS kb cap W x 5) = some (.hd n nX :: nK, nS kb cap (updW W 5 (newW kb W x 5)) (newX x 5) 6, newP cap W 5) := by
  kernel_rfl
theorem n_round6 (kb W : Nat → Int) (cap : Nat) (x : Int) (n : Nat) : runN tyT nO nH [] 2000 3 [] [0, 4, 5, 14] (.code nX :: .hd n nX :: nK) (nS kb cap W x 6) = some (.hd n nX :: nK, nS kb cap (updW W 6 (newW kb W x 6)) (newX x 6) 7, newP cap W 6) := by
  kernel_rfl
theorem n_round7 (kb W : Nat → Int) (cap : Nat) (x : Int) (n : Nat) : runN tyT nO nH [] 2000 3 [] [0, 4, 5, 14] (.code nX :: .hd n nX :: nK) (nS kb cap W x 7) = some (.hd n nX :: nK, nS kb cap (updW W 7 (newW kb W x 7)) (newX x 7) 8, newP cap W 7) := by
  kernel_rfl
theorem n_round8 (kb W : Nat → Int) (cap : Nat) (x : Int) (n : Nat) : runN tyT nO nH [] 2000 3 [] [0, 4, 5, 14] (.code nX :: .hd n nX :: nK) (nS kb cap W x 8) = some (.hd n nX :: nK, nS kb cap (updW W 8 (newW kb W x 8)) (newX x 8) 9, newP cap W 8) := by
  kernel_rfl
theorem n_round9 (kb W : Nat → Int) (cap : Nat) (x : Int) (n : Nat) : runN tyT nO nH [] 2000 3 [] [0, 4, 5, 14] (.code nX :: .hd n nX :: nK) (nS kb cap W x 9) = some (.hd n nX :: nK, nS kb cap (updW W 9 (newW kb W x 9)) (newX x 9) 10, newP cap W 9) := by
  kernel_rfl
theorem n_round10 (kb W : Nat → Int) (cap : Nat) (x : Int) (n : Nat) : runN tyT nO nH [] 2000 3 [] [0, 4, 5, 14] (.code nX :: .hd n nX :: nK) (nS kb cap W x 10) = some (.hd n nX :: nK, nS kb cap (updW W 10 (newW kb W x 10)) (newX x 10) 11, newP cap W 10) := by
  kernel_rfl
theorem n_round11 (kb W : Nat → Int) (cap : Nat) (x : Int) (n : Nat) : runN tyT nO nH [] 2000 3 [] [0, 4, 5, 14] (.code nX :: .hd n nX :: nK) (nS kb cap W x 11) = some (.hd n nX :: nK, nS kb cap (updW W 11 (newW kb W x 11)) (newX x 11) 12, newP cap W 11) := by
  kernel_rfl
theorem n_round12 (kb W : Nat → Int) (cap : Nat) (x : Int) (n : Nat) : runN tyT nO nH [] 2000 3 [] [0, 4, 5, 14] (.code nX :: .hd n nX :: nK) (nS kb cap W x 12) = some (.hd n nX :: nK, nS kb cap (updW W 12 (newW kb W x 12)) (newX x 12) 13, newP cap W 12) := by
  kernel_rfl
theorem n_round13 (kb W : Nat → Int) (cap : Nat) (x : Int) (n : Nat) : runN tyT nO nH [] 2000 3 [] [0, 4, 5, 14] (.code nX :: .hd n nX :: nK) (nS kb cap W x 13) = some (.hd n nX :: nK, nS kb cap (updW W 13 (newW kb W x 13)) (newX x 13) 14, newP cap W 13) := by
  kernel_rfl
theorem n_round14 (kb W : Nat → Int) (cap : Nat) (x : Int) (n : Nat) : runN tyT nO nH [] 2000 3 [] [0, 4, 5, 14] (.code nX :: .hd n nX :: nK) (nS kb cap W x 14) = some (.hd n nX :: nK, nS kb cap (updW W 14 (newW kb W x 14)) (newX x 14) 15, newP cap W 14) := by
  kernel_rfl
theorem n_round15 (kb W : Nat → Int) (cap : Nat) (x : Int) (n : Nat) : runN tyT nO nH [] 2000 3 [] [0, 4, 5, 14] (.code nX :: .hd n nX :: nK) (nS kb cap W x 15) = some (.hd n nX :: nK, nS kb cap (updW W 15 (newW kb W x 15)) (newX x 15) 16, newP cap W 15) := by
  kernel_rfl
theorem n_round16 (kb W : Nat → Int) (cap : Nat) (x : Int) (n : Nat) : runN tyT nO nH [] 2000 3 [] [0, 4, 5, 14] (.code nX :: .hd n nX :: nK) (nS kb cap W x 16) = some (.hd n nX :: nK, nS kb cap (updW W 16 (newW kb W x 16)) (newX x 16) 17, newP cap W 16) := by
  kernel_rfl
theorem n_round17 (kb W : Nat → Int) (cap : Nat) (x : Int) (n : Nat) : runN tyT nO nH [] 2000 3 [] [0, 4, 5, 14] (.code nX :: .hd n nX :: nK) (nS kb cap W x 17) = some (.hd n nX :: nK, nS kb cap (updW W 17 (newW kb W x 17)) (newX x 17) 18, newP cap W 17) := by
  kernel_rfl
theorem n_round18 (kb W : Nat → Int) (cap : Nat) (x : Int) (n : Nat) : runN tyT nO nH [] 2000 3 [] [0, 4, 5, 14] (.code nX :: .hd n nX :: nK) (nS kb cap W x 18) = some (.hd n nX :: nK, nS kb cap (updW W 18 (newW kb W x 18)) (newX x 18) 19, newP cap W 18) := by
  kernel_rfl
theorem n_round19 (kb W : Nat → Int) (cap : Nat) (x : Int) (n : Nat) : runN tyT nO nH [] 2000 3 [] [0, 4, 5, 14] (.code nX :: .hd n nX :: nK) (nS kb cap W x 19) = some (.hd n nX :: nK, nS kb cap (updW W 19 (newW kb W x 19)) (newX x 19) 20, newP cap W 19) := by
  kernel_rfl
theorem n_round20 (kb W : Nat → Int) (cap : Nat) (x : Int) (n : Nat) : runN tyT nO nH [] 2000 3 [] [0, 4, 5, 14] (.code nX :: .hd n nX :: nK) (nS kb cap W x 20) = some (.hd n nX :: nK, nS kb cap (updW W 20 (newW kb W x 20)) (newX x 20) 21, newP cap W 20) := by
  kernel_rfl
theorem n_round21 (kb W : Nat → Int) (cap : Nat) (x : Int) (n : Nat) : runN tyT nO nH [] 2000 3 [] [0, 4, 5, 14] (.code nX :: .hd n nX :: nK) (nS kb cap W x 21) = some (.hd n nX :: nK, nS kb cap (updW W 21 (newW kb W x 21)) (newX x 21) 22, newP cap W 21) := by
  kernel_rfl
theorem n_round22 (kb W : Nat → Int) (cap : Nat) (x : Int) (n : Nat) : runN tyT nO nH [] 2000 3 [] [0, 4, 5, 14] (.code nX :: .hd n nX :: nK) (nS kb cap W x 22) = some (.hd n nX :: nK, nS kb cap (updW W 22 (newW kb W x 22)) (newX x 22) 23, newP cap W 22) := by
  kernel_rfl
theorem n_round23 (kb W : Nat → Int) (cap : Nat) (x : Int) (n : Nat) : runN tyT nO nH [] 2000 3 [] [0, 4, 5, 14] (.code nX :: .hd n nX :: nK) (nS kb cap W x 23) = some (.hd n nX :: nK, nS kb cap (updW W 23 (newW kb W x 23)) (newX x 23) 24, newP cap W 23) := by
  kernel_rfl
theorem n_round24 (kb W : Nat → Int) (cap : Nat) (x : Int) (n : Nat) : runN tyT nO nH [] 2000 3 [] [0, 4, 5, 14] (.code nX :: .hd n nX :: nK) (nS kb cap W x 24) = some (.hd n nX :: nK, nS kb cap (updW W 24 (newW kb W x 24)) (newX x 24) 25, newP cap W 24) := by
  kernel_rfl
theorem n_round25 (kb W : Nat → Int) (cap : Nat) (x : Int) (n : Nat) : runN tyT nO nH [] 2000 3 [] [0, 4, 5, 14] (.code nX :: .hd n nX :: nK) (nS kb cap W x 25) = some (.hd n nX :: nK, nS kb cap (updW W 25 (newW kb W x 25)) (newX x 25) 26, newP cap W 25) := by
  kernel_rfl
theorem n_round26 (kb W : Nat → Int) (cap : Nat) (x : Int) (n : Nat) : runN tyT nO nH [] 2000 3 [] [0, 4, 5, 14] (.code nX :: .hd n nX :: nK) (nS kb cap W x 26) = some (.hd n nX :: nK, nS kb cap (updW W 26 (newW kb W x 26)) (newX x 26) 27, newP cap W 26) := by
  kernel_rfl
theorem n_round27 (kb W : Nat → Int) (cap : Nat) (x : Int) (n : Nat) : runN tyT nO nH [] 2000 3 [] [0, 4, 5, 14] (.code nX :: .hd n nX :: nK) (nS kb cap W x 27) = some (.hd n nX :: nK, nS kb cap (updW W 27 (newW kb W x 27)) (newX x 27) 28, newP cap W 27) := by
  kernel_rfl
theorem n_round28 (kb W : Nat → Int) (cap : Nat) (x : Int) (n : Nat) : runN tyT nO nH [] 2000 3 [] [0, 4, 5, 14] (.code nX :: .hd n nX :: nK) (nS kb cap W x 28) = some (.hd n nX :: nK, nS kb cap (updW W 28 (newW kb W x 28)) (newX x 28) 29, newP cap W 28) := by
  kernel_rfl
theorem n_round29 (kb W : Nat → Int) (cap : Nat) (x : Int) (n : Nat) : runN tyT nO nH [] 2000 3 [] [0, 4, 5, 14] (.code nX :: .hd n nX :: nK) (nS kb cap W x 29) = some (.hd n nX :: nK, nS kb cap (updW W 29 (newW kb W x 29)) (newX x 29) 30, newP cap W 29) := by
  kernel_rfl
theorem n_round30 (kb W : Nat → Int) (cap : Nat) (x : Int) (n : Nat) : runN tyT nO nH [] 2000 3 [] [0, 4, 5, 14] (.code nX :: .hd n nX :: nK) (nS kb cap W x 30) = some (.hd n nX :: nK, nS kb cap (updW W 30 (newW kb W x 30)) (newX x 30) 31, newP cap W 30) := by
  kernel_rfl
theorem n_round31 (kb W : Nat → Int) (cap : Nat) (x : Int) (n : Nat) : runN tyT nO nH [] 2000 3 [] [0, 4, 5, 14] (.code nX :: .hd n nX :: nK) (nS kb cap W x 31) = some (.hd n nX :: nK, nS kb cap (updW W 31 (newW kb W x 31)) (newX x 31) 32, newP cap W 31) := by
  kernel_rfl
theorem n_round32 (kb W : Nat → Int) (cap : Nat) (x : Int) (n : Nat) : runN tyT nO nH [] 2000 3 [] [0, 4, 5, 14] (.code nX :: .hd n nX :: nK) (nS kb cap W x 32) = some (.hd n nX :: nK, nS kb cap (updW W 32 (newW kb W x 32)) (newX x 32) 33, newP cap W 32) := by
  kernel_rfl
theorem n_round33 (kb W : Nat → Int) (cap : Nat) (x : Int) (n : Nat) : runN tyT nO nH [] 2000 3 [] [0, 4, 5, 14] (.code nX :: .hd n nX :: nK) (nS kb cap W x 33) = some (.hd n nX :: nK, nS kb cap (updW W 33 (newW kb W x 33)) (newX x 33) 34, newP cap W 33) := by
  kernel_rfl
theorem n_round34 (kb W : Nat → Int) (cap : Nat) (x : Int) (n : Nat) : runN tyT nO nH [] 2000 3 [] [0, 4, 5, 14] (.code nX :: .hd n nX :: nK) (nS kb cap W x 34) = some (.hd n nX :: nK, nS kb cap (updW W 34 (newW kb W x 34)) (newX x 34) 35, newP cap W 34) := by
  kernel_rfl
theorem n_round35 (kb W : Nat → Int) (cap : Nat) (x : Int) (n : Nat) : runN tyT nO nH [] 2000 3 [] [0, 4, 5, 14] (.code nX :: .hd n nX :: nK) (nS kb cap W x 35) = some (.hd n nX :: nK, nS kb cap (updW W 35 (newW kb W x 35)) (newX x 35) 36, newP cap W 35) := by
  kernel_rfl
theorem n_round36 (kb W : Nat → Int) (cap : Nat) (x : Int) (n : Nat) : runN tyT nO nH [] 2000 3 [] [0, 4, 5, 14] (.code nX :: .hd n nX :: nK) (nS kb cap W x 36) = some (.hd n nX :: nK, nS kb cap (updW W 36 (newW kb W x 36)) (newX x 36) 37, newP cap W 36) := by
  kernel_rfl
theorem n_round37 (kb W : Nat → Int) (cap : Nat) (x : Int) (n : Nat) : runN tyT nO nH [] 2000 3 [] [0, 4, 5, 14] (.code nX :: .hd n nX :: nK) (nS kb cap W x 37) = some (.hd n nX :: nK, nS kb cap (updW W 37 (newW kb W x 37)) (newX x 37) 38, newP cap W 37) := by
  kernel_rfl
theorem n_round38 (kb W : Nat → Int) (cap : Nat) (x : Int) (n : Nat) : runN tyT nO nH [] 2000 3 [] [0, 4, 5, 14] (.code nX :: .hd n nX :: nK) (nS kb cap W x 38) = some (.hd n nX :: nK, nS kb cap (updW W 38 (newW kb W x 38)) (newX x 38) 39, newP cap W 38) := by
  kernel_rfl
theorem n_round39 (kb W : Nat → Int) (cap : Nat) (x : Int) (n : Nat) : runN tyT nO nH [] 2000 3 [] [0, 4, 5, 14] (.code nX :: .hd n nX :: nK) (nS kb cap W x 39) = some (.hd n nX :: nK, nS kb cap (updW W 39 (newW kb W x 39)) (newX x 39) 40, newP cap W 39) := by
  kernel_rfl
theorem n_round40 (kb W : Nat → Int) (cap : Nat) (x : Int) (n : Nat) : runN tyT nO nH [] 2000 3 [] [0, 4, 5, 14] (.code nX :: .hd n nX :: nK) (nS kb cap W x 40) = some (.hd n nX :: nK, nS kb cap (updW W 40 (newW kb W x 40)) (newX x 40) 41, newP cap W 40) := by
  kernel_rfl
theorem n_round41 (kb W : Nat → Int) (cap : Nat) (x : Int) (n : Nat) : runN tyT nO nH [] 2000 3 [] [0, 4, 5, 14] (.code nX :: .hd n nX :: nK) (nS kb cap W x 41) = some (.hd n nX :: nK, nS kb cap (updW W 41 (newW kb W x 41)) (newX x 41) 42, newP cap W 41) := by
  kernel_rfl
theorem n_round42 (kb W : Nat → Int) (cap : Nat) (x : Int) (n : Nat) : runN tyT nO nH [] 2000 3 [] [0, 4, 5, 14] (.code nX :: .hd n nX :: nK) (nS kb cap W x 42) = some (.hd n nX :: nK, nS kb cap (updW W 42 (newW kb W x 42)) (newX x 42) 43, newP cap W 42) := by
  kernel_rfl
theorem n_round43 (kb W : Nat → Int) (cap : Nat) (x : Int) (n : Nat) : runN tyT nO nH [] 2000 3 [] [0, 4, 5, 14] (.code nX :: .hd n nX :: nK) (nS kb cap W x 43) = some (.hd n nX :: nK, nS kb cap (updW W 43 (newW kb W x 43)) (newX x 43) 44, newP cap W 43) := by
  kernel_rfl
theorem n_round44 (kb W : Nat → Int) (cap : Nat) (x : Int) (n : Nat) : runN tyT nO nH [] 2000 3 [] [0, 4, 5, 14] (.code nX :: .hd n nX :: nK) (nS kb cap W x 44) = some (.hd n nX :: nK, nS kb cap (updW W 44 (newW kb W x 44)) (newX x 44) 45, newP cap W 44) := by
  kernel_rfl
theorem n_round45 (kb W : Nat → Int) (cap : Nat) (x : Int) (n : Nat) : runN tyT nO nH [] 2000 3 [] [0, 4, 5, 14] (.code nX :: .hd n nX :: nK) (nS kb cap W x 45) = some (.hd n nX :: nK, nS kb cap (updW W 45 (newW kb W x 45)) (newX x 45) 46, newP cap W 45) := by
  kernel_rfl
theorem n_round46 (kb W : Nat → Int) (cap : Nat) (x : Int) (n : Nat) : runN tyT nO nH [] 2000 3 [] [0, 4, 5, 14] (.code nX :: .hd n nX :: nK) (nS kb cap W x 46) = some (.hd n nX :: nK, nS kb cap (updW W 46 (newW kb W x 46)) (newX x 46) 47, newP cap W 46) := by
  kernel_rfl
theorem n_round47 (kb W : Nat → Int) (cap : Nat) (x : Int) (n : Nat) : runN tyT nO nH [] 2000 3 [] [0, 4, 5, 14] (.code nX :: .hd n nX :: nK) (nS kb cap W x 47) = some (.hd n nX :: nK, nS kb cap (updW W 47 (newW kb W x 47)) (newX x 47) 48, newP cap W 47) := by
  kernel_rfl
theorem n_round48 (kb W : Nat → Int) (cap : Nat) (x : Int) (n : Nat) : runN tyT nO nH [] 2000 3 [] [0, 4, 5, 14] (.code nX :: .hd n nX :: nK) (nS kb cap W x 48) = some (.hd n nX :: nK, nS kb cap (updW W 48 (newW kb W x 48)) (newX x 48) 49, newP cap W 48) := by
  kernel_rfl
theorem n_round49 (kb W : Nat → Int) (cap : Nat) (x : Int) (n : Nat) : runN tyT nO nH [] 2000 3 [] [0, 4, 5, 14] (.code nX :: .hd n nX :: nK) (nS kb cap W x 49) = some (.hd n nX :: nK, nS kb cap (updW W 49 (newW kb W x 49)) (newX x 49) 50, newP cap W 49) := by
  kernel_rfl
theorem n_round50 (kb W : Nat → Int) (cap : Nat) (x : Int) (n : Nat) : runN tyT nO nH [] 2000 3 [] [0, 4, 5, 14] (.code nX :: .hd n nX :: nK) (nS kb cap W x 50) = some (.hd n nX :: nK, nS kb cap (updW W 50 (newW kb W x 50)) (newX x 50) 51, newP cap W 50) := by
  kernel_rfl
theorem n_round51 (kb W : Nat → Int) (cap : Nat) (x : Int) (n : Nat) : runN tyT nO nH [] 2000 3 [] [0, 4, 5, 14] (.code nX :: .hd n nX :: nK) (nS kb cap W x 51) = some (.hd n nX :: nK, nS kb cap (updW W 51 (newW kb W x 51)) (newX x 51) 52, newP cap W 51) := by
  kernel_rfl
theorem n_round52 (kb W : Nat → Int) (cap : Nat) (x : Int) (n : Nat) : runN tyT nO nH [] 2000 3 [] [0, 4, 5, 14] (.code nX :: .hd n nX :: nK) (nS kb cap W x 52) = some (.hd n nX :: nK, nS kb cap (updW W 52 (newW kb W x 52)) (newX x 52) 53, newP cap W 52) := by
  kernel_rfl
theorem n_round53 (kb W : Nat → Int) (cap : Nat) (x : Int) (n : Nat) : runN tyT nO nH [] 2000 3 [] [0, 4, 5, 14] (.code nX :: .hd n nX :: nK) (nS kb cap W x 53) = some (.hd n nX :: nK, nS kb cap (updW W 53 (newW kb W x 53)) (newX x 53) 54, newP cap W 53) := by
  kernel_rfl
theorem n_round54 (kb W : Nat → Int) (cap : Nat) (x : Int) (n : Nat) : runN tyT nO nH [] 2000 3 [] [0, 4, 5, 14] (.code nX :: .hd n nX :: nK) (nS kb cap W x 54) = some (.hd n nX :: nK, nS kb cap (updW W 54 (newW kb W x 54)) (newX x 54) 55, newP cap W 54) := by
  kernel_rfl
theorem n_round55 (kb W : Nat → Int) (cap : Nat) (x : Int) (n : Nat) : runN tyT nO nH [] 2000 3 [] [0, 4, 5, 14] (.code nX :: .hd n nX :: nK) (nS kb cap W x 55) = some (.hd n nX :: nK, nS kb cap (updW W 55 (newW kb W x 55)) (newX x 55) 56, newP cap W 55) := by
  kernel_rfl
theorem n_round56 (kb W : Nat → Int) (cap : Nat) (x : Int) (n : Nat) : runN tyT nO nH [] 2000 3 [] [0, 4, 5, 14] (.code nX :: .hd n nX :: nK) (nS kb cap W x 56) = some (.hd n nX :: nK, nS kb cap (updW W 56 (newW kb W x 56)) (newX x 56) 57, newP cap W 56) := by
  kernel_rfl
theorem n_round57 (kb W : Nat → Int) (cap : Nat) (x : Int) (n : Nat) : runN tyT nO nH [] 2000 3 [] [0, 4, 5, 14] (.code nX :: .hd n nX :: nK) (nS kb cap W x 57) = some (.hd n nX :: nK, nS kb cap (updW W 57 (newW kb W x 57)) (newX x 57) 58, newP cap W 57) := by
  kernel_rfl
theorem n_round58 (kb W : Nat → Int) (cap : Nat) (x : Int) (n : Nat) : runN tyT nO nH [] 2000 3 [] [0, 4, 5, 14] (.code nX :: .hd n nX :: nK) (nS kb cap W x 58) = some (.hd n nX :: nK, nS kb cap (updW W 58 (newW kb W x 58)) (newX x 58) 59, newP cap W 58) := by
  kernel_rfl
theorem n_round59 (kb W : Nat → Int) (cap : Nat) (x : Int) (n : Nat) : runN tyT nO nH [] 2000 3 [] [0, 4, 5, 14] (.code nX :: .hd n nX :: nK) (nS kb cap W x 59) = some (.hd n nX :: nK, nS kb cap (updW W 59 (newW kb W x 59)) (newX x 59) 60, newP cap W 59) := by
  kernel_rfl
def nEnd (kb W : Nat → Int) : St := { tm := tmL 89 [(2, .av (.one (.p 2 0))), (3, ofV (.int .i64 0))], hp := nHp kb ++ [(1, ⟨0, 66, [.arr .u8 sbox]⟩), (2, ⟨0, 53, .p 1 0 :: pieces W 60⟩)], nx := 3, gl := [] }
theorem n_end (kb W : Nat → Int) (cap : Nat) (x : Int) (n : Nat) : runN tyT nO nH [] 2000 3 [] [2, 3] (.code nX :: .hd n nX :: nK) (nS kb cap W x 60) = some ([.fin], nEnd kb W, []) := by
  kernel_rfl
end Go.Proofs.Ytkoackalpcmhaaa.Am
