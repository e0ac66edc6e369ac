/- The cipher: the reference's Next, and that it is Next. Conditions: none. -/
import Derived.Test.YtkoackalpcmhaaaZ5
set_option linter.unusedSectionVars false
namespace Go.Proofs.Ytkoackalpcmhaaa.Am
set_option linter.unusedVariables false
set_option linter.unusedSimpArgs false
open Go Go.RowKit
variable [GT]

omit [GT] in
def setAt (bf : Nat → Int) (p : Nat) (v : Int) (j : Nat) : Int := if j = p then v else bf j
omit [GT] in
def inR' (z : Int) : Prop := 0 ≤ z ∧ z.toNat ≤ 255
omit [GT] in
def cN (z c : Int) : Int := IntKind.i64.wrap (IntKind.i64.wrap z + c)
omit [GT] in
def rG : Nat → Nat → Int → (Nat → Int) → (Nat → Int)
  | 0, _, _, bf => bf
  | n + 1, i, c, bf => rG n (i + 1) (IntKind.i64.wrap ((cN (bf (15 - i)) c).tdiv 256)) (setAt bf (15 - i) (IntKind.u8.wrap ((cN (bf (15 - i)) c).tmod 256)))
omit [GT] in
def rnextL (bs : List Int) : List Int := keyL 16 (rG 16 0 1 (g2 bs))
theorem rnext_run (bf : Nat → Int) : wholeV tyT [] noH [(3, 17)] 1000 Try.f17 [.av (.one (.arr .u8 (keyL 16 bf)))] = some (.av (.one (.arr .u8 (keyL 16 (rG 16 0 1 bf)))), []) := by
  kernel_rfl
theorem rnext_ent : EntOK Try.prog 17 (e16 rnextL) := by
  refine ok_e16 Try.func17 (by kernel_rfl) (by kernel_rfl) fun bs hl ρ w hgw => ?_
  have := am_val tyT_ok nil_ok mixed_ Try.func17 (avs := [.av (.one (.arr .u8 (keyL 16 (g2 bs))))]) (by kernel_rfl) (rnext_run (g2 bs)) trivial (by kernel_rfl) (by kernel_rfl) ρ w hgw
  rw [keyL_g2 hl] at this
  exact this

theorem i64_small {z : Int} (h : 0 ≤ z) (h' : z < 65536) : IntKind.i64.wrap z = z := by
  simp [IntKind.wrap, IntKind.bits, IntKind.signed]
  omega
theorem u8_small {z : Int} (h : 0 ≤ z) (h' : z < 256) : IntKind.u8.wrap z = z := by
  simp [IntKind.wrap, IntKind.bits, IntKind.signed]
  omega
theorem u8_eq (z : Int) : IntKind.u8.wrap z = z % 256 := by
  simp [IntKind.wrap, IntKind.bits, IntKind.signed]
theorem cN_small {z c : Int} (h : inR' z) (hc : 0 ≤ c) (hc' : c < 300) : cN z c = z + c := by
  unfold cN
  obtain ⟨h1, h2⟩ := h
  rw [i64_small h1 (by omega), i64_small (by omega) (by omega)]
theorem rG_zero : ∀ (n i : Nat) (bf : Nat → Int), (∀ j, inR' (bf j)) → rG n i 0 bf = bf
  | 0, _, _, _ => rfl
  | n + 1, i, bf, h => by
    have hz := h (15 - i)
    obtain ⟨h1, h2⟩ := hz
    have e : cN (bf (15 - i)) 0 = bf (15 - i) := by rw [cN_small ⟨h1, h2⟩ (by omega) (by omega), Int.add_zero]
    have e2 : setAt bf (15 - i) (IntKind.u8.wrap ((bf (15 - i)).tmod 256)) = bf := by
      funext j
      unfold setAt
      split
      · rename_i hj
        subst hj
        rw [Int.tmod_eq_emod_of_nonneg h1, Int.emod_eq_of_lt h1 (by omega), u8_small h1 (by omega)]
      · rfl
    rw [rG, e, e2, Int.tdiv_eq_ediv_of_nonneg h1, Int.ediv_eq_zero_of_lt h1 (by omega), i64_small (by omega) (by omega)]
    exact rG_zero n (i + 1) bf h
theorem next_rG : ∀ (n i : Nat) (bf : Nat → Int), (∀ j, inR' (bf j)) → nextG n i bf = rG n i 1 bf
  | 0, _, _, _ => rfl
  | n + 1, i, bf, h => by
    obtain ⟨h1, h2⟩ := h (15 - i)
    have e : cN (bf (15 - i)) 1 = bf (15 - i) + 1 := cN_small ⟨h1, h2⟩ (by omega) (by omega)
    have h3 : (0 : Int) ≤ bf (15 - i) + 1 := by omega
    have e2 : setAt bf (15 - i) (IntKind.u8.wrap ((bf (15 - i) + 1).tmod 256)) = incAt bf i := by
      funext j
      unfold setAt incAt inc
      split
      · rename_i hj
        subst hj
        rw [Int.tmod_eq_emod_of_nonneg h3, u8_eq, u8_eq, Int.emod_emod_of_dvd _ (Int.dvd_refl _)]
      · rfl
    have hin : ∀ j, inR' (incAt bf i j) := fun j => by
      unfold incAt
      split
      · unfold inc
        rw [u8_eq]
        constructor <;> omega
      · exact h j
    rw [nextG, rG, e, e2, Int.tdiv_eq_ediv_of_nonneg h3]
    by_cases h255 : bf (15 - i) = 255
    · have hc : (inc (bf (15 - i)) != 0) = false := by rw [h255]; decide
      rw [hc, if_neg (by decide), h255, show ((255 : Int) + 1) / 256 = 1 by decide, i64_small (by omega) (by omega)]
      exact next_rG n (i + 1) _ hin
    · have hc : (inc (bf (15 - i)) != 0) = true := by
        unfold inc
        rw [u8_small h3 (by omega), bne_iff_ne]
        omega
      rw [hc, if_pos rfl, Int.ediv_eq_zero_of_lt h3 (by omega), i64_small (by omega) (by omega)]
      exact (rG_zero n (i + 1) _ hin).symm
theorem next_eq {bs : List Int} (h : ∀ j, inR' (g2 bs j)) : nextL bs = rnextL bs := by
  unfold nextL rnextL
  rw [next_rG 16 0 _ h]
end Go.Proofs.Ytkoackalpcmhaaa.Am
/- The cipher: a key's words. Conditions: none. -/
namespace Go.Proofs.Ytkoackalpcmhaaa.Am
set_option linter.unusedVariables false
set_option linter.unusedSimpArgs false
open Go Go.RowKit
variable [GT]

omit [GT] in
noncomputable def nO : List (Nat × Ent) := [(21, tableE), (24, e1I .u8 tw), (23, turnE), (22, eWith)]
theorem nO_ok : OOK Try.prog nO := ook_of (l := [(21, tableE), (24, e1I .u8 tw), (23, turnE), (22, eWith)]) ⟨table_ent, twice_ent, turn_ent, with_ent, trivial⟩
omit [GT] in
def nArgs (cap : Nat) : List SV := [.av (.one (.s 0 0 32 cap))]
omit [GT] in
def nHp (kb : Nat → Int) : List (Nat × Blk) := [(0, ⟨2, 5, [.arr .u8 (keyL 32 kb)]⟩)]
omit [GT] in
def pieces (W : Nat → Int) (n : Nat) : List Seg := (upTo 0 n).map (piece W)
omit [GT] in
def nH : Nat → Nat → Hint := atH 9 8 symH noH
omit [GT] in
noncomputable def nTodo : List AI := match Try.f11.body with
  | some c => todoOf (arun tyT nO nH [] 1000 [.code c] (start (nArgs 32) 89 (nHp fun _ => 0) 1 []))
  | none => []
omit [GT] in
noncomputable def nX : Code := loopOf nTodo
omit [GT] in
noncomputable def nK : List AI := restOf nTodo
omit [GT] in
def nS (kb : Nat → Int) (cap : Nat) (W : Nat → Int) (x : Int) (i : Nat) : St := { tm := tmL 89 [(0, .av (.one (.s 0 0 32 cap))), (4, .av (.one (.p 2 0))), (5, ofV (.int .u8 x)), (14, ofV (.int .i64 i))], hp := nHp kb ++ [(1, ⟨0, 66, [.arr .u8 sbox]⟩), (2, ⟨0, 53, .p 1 0 :: pieces W 60⟩)], nx := 3, gl := [] }
omit [GT] in
def updW (W : Nat → Int) (i : Nat) (l : List Int) (j : Nat) : Int := if j / 4 = i then g2 l (j % 4) else W j
omit [GT] in
def w4 (W : Nat → Int) (i : Nat) : List Int := [W (4 * i), W (4 * i + 1), W (4 * i + 2), W (4 * i + 3)]
omit [GT] in
def newW (kb W : Nat → Int) (x : Int) (i : Nat) : List Int := match Nat.blt i 8 with
  | true => w4 kb i
  | false => match i % 8 with
    | 0 => wx (w4 W (i - 8) ++ wx [sb (W (4 * i - 3)), sb (W (4 * i - 2)), sb (W (4 * i - 1)), sb (W (4 * i - 4)), x, 0, 0, 0] 2) 2
    | 4 => wx (w4 W (i - 8) ++ [sb (W (4 * i - 4)), sb (W (4 * i - 3)), sb (W (4 * i - 2)), sb (W (4 * i - 1))]) 2
    | _ => wx (w4 W (i - 8) ++ w4 W (i - 1)) 2
omit [GT] in
def newX (x : Int) (i : Nat) : Int := match Nat.blt i 8 with
  | true => x
  | false => match i % 8 with
    | 0 => tw x
    | _ => x
omit [GT] in
def inR (z : Int) : Prop := 0 ≤ z ∧ z.toNat ≤ 255
omit [GT] in
def rP (z : Int) : List Prop := [inR z, z.toNat < sbox.length]
omit [GT] in
def newP (cap : Nat) (W : Nat → Int) (i : Nat) : List Prop := match Nat.blt i 8 with
  | true => [32 ≤ cap, 0 ≤ ((4 * i + 4 : Nat) : Int) ∧ ((4 * i + 4 : Nat) : Int).toNat ≤ cap, 0 ≤ ((4 * i : Nat) : Int) ∧ ((4 * i : Nat) : Int).toNat ≤ ((4 * i + 4 : Nat) : Int).toNat]
  | false => match i % 8 with
    | 0 => rP (W (4 * i - 3)) ++ (rP (W (4 * i - 2)) ++ (rP (W (4 * i - 1)) ++ rP (W (4 * i - 4))))
    | 4 => rP (W (4 * i - 4)) ++ (rP (W (4 * i - 3)) ++ (rP (W (4 * i - 2)) ++ rP (W (4 * i - 1))))
    | _ => []
theorem n_start (kb : Nat → Int) (cap : Nat) {c : Code} (hc : Try.f11.body = some c) : runN tyT nO nH [] 1000 3 [] [0, 4, 5, 14] [.code c] (start (nArgs cap) 89 (nHp kb) 1 []) = some (.code (.loop nX) :: nK, nS kb cap (fun _ => 0) 1 0, []) := by
  have : ∀ d, Try.f11.body = d → (match d with | some c => runN tyT nO nH [] 1000 3 [] [0, 4, 5, 14] [.code c] (start (nArgs cap) 89 (nHp kb) 1 []) | none => none) = some (.code (.loop nX) :: nK, nS kb cap (fun _ => 0) 1 0, []) := by
    intro d hd
    subst hd
    kernel_rfl
  exact this _ hc
theorem n_round0 (kb W : Nat → Int) (cap : Nat) (x : Int) (n : Nat) : runN tyT nO nH [] 2000 3 [] [0, 4, 5, 14] (.code nX :: .hd n nX :: nK) (nS kb cap W x 0) = some (.hd n nX :: nK, nS kb cap (updW W 0 (newW kb W x 0)) (newX x 0) 1, newP cap W 0) := by
  kernel_rfl
theorem n_round1 (kb W : Nat → Int) (cap : Nat) (x : Int) (n : Nat) : runN tyT nO nH [] 2000 3 [] [0, 4, 5, 14] (.code nX :: .hd n nX :: nK) (nS kb cap W x 1) = some (.hd n nX :: nK, nS kb cap (updW W 1 (newW kb W x 1)) (newX x 1) 2, newP cap W 1) := by
  kernel_rfl
theorem n_round2 (kb W : Nat → Int) (cap : Nat) (x : Int) (n : Nat) : runN tyT nO nH [] 2000 3 [] [0, 4, 5, 14] (.code nX :: .hd n nX :: nK) (nS kb cap W x 2) = some (.hd n nX :: nK, nS kb cap (updW W 2 (newW kb W x 2)) (newX x 2) 3, newP cap W 2) := by
  kernel_rfl
theorem n_round3 (kb W : Nat → Int) (cap : Nat) (x : Int) (n : Nat) : runN tyT nO nH [] 2000 3 [] [0, 4, 5, 14] (.code nX :: .hd n nX :: nK) (nS kb cap W x 3) = some (.hd n nX :: nK, nS kb cap (updW W 3 (newW kb W x 3)) (newX x 3) 4, newP cap W 3) := by
  kernel_rfl
theorem n_round4 (kb W : Nat → Int) (cap : Nat) (x : Int) (n : Nat) : runN tyT nO nH [] 2000 3 [] [0, 4, 5, 14] (.code nX :: .hd n nX :: nK) (nS kb cap W x 4) = some (.hd n nX :: nK, nS kb cap (updW W 4 (newW kb W x 4)) (newX x 4) 5, newP cap W 4) := by
  kernel_rfl
theorem n_round5 (kb W : Nat → Int) (cap : Nat) (x : Int) (n : Nat) : runN tyT nO nH [] 2000 3 [] [0, 4, 5, 14] (.code nX :: .hd n nX :: nK) (nS kb cap W x 5) = some (.hd n nX :: nK, nS kb cap (updW W 5 (newW kb W x 5)) (newX x 5) 6, newP cap W 5) := by
  kernel_rfl
theorem n_round6 (kb W : Nat → Int) (cap : Nat) (x : Int) (n : Nat) : runN tyT nO nH [] 2000 3 [] [0, 4, 5, 14] (.code nX :: .hd n nX :: nK) (nS kb cap W x 6) = some (.hd n nX :: nK, nS kb cap (updW W 6 (newW kb W x 6)) (newX x 6) 7, newP cap W 6) := by
  kernel_rfl
theorem n_round7 (kb W : Nat → Int) (cap : Nat) (x : Int) (n : Nat) : runN tyT nO nH [] 2000 3 [] [0, 4, 5, 14] (.code nX :: .hd n nX :: nK) (nS kb cap W x 7) = some (.hd n nX :: nK, nS kb cap (updW W 7 (newW kb W x 7)) (newX x 7) 8, newP cap W 7) := by
  kernel_rfl
theorem n_round8 (kb W : Nat → Int) (cap : Nat) (x : Int) (n : Nat) : runN tyT nO nH [] 2000 3 [] [0, 4, 5, 14] (.code nX :: .hd n nX :: nK) (nS kb cap W x 8) = some (.hd n nX :: nK, nS kb cap (updW W 8 (newW kb W x 8)) (newX x 8) 9, newP cap W 8) := by
  kernel_rfl
theorem n_round9 (kb W : Nat → Int) (cap : Nat) (x : Int) (n : Nat) : runN tyT nO nH [] 2000 3 [] [0, 4, 5, 14] (.code nX :: .hd n nX :: nK) (nS kb cap W x 9) = some (.hd n nX :: nK, nS kb cap (updW W 9 (newW kb W x 9)) (newX x 9) 10, newP cap W 9) := by
  kernel_rfl
theorem n_round10 (kb W : Nat → Int) (cap : Nat) (x : Int) (n : Nat) : runN tyT nO nH [] 2000 3 [] [0, 4, 5, 14] (.code nX :: .hd n nX :: nK) (nS kb cap W x 10) = some (.hd n nX :: nK, nS kb cap (updW W 10 (newW kb W x 10)) (newX x 10) 11, newP cap W 10) := by
  kernel_rfl
theorem n_round11 (kb W : Nat → Int) (cap : Nat) (x : Int) (n : Nat) : runN tyT nO nH [] 2000 3 [] [0, 4, 5, 14] (.code nX :: .hd n nX :: nK) (nS kb cap W x 11) = some (.hd n nX :: nK, nS kb cap (updW W 11 (newW kb W x 11)) (newX x 11) 12, newP cap W 11) := by
  kernel_rfl
theorem n_round12 (kb W : Nat → Int) (cap : Nat) (x : Int) (n : Nat) : runN tyT nO nH [] 2000 3 [] [0, 4, 5, 14] (.code nX :: .hd n nX :: nK) (nS kb cap W x 12) = some (.hd n nX :: nK, nS kb cap (updW W 12 (newW kb W x 12)) (newX x 12) 13, newP cap W 12) := by
  kernel_rfl
theorem n_round13 (kb W : Nat → Int) (cap : Nat) (x : Int) (n : Nat) : runN tyT nO nH [] 2000 3 [] [0, 4, 5, 14] (.code nX :: .hd n nX :: nK) (nS kb cap W x 13) = some (.hd n nX :: nK, nS kb cap (updW W 13 (newW kb W x 13)) (newX x 13) 14, newP cap W 13) := by
  kernel_rfl
theorem n_round14 (kb W : Nat → Int) (cap : Nat) (x : Int) (n : Nat) : runN tyT nO nH [] 2000 3 [] [0, 4, 5, 14] (.code nX :: .hd n nX :: nK) (nS kb cap W x 14) = some (.hd n nX :: nK, nS kb cap (updW W 14 (newW kb W x 14)) (newX x 14) 15, newP cap W 14) := by
  kernel_rfl
theorem n_round15 (kb W : Nat → Int) (cap : Nat) (x : Int) (n : Nat) : runN tyT nO nH [] 2000 3 [] [0, 4, 5, 14] (.code nX :: .hd n nX :: nK) (nS kb cap W x 15) = some (.hd n nX :: nK, nS kb cap (updW W 15 (newW kb W x 15)) (newX x 15) 16, newP cap W 15) := by
  kernel_rfl
theorem n_round16 (kb W : Nat → Int) (cap : Nat) (x : Int) (n : Nat) : runN tyT nO nH [] 2000 3 [] [0, 4, 5, 14] (.code nX :: .hd n nX :: nK) (nS kb cap W x 16) = some (.hd n nX :: nK, nS kb cap (updW W 16 (newW kb W x 16)) (newX x 16) 17, newP cap W 16) := by
  kernel_rfl
theorem n_round17 (kb W : Nat → Int) (cap : Nat) (x : Int) (n : Nat) : runN tyT nO nH [] 2000 3 [] [0, 4, 5, 14] (.code nX :: .hd n nX :: nK) (nS kb cap W x 17) = some (.hd n nX :: nK, nS kb cap (updW W 17 (newW kb W x 17)) (newX x 17) 18, newP cap W 17) := by
  kernel_rfl
theorem n_round18 (kb W : Nat → Int) (cap : Nat) (x : Int) (n : Nat) : runN tyT nO nH [] 2000 3 [] [0, 4, 5, 14] (.code nX :: .hd n nX :: nK) (nS kb cap W x 18) = some (.hd n nX :: nK, nS kb cap (updW W 18 (newW kb W x 18)) (newX x 18) 19, newP cap W 18) := by
  kernel_rfl
theorem n_round19 (kb W : Nat → Int) (cap : Nat) (x : Int) (n : Nat) : runN tyT nO nH [] 2000 3 [] [0, 4, 5, 14] (.code nX :: .hd n nX :: nK) (nS kb cap W x 19) = some (.hd n nX :: nK, nS kb cap (updW W 19 (newW kb W x 19)) (newX x 19) 20, newP cap W 19) := by
  kernel_rfl
theorem n_round20 (kb W : Nat → Int) (cap : Nat) (x : Int) (n : Nat) : runN tyT nO nH [] 2000 3 [] [0, 4, 5, 14] (.code nX :: .hd n nX :: nK) (nS kb cap W x 20) = some (.hd n nX :: nK, nS kb cap (updW W 20 (newW kb W x 20)) (newX x 20) 21, newP cap W 20) := by
  kernel_rfl
theorem n_round21 (kb W : Nat → Int) (cap : Nat) (x : Int) (n : Nat) : runN tyT nO nH [] 2000 3 [] [0, 4, 5, 14] (.code nX :: .hd n nX :: nK) (nS kb cap W x 21) = some (.hd n nX :: nK, nS kb cap (updW W 21 (newW kb W x 21)) (newX x 21) 22, newP cap W 21) := by
  kernel_rfl
theorem n_round22 (kb W : Nat → Int) (cap : Nat) (x : Int) (n : Nat) : runN tyT nO nH [] 2000 3 [] [0, 4, 5, 14] (.code nX :: .hd n nX :: nK) (nS kb cap W x 22) = some (.hd n nX :: nK, nS kb cap (updW W 22 (newW kb W x 22)) (newX x 22) 23, newP cap W 22) := by
  kernel_rfl
theorem n_round23 (kb W : Nat → Int) (cap : Nat) (x : Int) (n : Nat) : runN tyT nO nH [] 2000 3 [] [0, 4, 5, 14] (.code nX :: .hd n nX :: nK) (nS kb cap W x 23) = some (.hd n nX :: nK, nS kb cap (updW W 23 (newW kb W x 23)) (newX x 23) 24, newP cap W 23) := by
  kernel_rfl
theorem n_round24 (kb W : Nat → Int) (cap : Nat) (x : Int) (n : Nat) : runN tyT nO nH [] 2000 3 [] [0, 4, 5, 14] (.code nX :: .hd n nX :: nK) (nS kb cap W x 24) = some (.hd n nX :: nK, nS kb cap (updW W 24 (newW kb W x 24)) (newX x 24) 25, newP cap W 24) := by
  kernel_rfl
theorem n_round25 (kb W : Nat → Int) (cap : Nat) (x : Int) (n : Nat) : runN tyT nO nH [] 2000 3 [] [0, 4, 5, 14] (.code nX :: .hd n nX :: nK) (nS kb cap W x 25) = some (.hd n nX :: nK, nS kb cap (updW W 25 (newW kb W x 25)) (newX x 25) 26, newP cap W 25) := by
  kernel_rfl
theorem n_round26 (kb W : Nat → Int) (cap : Nat) (x : Int) (n : Nat) : runN tyT nO nH [] 2000 3 [] [0, 4, 5, 14] (.code nX :: .hd n nX :: nK) (nS kb cap W x 26) = some (.hd n nX :: nK, nS kb cap (updW W 26 (newW kb W x 26)) (newX x 26) 27, newP cap W 26) := by
  kernel_rfl
theorem n_round27 (kb W : Nat → Int) (cap : Nat) (x : Int) (n : Nat) : runN tyT nO nH [] 2000 3 [] [0, 4, 5, 14] (.code nX :: .hd n nX :: nK) (nS kb cap W x 27) = some (.hd n nX :: nK, nS kb cap (updW W 27 (newW kb W x 27)) (newX x 27) 28, newP cap W 27) := by
  kernel_rfl
theorem n_round28 (kb W : Nat → Int) (cap : Nat) (x : Int) (n : Nat) : runN tyT nO nH [] 2000 3 [] [0, 4, 5, 14] (.code nX :: .hd n nX :: nK) (nS kb cap W x 28) = some (.hd n nX :: nK, nS kb cap (updW W 28 (newW kb W x 28)) (newX x 28) 29, newP cap W 28) := by
  kernel_rfl
theorem n_round29 (kb W : Nat → Int) (cap : Nat) (x : Int) (n : Nat) : runN tyT nO nH [] 2000 3 [] [0, 4, 5, 14] (.code nX :: .hd n nX :: nK) (nS kb cap W x 29) = some (.hd n nX :: nK, nS kb cap (updW W 29 (newW kb W x 29)) (newX x 29) 30, newP cap W 29) := by
  kernel_rfl
theorem n_round30 (kb W : Nat → Int) (cap : Nat) (x : Int) (n : Nat) : runN tyT nO nH [] 2000 3 [] [0, 4, 5, 14] (.code nX :: .hd n nX :: nK) (nS kb cap W x 30) = some (.hd n nX :: nK, nS kb cap (updW W 30 (newW kb W x 30)) (newX x 30) 31, newP cap W 30) := by
  kernel_rfl
theorem n_round31 (kb W : Nat → Int) (cap : Nat) (x : Int) (n : Nat) : runN tyT nO nH [] 2000 3 [] [0, 4, 5, 14] (.code nX :: .hd n nX :: nK) (nS kb cap W x 31) = some (.hd n nX :: nK, nS kb cap (updW W 31 (newW kb W x 31)) (newX x 31) 32, newP cap W 31) := by
  kernel_rfl
theorem n_round32 (kb W : Nat → Int) (cap : Nat) (x : Int) (n : Nat) : runN tyT nO nH [] 2000 3 [] [0, 4, 5, 14] (.code nX :: .hd n nX :: nK) (nS kb cap W x 32) = some (.hd n nX :: nK, nS kb cap (updW W 32 (newW kb W x 32)) (newX x 32) 33, newP cap W 32) := by
  kernel_rfl
theorem n_round33 (kb W : Nat → Int) (cap : Nat) (x : Int) (n : Nat) : runN tyT nO nH [] 2000 3 [] [0, 4, 5, 14] (.code nX :: .hd n nX :: nK) (nS kb cap W x 33) = some (.hd n nX :: nK, nS kb cap (updW W 33 (newW kb W x 33)) (newX x 33) 34, newP cap W 33) := by
  kernel_rfl
theorem n_round34 (kb W : Nat → Int) (cap : Nat) (x : Int) (n : Nat) : runN tyT nO nH [] 2000 3 [] [0, 4, 5, 14] (.code nX :: .hd n nX :: nK) (nS kb cap W x 34) = some (.hd n nX :: nK, nS kb cap (updW W 34 (newW kb W x 34)) (newX x 34) 35, newP cap W 34) := by
  kernel_rfl
theorem n_round35 (kb W : Nat → Int) (cap : Nat) (x : Int) (n : Nat) : runN tyT nO nH [] 2000 3 [] [0, 4, 5, 14] (.code nX :: .hd n nX :: nK) (nS kb cap W x 35) = some (.hd n nX :: nK, nS kb cap (updW W 35 (newW kb W x 35)) (newX x 35) 36, newP cap W 35) := by
  kernel_rfl
theorem n_round36 (kb W : Nat → Int) (cap : Nat) (x : Int) (n : Nat) : runN tyT nO nH [] 2000 3 [] [0, 4, 5, 14] (.code nX :: .hd n nX :: nK) (nS kb cap W x 36) = some (.hd n nX :: nK, nS kb cap (updW W 36 (newW kb W x 36)) (newX x 36) 37, newP cap W 36) := by
  kernel_rfl
theorem n_round37 (kb W : Nat → Int) (cap : Nat) (x : Int) (n : Nat) : runN tyT nO nH [] 2000 3 [] [0, 4, 5, 14] (.code nX :: .hd n nX :: nK) (nS kb cap W x 37) = some (.hd n nX :: nK, nS kb cap (updW W 37 (newW kb W x 37)) (newX x 37) 38, newP cap W 37) := by
  kernel_rfl
theorem n_round38 (kb W : Nat → Int) (cap : Nat) (x : Int) (n : Nat) : runN tyT nO nH [] 2000 3 [] [0, 4, 5, 14] (.code nX :: .hd n nX :: nK) (nS kb cap W x 38) = some (.hd n nX :: nK, nS kb cap (updW W 38 (newW kb W x 38)) (newX x 38) 39, newP cap W 38) := by
  kernel_rfl
theorem n_round39 (kb W : Nat → Int) (cap : Nat) (x : Int) (n : Nat) : runN tyT nO nH [] 2000 3 [] [0, 4, 5, 14] (.code nX :: .hd n nX :: nK) (nS kb cap W x 39) = some (.hd n nX :: nK, nS kb cap (updW W 39 (newW kb W x 39)) (newX x 39) 40, newP cap W 39) := by
  kernel_rfl
theorem n_round40 (kb W : Nat → Int) (cap : Nat) (x : Int) (n : Nat) : runN tyT nO nH [] 2000 3 [] [0, 4, 5, 14] (.code nX :: .hd n nX :: nK) (nS kb cap W x 40) = some (.hd n nX :: nK, nS kb cap (updW W 40 (newW kb W x 40)) (newX x 40) 41, newP cap W 40) := by
  kernel_rfl
theorem n_round41 (kb W : Nat → Int) (cap : Nat) (x : Int) (n : Nat) : runN tyT nO nH [] 2000 3 [] [0, 4, 5, 14] (.code nX :: .hd n nX :: nK) (nS kb cap W x 41) = some (.hd n nX :: nK, nS kb cap (updW W 41 (newW kb W x 41)) (newX x 41) 42, newP cap W 41) := by
  kernel_rfl
theorem n_round42 (kb W : Nat → Int) (cap : Nat) (x : Int) (n : Nat) : runN tyT nO nH [] 2000 3 [] [0, 4, 5, 14] (.code nX :: .hd n nX :: nK) (nS kb cap W x 42) = some (.hd n nX :: nK, nS kb cap (updW W 42 (newW kb W x 42)) (newX x 42) 43, newP cap W 42) := by
  kernel_rfl
theorem n_round43 (kb W : Nat → Int) (cap : Nat) (x : Int) (n : Nat) : runN tyT nO nH [] 2000 3 [] [0, 4, 5, 14] (.code nX :: .hd n nX :: nK) (nS kb cap W x 43) = some (.hd n nX :: nK, nS kb cap (updW W 43 (newW kb W x 43)) (newX x 43) 44, newP cap W 43) := by
  kernel_rfl
theorem n_round44 (kb W : Nat → Int) (cap : Nat) (x : Int) (n : Nat) : runN tyT nO nH [] 2000 3 [] [0, 4, 5, 14] (.code nX :: .hd n nX :: nK) (nS kb cap W x 44) = some (.hd n nX :: nK, nS kb cap (updW W 44 (newW kb W x 44)) (newX x 44) 45, newP cap W 44) := by
  kernel_rfl
theorem n_round45 (kb W : Nat → Int) (cap : Nat) (x : Int) (n : Nat) : runN tyT nO nH [] 2000 3 [] [0, 4, 5, 14] (.code nX :: .hd n nX :: nK) (nS kb cap W x 45) = some (.hd n nX :: nK, nS kb cap (updW W 45 (newW kb W x 45)) (newX x 45) 46, newP cap W 45) := by
  kernel_rfl
theorem n_round46 (kb W : Nat → Int) (cap : Nat) (x : Int) (n : Nat) : runN tyT nO nH [] 2000 3 [] [0, 4, 5, 14] (.code nX :: .hd n nX :: nK) (nS kb cap W x 46) = some (.hd n nX :: nK, nS kb cap (updW W 46 (newW kb W x 46)) (newX x 46) 47, newP cap W 46) := by
  kernel_rfl
theorem n_round47 (kb W : Nat → Int) (cap : Nat) (x : Int) (n : Nat) : runN tyT nO nH [] 2000 3 [] [0, 4, 5, 14] (.code nX :: .hd n nX :: nK) (nS kb cap W x 47) = some (.hd n nX :: nK, nS kb cap (updW W 47 (newW kb W x 47)) (newX x 47) 48, newP cap W 47) := by
  kernel_rfl
theorem n_round48 (kb W : Nat → Int) (cap : Nat) (x : Int) (n : Nat) : runN tyT nO nH [] 2000 3 [] [0, 4, 5, 14] (.code nX :: .hd n nX :: nK) (nS kb cap W x 48) = some (.hd n nX :: nK, nS kb cap (updW W 48 (newW kb W x 48)) (newX x 48) 49, newP cap W 48) := by
  kernel_rfl
theorem n_round49 (kb W : Nat → Int) (cap : Nat) (x : Int) (n : Nat) : runN tyT nO nH [] 2000 3 [] [0, 4, 5, 14] (.code nX :: .hd n nX :: nK) (nS kb cap W x 49) = some (.hd n nX :: nK, nS kb cap (updW W 49 (newW kb W x 49)) (newX x 49) 50, newP cap W 49) := by
  kernel_rfl
theorem n_round50 (kb W : Nat → Int) (cap : Nat) (x : Int) (n : Nat) : runN tyT nO nH [] 2000 3 [] [0, 4, 5, 14] (.code nX :: .hd n nX :: nK) (nS kb cap W x 50) = some (.hd n nX :: nK, nS kb cap (updW W 50 (newW kb W x 50)) (newX x 50) 51, newP cap W 50) := by
  kernel_rfl
theorem n_round51 (kb W : Nat → Int) (cap : Nat) (x : Int) (n : Nat) : runN tyT nO nH [] 2000 3 [] [0, 4, 5, 14] (.code nX :: .hd n nX :: nK) (nS kb cap W x 51) = some (.hd n nX :: nK, nS kb cap (updW W 51 (newW kb W x 51)) (newX x 51) 52, newP cap W 51) := by
  kernel_rfl
theorem n_round52 (kb W : Nat → Int) (cap : Nat) (x : Int) (n : Nat) : runN tyT nO nH [] 2000 3 [] [0, 4, 5, 14] (.code nX :: .hd n nX :: nK) (nS kb cap W x 52) = some (.hd n nX :: nK, nS kb cap (updW W 52 (newW kb W x 52)) (newX x 52) 53, newP cap W 52) := by
  kernel_rfl
theorem n_round53 (kb W : Nat → Int) (cap : Nat) (x : Int) (n : Nat) : runN tyT nO nH [] 2000 3 [] [0, 4, 5, 14] (.code nX :: .hd n nX :: nK) (nS kb cap W x 53) = some (.hd n nX :: nK, nS kb cap (updW W 53 (newW kb W x 53)) (newX x 53) 54, newP cap W 53) := by
  kernel_rfl
theorem n_round54 (kb W : Nat → Int) (cap : Nat) (x : Int) (n : Nat) : runN tyT nO nH [] 2000 3 [] [0, 4, 5, 14] (.code nX :: .hd n nX :: nK) (nS kb cap W x 54) = some (.hd n nX :: nK, nS kb cap (updW W 54 (newW kb W x 54)) (newX x 54) 55, newP cap W 54) := by
  kernel_rfl
theorem n_round55 (kb W : Nat → Int) (cap : Nat) (x : Int) (n : Nat) : runN tyT nO nH [] 2000 3 [] [0, 4, 5, 14] (.code nX :: .hd n nX :: nK) (nS kb cap W x 55) = some (.hd n nX :: nK, nS kb cap (updW W 55 (newW kb W x 55)) (newX x 55) 56, newP cap W 55) := by
  kernel_rfl
theorem n_round56 (kb W : Nat → Int) (cap : Nat) (x : Int) (n : Nat) : runN tyT nO nH [] 2000 3 [] [0, 4, 5, 14] (.code nX :: .hd n nX :: nK) (nS kb cap W x 56) = some (.hd n nX :: nK, nS kb cap (updW W 56 (newW kb W x 56)) (newX x 56) 57, newP cap W 56) := by
  kernel_rfl
theorem n_round57 (kb W : Nat → Int) (cap : Nat) (x : Int) (n : Nat) : runN tyT nO nH [] 2000 3 [] [0, 4, 5, 14] (.code nX :: .hd n nX :: nK) (nS kb cap W x 57) = some (.hd n nX :: nK, nS kb cap (updW W 57 (newW kb W x 57)) (newX x 57) 58, newP cap W 57) := by
  kernel_rfl
theorem n_round58 (kb W : Nat → Int) (cap : Nat) (x : Int) (n : Nat) : runN tyT nO nH [] 2000 3 [] [0, 4, 5, 14] (.code nX :: .hd n nX :: nK) (nS kb cap W x 58) = some (.hd n nX :: nK, nS kb cap (updW W 58 (newW kb W x 58)) (newX x 58) 59, newP cap W 58) := by
  kernel_rfl
theorem n_round59 (kb W : Nat → Int) (cap : Nat) (x : Int) (n : Nat) : runN tyT nO nH [] 2000 3 [] [0, 4, 5, 14] (.code nX :: .hd n nX :: nK) (nS kb cap W x 59) = some (.hd n nX :: nK, nS kb cap (updW W 59 (newW kb W x 59)) (newX x 59) 60, newP cap W 59) := by
  kernel_rfl
omit [GT] in
def nEnd (kb W : Nat → Int) : St := { tm := tmL 89 [(2, .av (.one (.p 2 0))), (3, ofV (.int .i64 0))], hp := nHp kb ++ [(1, ⟨0, 66, [.arr .u8 sbox]⟩), (2, ⟨0, 53, .p 1 0 :: pieces W 60⟩)], nx := 3, gl := [] }
theorem n_end (kb W : Nat → Int) (cap : Nat) (x : Int) (n : Nat) : runN tyT nO nH [] 2000 3 [] [2, 3] (.code nX :: .hd n nX :: nK) (nS kb cap W x 60) = some ([.fin], nEnd kb W, []) := by
  kernel_rfl
end Go.Proofs.Ytkoackalpcmhaaa.Am
/- The cipher: New's contract. Conditions: none. -/
namespace Go.Proofs.Ytkoackalpcmhaaa.Am
set_option linter.unusedVariables false
set_option linter.unusedSimpArgs false
open Go Go.RowKit
variable [GT]

omit [GT] in
def xsN : Nat → Int
  | 0 => 1
  | i + 1 => newX (xsN i) i
omit [GT] in
def wsN (kb : Nat → Int) : Nat → (Nat → Int)
  | 0 => fun _ => 0
  | i + 1 => updW (wsN kb i) i (newW kb (wsN kb i) (xsN i) i)
theorem wx2_range (l : List Int) : ∀ x ∈ wx l 2, inR x := fun x hx => by
  simp only [wx, List.mem_cons, List.not_mem_nil, or_false] at hx
  rcases hx with rfl | rfl | rfl | rfl <;> exact bx_range _ _
theorem wsN_range {kb : Nat → Int} (hk : ∀ j, j < 32 → inR (kb j)) : ∀ i j, inR (wsN kb i j)
  | 0, j => ⟨Int.le_refl _, Nat.zero_le _⟩
  | i + 1, j => by
    unfold wsN updW
    split
    · refine g2_range (fun x hx => ?_) _
      unfold newW at hx
      split at hx
      · rename_i hi
        have hi : i + 1 ≤ 8 := Nat.le_of_ble_eq_true hi
        simp only [w4, List.mem_cons, List.not_mem_nil, or_false] at hx
        rcases hx with rfl | rfl | rfl | rfl <;> exact hk _ (by omega)
      · split at hx <;> exact wx2_range _ x hx
    · exact wsN_range hk i j
theorem rP_ok {z : Int} (h : inR z) : AllP (rP z) := ⟨h, by have := h.2; have : sbox.length = 256 := by decide +kernel
                                                            omega, trivial⟩
theorem AllP_append : ∀ {l m : List Prop}, AllP l → AllP m → AllP (l ++ m)
  | [], _, _, h => h
  | _ :: _, _, h, k => ⟨h.1, AllP_append h.2 k⟩
theorem newP_ok {cap : Nat} {W : Nat → Int} (hc : 32 ≤ cap) (hW : ∀ j, inR (W j)) (i : Nat) : AllP (newP cap W i) := by
  unfold newP
  split
  · rename_i hi
    have hi : i + 1 ≤ 8 := Nat.le_of_ble_eq_true hi
    exact ⟨hc, ⟨by omega, by omega⟩, ⟨by omega, by omega⟩, trivial⟩
  · split
    · exact AllP_append (rP_ok (hW _)) (AllP_append (rP_ok (hW _)) (AllP_append (rP_ok (hW _)) (rP_ok (hW _))))
    · exact AllP_append (rP_ok (hW _)) (AllP_append (rP_ok (hW _)) (AllP_append (rP_ok (hW _)) (rP_ok (hW _))))
    · trivial
theorem n_step (kb : Nat → Int) (cap : Nat) (hc : 32 ≤ cap) (hk : ∀ j, j < 32 → inR (kb j)) (n : Nat) : ∀ i, i < 60 → Reaches Try.prog 0 (.hd (n + 1) nX :: nK) (nS kb cap (wsN kb i) (xsN i) i) (.hd n nX :: nK) (nS kb cap (wsN kb (i + 1)) (xsN (i + 1)) (i + 1))
  | 0, _ => Reaches.round (reach_run tyT_ok nO_ok mixed_ (n_round0 kb (wsN kb 0) cap (xsN 0) n) (newP_ok hc (wsN_range hk 0) 0) rfl)
  | 1, _ => Reaches.round (reach_run tyT_ok nO_ok mixed_ (n_round1 kb (wsN kb 1) cap (xsN 1) n) (newP_ok hc (wsN_range hk 1) 1) rfl)
  | 2, _ => Reaches.round (reach_run tyT_ok nO_ok mixed_ (n_round2 kb (wsN kb 2) cap (xsN 2) n) (newP_ok hc (wsN_range hk 2) 2) rfl)
  | 3, _ => Reaches.round (reach_run tyT_ok nO_ok mixed_ (n_round3 kb (wsN kb 3) cap (xsN 3) n) (newP_ok hc (wsN_range hk 3) 3) rfl)
  | 4, _ => Reaches.round (reach_run tyT_ok nO_ok mixed_ (n_round4 kb (wsN kb 4) cap (xsN 4) n) (newP_ok hc (wsN_range hk 4) 4) rfl)
  | 5, _ => Reaches.round (reach_run tyT_ok nO_ok mixed_ (n_round5 kb (wsN kb 5) cap (xsN 5) n) (newP_ok hc (wsN_range hk 5) 5) rfl)
  | 6, _ => Reaches.round (reach_run tyT_ok nO_ok mixed_ (n_round6 kb (wsN kb 6) cap (xsN 6) n) (newP_ok hc (wsN_range hk 6) 6) rfl)
  | 7, _ => Reaches.round (reach_run tyT_ok nO_ok mixed_ (n_round7 kb (wsN kb 7) cap (xsN 7) n) (newP_ok hc (wsN_range hk 7) 7) rfl)
  | 8, _ => Reaches.round (reach_run tyT_ok nO_ok mixed_ (n_round8 kb (wsN kb 8) cap (xsN 8) n) (newP_ok hc (wsN_range hk 8) 8) rfl)
  | 9, _ => Reaches.round (reach_run tyT_ok nO_ok mixed_ (n_round9 kb (wsN kb 9) cap (xsN 9) n) (newP_ok hc (wsN_range hk 9) 9) rfl)
  | 10, _ => Reaches.round (reach_run tyT_ok nO_ok mixed_ (n_round10 kb (wsN kb 10) cap (xsN 10) n) (newP_ok hc (wsN_range hk 10) 10) rfl)
  | 11, _ => Reaches.round (reach_run tyT_ok nO_ok mixed_ (n_round11 kb (wsN kb 11) cap (xsN 11) n) (newP_ok hc (wsN_range hk 11) 11) rfl)
  | 12, _ => Reaches.round (reach_run tyT_ok nO_ok mixed_ (n_round12 kb (wsN kb 12) cap (xsN 12) n) (newP_ok hc (wsN_range hk 12) 12) rfl)
  | 13, _ => Reaches.round (reach_run tyT_ok nO_ok mixed_ (n_round13 kb (wsN kb 13) cap (xsN 13) n) (newP_ok hc (wsN_range hk 13) 13) rfl)
  | 14, _ => Reaches.round (reach_run tyT_ok nO_ok mixed_ (n_round14 kb (wsN kb 14) cap (xsN 14) n) (newP_ok hc (wsN_range hk 14) 14) rfl)
  | 15, _ => Reaches.round (reach_run tyT_ok nO_ok mixed_ (n_round15 kb (wsN kb 15) cap (xsN 15) n) (newP_ok hc (wsN_range hk 15) 15) rfl)
  | 16, _ => Reaches.round (reach_run tyT_ok nO_ok mixed_ (n_round16 kb (wsN kb 16) cap (xsN 16) n) (newP_ok hc (wsN_range hk 16) 16) rfl)
  | 17, _ => Reaches.round (reach_run tyT_ok nO_ok mixed_ (n_round17 kb (wsN kb 17) cap (xsN 17) n) (newP_ok hc (wsN_range hk 17) 17) rfl)
  | 18, _ => Reaches.round (reach_run tyT_ok nO_ok mixed_ (n_round18 kb (wsN kb 18) cap (xsN 18) n) (newP_ok hc (wsN_range hk 18) 18) rfl)
  | 19, _ => Reaches.round (reach_run tyT_ok nO_ok mixed_ (n_round19 kb (wsN kb 19) cap (xsN 19) n) (newP_ok hc (wsN_range hk 19) 19) rfl)
  | 20, _ => Reaches.round (reach_run tyT_ok nO_ok mixed_ (n_round20 kb (wsN kb 20) cap (xsN 20) n) (newP_ok hc (wsN_range hk 20) 20) rfl)
  | 21, _ => Reaches.round (reach_run tyT_ok nO_ok mixed_ (n_round21 kb (wsN kb 21) cap (xsN 21) n) (newP_ok hc (wsN_range hk 21) 21) rfl)
  | 22, _ => Reaches.round (reach_run tyT_ok nO_ok mixed_ (n_round22 kb (wsN kb 22) cap (xsN 22) n) (newP_ok hc (wsN_range hk 22) 22) rfl)
  | 23, _ => Reaches.round (reach_run tyT_ok nO_ok mixed_ (n_round23 kb (wsN kb 23) cap (xsN 23) n) (newP_ok hc (wsN_range hk 23) 23) rfl)
  | 24, _ => Reaches.round (reach_run tyT_ok nO_ok mixed_ (n_round24 kb (wsN kb 24) cap (xsN 24) n) (newP_ok hc (wsN_range hk 24) 24) rfl)
  | 25, _ => Reaches.round (reach_run tyT_ok nO_ok mixed_ (n_round25 kb (wsN kb 25) cap (xsN 25) n) (newP_ok hc (wsN_range hk 25) 25) rfl)
  | 26, _ => Reaches.round (reach_run tyT_ok nO_ok mixed_ (n_round26 kb (wsN kb 26) cap (xsN 26) n) (newP_ok hc (wsN_range hk 26) 26) rfl)
  | 27, _ => Reaches.round (reach_run tyT_ok nO_ok mixed_ (n_round27 kb (wsN kb 27) cap (xsN 27) n) (newP_ok hc (wsN_range hk 27) 27) rfl)
  | 28, _ => Reaches.round (reach_run tyT_ok nO_ok mixed_ (n_round28 kb (wsN kb 28) cap (xsN 28) n) (newP_ok hc (wsN_range hk 28) 28) rfl)
  | 29, _ => Reaches.round (reach_run tyT_ok nO_ok mixed_ (n_round29 kb (wsN kb 29) cap (xsN 29) n) (newP_ok hc (wsN_range hk 29) 29) rfl)
  | 30, _ => Reaches.round (reach_run tyT_ok nO_ok mixed_ (n_round30 kb (wsN kb 30) cap (xsN 30) n) (newP_ok hc (wsN_range hk 30) 30) rfl)
  | 31, _ => Reaches.round (reach_run tyT_ok nO_ok mixed_ (n_round31 kb (wsN kb 31) cap (xsN 31) n) (newP_ok hc (wsN_range hk 31) 31) rfl)
  | 32, _ => Reaches.round (reach_run tyT_ok nO_ok mixed_ (n_round32 kb (wsN kb 32) cap (xsN 32) n) (newP_ok hc (wsN_range hk 32) 32) rfl)
  | 33, _ => Reaches.round (reach_run tyT_ok nO_ok mixed_ (n_round33 kb (wsN kb 33) cap (xsN 33) n) (newP_ok hc (wsN_range hk 33) 33) rfl)
  | 34, _ => Reaches.round (reach_run tyT_ok nO_ok mixed_ (n_round34 kb (wsN kb 34) cap (xsN 34) n) (newP_ok hc (wsN_range hk 34) 34) rfl)
  | 35, _ => Reaches.round (reach_run tyT_ok nO_ok mixed_ (n_round35 kb (wsN kb 35) cap (xsN 35) n) (newP_ok hc (wsN_range hk 35) 35) rfl)
  | 36, _ => Reaches.round (reach_run tyT_ok nO_ok mixed_ (n_round36 kb (wsN kb 36) cap (xsN 36) n) (newP_ok hc (wsN_range hk 36) 36) rfl)
  | 37, _ => Reaches.round (reach_run tyT_ok nO_ok mixed_ (n_round37 kb (wsN kb 37) cap (xsN 37) n) (newP_ok hc (wsN_range hk 37) 37) rfl)
  | 38, _ => Reaches.round (reach_run tyT_ok nO_ok mixed_ (n_round38 kb (wsN kb 38) cap (xsN 38) n) (newP_ok hc (wsN_range hk 38) 38) rfl)
  | 39, _ => Reaches.round (reach_run tyT_ok nO_ok mixed_ (n_round39 kb (wsN kb 39) cap (xsN 39) n) (newP_ok hc (wsN_range hk 39) 39) rfl)
  | 40, _ => Reaches.round (reach_run tyT_ok nO_ok mixed_ (n_round40 kb (wsN kb 40) cap (xsN 40) n) (newP_ok hc (wsN_range hk 40) 40) rfl)
  | 41, _ => Reaches.round (reach_run tyT_ok nO_ok mixed_ (n_round41 kb (wsN kb 41) cap (xsN 41) n) (newP_ok hc (wsN_range hk 41) 41) rfl)
  | 42, _ => Reaches.round (reach_run tyT_ok nO_ok mixed_ (n_round42 kb (wsN kb 42) cap (xsN 42) n) (newP_ok hc (wsN_range hk 42) 42) rfl)
  | 43, _ => Reaches.round (reach_run tyT_ok nO_ok mixed_ (n_round43 kb (wsN kb 43) cap (xsN 43) n) (newP_ok hc (wsN_range hk 43) 43) rfl)
  | 44, _ => Reaches.round (reach_run tyT_ok nO_ok mixed_ (n_round44 kb (wsN kb 44) cap (xsN 44) n) (newP_ok hc (wsN_range hk 44) 44) rfl)
  | 45, _ => Reaches.round (reach_run tyT_ok nO_ok mixed_ (n_round45 kb (wsN kb 45) cap (xsN 45) n) (newP_ok hc (wsN_range hk 45) 45) rfl)
  | 46, _ => Reaches.round (reach_run tyT_ok nO_ok mixed_ (n_round46 kb (wsN kb 46) cap (xsN 46) n) (newP_ok hc (wsN_range hk 46) 46) rfl)
  | 47, _ => Reaches.round (reach_run tyT_ok nO_ok mixed_ (n_round47 kb (wsN kb 47) cap (xsN 47) n) (newP_ok hc (wsN_range hk 47) 47) rfl)
  | 48, _ => Reaches.round (reach_run tyT_ok nO_ok mixed_ (n_round48 kb (wsN kb 48) cap (xsN 48) n) (newP_ok hc (wsN_range hk 48) 48) rfl)
  | 49, _ => Reaches.round (reach_run tyT_ok nO_ok mixed_ (n_round49 kb (wsN kb 49) cap (xsN 49) n) (newP_ok hc (wsN_range hk 49) 49) rfl)
  | 50, _ => Reaches.round (reach_run tyT_ok nO_ok mixed_ (n_round50 kb (wsN kb 50) cap (xsN 50) n) (newP_ok hc (wsN_range hk 50) 50) rfl)
  | 51, _ => Reaches.round (reach_run tyT_ok nO_ok mixed_ (n_round51 kb (wsN kb 51) cap (xsN 51) n) (newP_ok hc (wsN_range hk 51) 51) rfl)
  | 52, _ => Reaches.round (reach_run tyT_ok nO_ok mixed_ (n_round52 kb (wsN kb 52) cap (xsN 52) n) (newP_ok hc (wsN_range hk 52) 52) rfl)
  | 53, _ => Reaches.round (reach_run tyT_ok nO_ok mixed_ (n_round53 kb (wsN kb 53) cap (xsN 53) n) (newP_ok hc (wsN_range hk 53) 53) rfl)
  | 54, _ => Reaches.round (reach_run tyT_ok nO_ok mixed_ (n_round54 kb (wsN kb 54) cap (xsN 54) n) (newP_ok hc (wsN_range hk 54) 54) rfl)
  | 55, _ => Reaches.round (reach_run tyT_ok nO_ok mixed_ (n_round55 kb (wsN kb 55) cap (xsN 55) n) (newP_ok hc (wsN_range hk 55) 55) rfl)
  | 56, _ => Reaches.round (reach_run tyT_ok nO_ok mixed_ (n_round56 kb (wsN kb 56) cap (xsN 56) n) (newP_ok hc (wsN_range hk 56) 56) rfl)
  | 57, _ => Reaches.round (reach_run tyT_ok nO_ok mixed_ (n_round57 kb (wsN kb 57) cap (xsN 57) n) (newP_ok hc (wsN_range hk 57) 57) rfl)
  | 58, _ => Reaches.round (reach_run tyT_ok nO_ok mixed_ (n_round58 kb (wsN kb 58) cap (xsN 58) n) (newP_ok hc (wsN_range hk 58) 58) rfl)
  | 59, _ => Reaches.round (reach_run tyT_ok nO_ok mixed_ (n_round59 kb (wsN kb 59) cap (xsN 59) n) (newP_ok hc (wsN_range hk 59) 59) rfl)
  | i + 60, h => by omega
theorem n_steps (kb : Nat → Int) (cap : Nat) (hc : 32 ≤ cap) (hk : ∀ j, j < 32 → inR (kb j)) (n : Nat) : ∀ i, i ≤ 60 → Reaches Try.prog 0 (.hd (n + i) nX :: nK) (nS kb cap (wsN kb 0) (xsN 0) 0) (.hd n nX :: nK) (nS kb cap (wsN kb i) (xsN i) i)
  | 0, _ => Reaches.refl
  | i + 1, h => by
    have := n_steps kb cap hc hk (n + 1) i (by omega)
    rw [show n + 1 + i = n + (i + 1) by omega] at this
    exact this.trans (n_step kb cap hc hk n i (by omega))
theorem n_reach (kb : Nat → Int) (cap : Nat) (hc : 32 ≤ cap) (hk : ∀ j, j < 32 → inR (kb j)) {c : Code} (hb : Try.f11.body = some c) : Reaches Try.prog 0 [.code c] (start (nArgs cap) 89 (nHp kb) 1 []) [.fin] (nEnd kb (wsN kb 60)) :=
  (reach_run tyT_ok nO_ok mixed_ (n_start kb cap hb) trivial rfl).trans (Reaches.loop (1 + 60) ((n_steps kb cap hc hk 1 60 (Nat.le_refl _)).trans (Reaches.round (reach_run tyT_ok nO_ok mixed_ (n_end kb (wsN kb 60) cap (xsN 60) 0) trivial rfl))))
omit [GT] in
/-- The key's words of these bytes. -/
def schedW (zs : List Int) (off : Nat) : Nat → Int := wsN (fun j => g2 zs (off + j)) 60
omit [GT] in
def eNew : Ent := fun args G base => match args with
  | [.av (.one (.s id off n cap))] => match G id with
    | some b => match intsOf .u8 b.c with
      | some zs => match Nat.beq n 32 && Nat.ble (off + 32) zs.length with
        | true => some { val := .tup [.one (.p (base + 1) 0), .one (.v (.int .i64 0))], new := [⟨0, 66, [.arr .u8 sbox]⟩, ⟨0, 53, .p (base + 0) 0 :: pieces (schedW zs off) 60⟩], asm := .say (32 ≤ cap ∧ ∀ j, j < 32 → inR (g2 zs (off + j))) }
        | false => none
      | none => none
    | none => none
  | _ => none
theorem renL_pieces (f : Nat → Nat) (W : Nat → Int) : ∀ l : List Nat, renL f (l.map (piece W)) = l.map (piece W)
  | [] => rfl
  | x :: l => by rw [List.map_cons, renL, renL_pieces f W l]; rfl
theorem new_ent : EntOK Try.prog 11 eNew := by
  refine ⟨⟨_, Try.func11, by kernel_rfl, by kernel_rfl⟩, fun args G base res hr ha ρ D N M w hG hin hfr => ?_⟩
  unfold eNew at hr
  split at hr
  · rename_i id off n cap
    split at hr
    · rename_i b hb
      split at hr
      · rename_i zs hz
        split at hr
        · rename_i hn
          rw [Bool.and_eq_true] at hn
          have e1 := Nat.eq_of_beq_eq_true hn.1
          have hle := Nat.le_of_ble_eq_true hn.2
          subst e1
          simp only [Option.some.injEq] at hr
          subst hr
          obtain ⟨hcap, hk⟩ : 32 ≤ cap ∧ ∀ j, j < 32 → inR (g2 zs (off + j)) := ha
          obtain ⟨kb, hkb⟩ : ∃ kb : Nat → Int, kb = fun j => g2 zs (off + j) := ⟨_, rfl⟩
          have hk' : ∀ j, j < 32 → inR (kb j) := fun j hj => by rw [hkb]; exact hk j hj
          obtain ⟨ρc, hρc⟩ : ∃ ρc : Nat → Loc, ρc = fun _ => ⟨(ρ id).a.map (·.add off), 32⟩ := ⟨_, rfl⟩
          have hv := intsOf_spec ρ _ _ hz
          have hcell : ∀ j, j < 32 → ∃ x, (ρ id).a = some x ∧ w.cell? (x.add (off + j)) = some (.int .u8 (kb j)) := fun j hj => by
            refine (hG.blk id b hb).2.2.cells ?_
            rw [hv, List.getElem?_map, List.getElem?_eq_getElem (by omega), hkb]
            simp [g2, List.getD_eq_getElem?_getD, List.getElem?_eq_getElem (show off + j < zs.length by omega)]
          obtain ⟨y, hy, _⟩ := hcell 0 (by omega)
          have hH : HR ρc (· < 1) w.heap.size [] (look (nHp kb)) w := by
            refine ⟨Nat.le_refl _, fun i b' hb' => ?_, fun i b' x hb' hx => ?_, fun i b' x hb' hk hx => ?_, fun i j bi bj x y hi hj hij hk hx hy => ?_, hG.gwc⟩
            · unfold nHp at hb'
              rw [look_cons] at hb'
              split at hb'
              · rename_i hi
                injection hb' with hb'
                subst hb'
                refine ⟨by omega, (fun s hs => (by simp at hs; subst hs; trivial)), ?_⟩
                show (segsVals ρc [.arr .u8 (keyL 32 kb)]).length ≤ (ρc i).cap ∧ _
                rw [segsVals_one]
                have hl : (Seg.vals ρc (.arr .u8 (keyL 32 kb))) = (keyL 32 kb).map (Value.int .u8) := rfl
                rw [hl, hρc]
                refine ⟨by rw [List.length_map, keyL_len]; exact Nat.le_refl _, .inr ⟨y.add off, by simp only [hy, Option.map_some], fun j u hj => ?_⟩⟩
                have hj32 : j < 32 := by
                  rcases Nat.lt_or_ge j 32 with h | h
                  · exact h
                  · rw [List.getElem?_eq_none (by rw [List.length_map, keyL_len]; exact h)] at hj; cases hj
                rw [List.getElem?_map, keyL_get 32 kb j hj32] at hj
                injection hj with hj
                subst hj
                obtain ⟨y', hy', hc⟩ := hcell j hj32
                rw [hy] at hy'
                injection hy' with hy'
                subst hy'
                rw [add_add]
                exact hc
              · cases hb'
            · rw [hρc] at hx
              simp only [hy, Option.map_some, Option.some.injEq] at hx
              subst hx
              have := hG.lt id b y hb hy
              have e : (y.add off).block = y.block := by unfold Addr.add; split <;> rfl
              rw [e]; exact this
            · unfold nHp at hb'
              rw [look_cons] at hb'
              split at hb'
              · injection hb' with hb'; subst hb'; simp at hk
              · cases hb'
            · unfold nHp at hi
              rw [look_cons] at hi
              split at hi
              · injection hi with hi; subst hi; simp at hk
              · cases hi
          obtain ⟨c, hc⟩ : ∃ c, Try.f11.body = some c := Option.isSome_iff_exists.1 (by kernel_rfl)
          have hcall := reach_new (D := D) (N := N) (M := M) (G := G) (base := base) (ρ := ρ) tyT_ok Try.func11 hc (avs := nArgs cap) (.inr rfl) (n_reach kb cap hcap hk' hc) (v := .tup [.one (.p 2 0), .one (.v (.int .i64 0))]) (by kernel_rfl) (es := [1, 2]) (by kernel_rfl) (by kernel_rfl) (by kernel_rfl) (by kernel_rfl) (fun s hs => by
            simp only [nArgs, List.mem_cons, List.not_mem_nil, or_false] at hs
            subst hs
            exact fun s hs => (by simp [AV.segs] at hs; subst hs; exact (show (0 : Nat) < 1 by omega))) hH hG hfr (r := { val := .tup [.one (.p (base + 1) 0), .one (.v (.int .i64 0))], new := [⟨0, 66, [.arr .u8 sbox]⟩, ⟨0, 53, .p (base + 0) 0 :: pieces (wsN kb 60) 60⟩] }) (by kernel_rfl)
          have e : (nArgs cap).map (SV.conc ρc) = [SV.av (.one (.s id off 32 cap))].map (SV.conc ρ) := by
            simp only [nArgs, List.map_cons, List.map_nil, SV.conc, AV.conc, Seg.conc, hρc, hy, Option.map_some, add_add, Nat.add_zero]
          rw [e] at hcall
          have e2 : schedW zs off = wsN kb 60 := by rw [hkb]; rfl
          rw [e2]
          refine hcall.mono fun e w' ⟨v, h1, ρ', hF⟩ => ⟨v, h1, ρ', ⟨hF.agree, hF.val, hF.hr, hF.kept, hF.fresh⟩⟩
        · cases hr
      · cases hr
    · cases hr
  · cases hr
end Go.Proofs.Ytkoackalpcmhaaa.Am
/- The cipher: what is awake. Conditions: none. -/
namespace Go.Proofs.Ytkoackalpcmhaaa.Am
set_option linter.unusedVariables false
set_option linter.unusedSimpArgs false
open Go Go.RowKit
variable [GT]

/-! rounds on lists -/
omit [GT] in
def stepL (kf : Nat → Int) (r : Nat) (l : List Int) : List Int := keyL 16 (gAdd kf r (gMix (gRow (g2 l))))
omit [GT] in
def rndsL (kf : Nat → Int) : Nat → Nat → List Int → List Int
  | _, 0, l => l
  | r, n + 1, l => rndsL kf (r + 1) n (stepL kf r l)
omit [GT] in
def encF (kf bf : Nat → Int) : List Int := keyL 16 (gAdd kf 14 (gRow (g2 (rndsL kf 1 13 (keyL 16 (gAdd kf 0 bf))))))
theorem gAdd_congr {kf g h : Nat → Int} (e : ∀ i, i < 16 → g i = h i) (r i : Nat) (hi : i < 16) : gAdd kf r g i = gAdd kf r h i := by
  unfold gAdd wk
  rw [e (4 * (i / 4)) (by omega), e (4 * (i / 4) + 1) (by omega), e (4 * (i / 4) + 2) (by omega), e (4 * (i / 4) + 3) (by omega)]
theorem gRow_congr {g h : Nat → Int} (e : ∀ i, i < 16 → g i = h i) (i : Nat) (hi : i < 16) : gRow g i = gRow h i := by
  unfold gRow
  rw [e _ (by omega)]
theorem gMix_congr {g h : Nat → Int} (e : ∀ i, i < 16 → g i = h i) (i : Nat) (hi : i < 16) : gMix g i = gMix h i := by
  unfold gMix
  rw [e (4 * (i / 4)) (by omega), e (4 * (i / 4) + 1) (by omega), e (4 * (i / 4) + 2) (by omega), e (4 * (i / 4) + 3) (by omega)]
theorem rnds_L {kf : Nat → Int} : ∀ (n r : Nat) (g : Nat → Int) (l : List Int), (∀ i, i < 16 → g i = g2 l i) → ∀ i, i < 16 → rnds kf r n g i = g2 (rndsL kf r n l) i
  | 0, _, _, _, h => h
  | n + 1, r, g, l, h => by
    refine rnds_L n (r + 1) _ _ fun i hi => ?_
    rw [stepL, g2_keyL 16 _ i hi]
    exact gAdd_congr (fun i hi => gMix_congr (fun i hi => gRow_congr h i hi) i hi) r i hi
theorem enc_F (kf bf : Nat → Int) : keyL 16 (encG kf bf) = encF kf bf :=
  keyL_congr fun i hi => gAdd_congr (fun i hi => gRow_congr (rnds_L 13 1 _ _ fun i hi => (g2_keyL 16 _ i hi).symm) i hi) 14 i hi

omit [GT] in
def w0K : Nat → Int := schedW (List.replicate 32 0) 0
theorem w0_list : ∃ ks : List Int, keyL 240 w0K = ks ∧ (encF (g2 ks) (g2 (List.replicate 16 255)) == List.replicate 16 255) = false := ⟨_, rfl, by decide +kernel⟩

omit [GT] in
noncomputable def lO : List (Nat × Ent) := [(11, eNew), (16, e16 nextL), (13, eBlock)]
theorem lO_ok : OOK Try.prog lO := ook_of (l := [(11, eNew), (16, e16 nextL), (13, eBlock)]) ⟨new_ent, next_ent, block_ent, trivial⟩
omit [GT] in
def ffs : List Int := List.replicate 16 255
omit [GT] in
def awPs : List Prop := [32 ≤ 32 ∧ ∀ j, j < 32 → inR (g2 (List.replicate 32 0) (0 + j)), sbox = sbox, isA (!(encL (keyL 240 w0K) ffs == ffs)) true]
theorem awake_run : wholeV tyT lO (atH 8 17 (isB true) noH) [(3, 17)] 1000 Try.f10 [] = some (ofV (.bool true), awPs) := by
  kernel_rfl
theorem awPs_ok : AllP awPs := by
  refine ⟨⟨Nat.le_refl _, fun j hj => ?_⟩, rfl, fun ρ => ?_, trivial⟩
  · refine g2_range (fun x hx => ?_) _
    rw [List.mem_replicate] at hx
    rw [hx.2]
    exact ⟨Int.le_refl _, Nat.zero_le _⟩
  · obtain ⟨ks, h1, h2⟩ := w0_list
    have : encL (keyL 240 w0K) ffs = encF (g2 ks) (g2 (List.replicate 16 255)) := by
      rw [← h1]
      exact enc_F _ _
    rw [this]
    show (ofV (.bool (!(_ == List.replicate 16 255)))).conc ρ = _
    rw [h2]
    rfl
omit [GT] in
def eTrue : Ent := fun args _ _ => match args with
  | [] => some { val := ofV (.bool true) }
  | _ => none
theorem awake_ent : EntOK Try.prog 10 eTrue := by
  refine ⟨⟨_, Try.func10, by kernel_rfl, by kernel_rfl⟩, fun args G base res hr ha ρ D N M w hG hin hfr => ?_⟩
  unfold eTrue at hr
  split at hr
  · simp only [Option.some.injEq] at hr
    subst hr
    exact ent_val (am_val tyT_ok lO_ok mixed_ Try.func10 (avs := []) (by kernel_rfl) awake_run awPs_ok (by kernel_rfl) (by kernel_rfl) ρ w hG.gwc) hG rfl rfl rfl
  · cases hr
end Go.Proofs.Ytkoackalpcmhaaa.Am
/- Law 05's Next. Conditions: none. -/
namespace Go.Proofs.Ytkoackalpcmhaaa.Am
set_option linter.unusedVariables false
set_option linter.unusedSimpArgs false
open Go Go.RowKit
variable [GT]

omit [GT] in
noncomputable def mO : List (Nat × Ent) := [(10, eTrue), (11, eNew), (16, e16 nextL), (13, eBlock), (17, e16 rnextL)]
theorem mO_ok : OOK Try.prog mO := ook_of (l := [(10, eTrue), (11, eNew), (16, e16 nextL), (13, eBlock), (17, e16 rnextL)]) ⟨awake_ent, new_ent, next_ent, block_ent, rnext_ent, trivial⟩
theorem lawNext_run (bf : Nat → Int) : wholeV tyT mO (atH 1 6 (isB true) noH) [] 1000 Try.f4 [.av (.one (.arr .u8 (keyL 16 bf)))] = some (ofV (.bool true), [isA (nextL (keyL 16 bf) == rnextL (keyL 16 bf)) true]) := by
  kernel_rfl
theorem wf_inR {z : Int} (h : (Lit.int .u8 z).wf = true) : inR z := by
  have := bounds_u8 h
  constructor <;> omega
theorem wf_g2 {bs : List Int} (h : ∀ z ∈ bs, (Lit.int .u8 z).wf = true) (j : Nat) : inR (g2 bs j) := g2_range (fun x hx => wf_inR (h x hx)) j
theorem lawNext_fact (bs : List Int) (hl : bs.length = 16) (hw : ∀ z ∈ bs, (Lit.int .u8 z).wf = true) (w : World) (hgw : GWok w.heap.size [] w) : Calls Try.prog 4 #[.agg (bs.map (Value.int .u8)).toArray] w fun e w' => e = .returned (.bool true) ∧ Below w.heap.size w w' := by
  have := am_val tyT_ok mO_ok mixed_ Try.func4 (avs := [.av (.one (.arr .u8 (keyL 16 (g2 bs))))]) (by kernel_rfl) (lawNext_run (g2 bs)) ⟨fun ρ => by
    rw [keyL_g2 hl, next_eq (bs := bs) (wf_g2 hw), beq_self_eq_true], trivial⟩ (by kernel_rfl) (by kernel_rfl) (fun _ => ⟨none, 0⟩) w hgw
  rw [keyL_g2 hl] at this
  exact this
end Go.Proofs.Ytkoackalpcmhaaa.Am
/- The reference's product of two bytes, and a byte turned left. Conditions: none. -/
namespace Go.Proofs.Ytkoackalpcmhaaa.Am
set_option linter.unusedVariables false
set_option linter.unusedSimpArgs false
open Go Go.RowKit
variable [GT]

omit [GT] in
def xo (a b : Int) : Int := IntKind.i64.wrap (BitVec.ofInt IntKind.i64.bits a ^^^ BitVec.ofInt IntKind.i64.bits b).toNat
omit [GT] in
def d2 (a : Int) : Int := IntKind.i64.wrap (a * 2)
omit [GT] in
def h2 (b : Int) : Int := IntKind.i64.wrap (b.tdiv 2)
omit [GT] in
noncomputable def pTodo : List AI := match Try.f25.body with
  | some c => todoOf (arun tyT [] noH [] 1000 [.code c] (start [ofV (.int .i64 0), ofV (.int .i64 0)] 23 [] 0 []))
  | none => []
omit [GT] in
noncomputable def pX : Code := loopOf pTodo
omit [GT] in
noncomputable def pK : List AI := restOf pTodo
omit [GT] in
def pS (a b o : Int) : St := { tm := tmL 23 [(0, ofV (.int .i64 a)), (1, ofV (.int .i64 b)), (5, ofV (.int .i64 o))], hp := [], nx := 0, gl := [] }
theorem p_start (a b : Int) {c : Code} (hc : Try.f25.body = some c) : runN tyT [] noH [] 1000 0 [] [0, 1, 5] [.code c] (start [ofV (.int .i64 a), ofV (.int .i64 b)] 23 [] 0 []) = some (.code (.loop pX) :: pK, pS a b 0, []) := by
  have : ∀ d, Try.f25.body = d → (match d with | some c => runN tyT [] noH [] 1000 0 [] [0, 1, 5] [.code c] (start [ofV (.int .i64 a), ofV (.int .i64 b)] 23 [] 0 []) | none => none) = some (.code (.loop pX) :: pK, pS a b 0, []) := by
    intro d hd
    subst hd
    kernel_rfl
  exact this _ hc
omit [GT] in
def pH (x y z : Bool) : Nat → Nat → Hint := atH 2 1 (isB x) (atH 3 2 (isB y) (atH 6 1 (isB z) noH))
omit [GT] in
def pP (a b : Int) (y z : Bool) : List Prop := [isA (decide (b > 0)) true, isA (b.tmod 2 == 1) y, isA (decide (d2 a > 255)) z]
theorem p_tt (a b o : Int) (n : Nat) : runN tyT [] (pH true true true) [] 1000 0 [] [0, 1, 5] (.code pX :: .hd n pX :: pK) (pS a b o) = some (.hd n pX :: pK, pS (xo (d2 a) 283) (h2 b) (xo o a), pP a b true true) := by kernel_rfl
theorem p_tf (a b o : Int) (n : Nat) : runN tyT [] (pH true true false) [] 1000 0 [] [0, 1, 5] (.code pX :: .hd n pX :: pK) (pS a b o) = some (.hd n pX :: pK, pS (d2 a) (h2 b) (xo o a), pP a b true false) := by kernel_rfl
theorem p_ft (a b o : Int) (n : Nat) : runN tyT [] (pH true false true) [] 1000 0 [] [0, 1, 5] (.code pX :: .hd n pX :: pK) (pS a b o) = some (.hd n pX :: pK, pS (xo (d2 a) 283) (h2 b) o, pP a b false true) := by kernel_rfl
theorem p_ff (a b o : Int) (n : Nat) : runN tyT [] (pH true false false) [] 1000 0 [] [0, 1, 5] (.code pX :: .hd n pX :: pK) (pS a b o) = some (.hd n pX :: pK, pS (d2 a) (h2 b) o, pP a b false false) := by kernel_rfl
omit [GT] in
def pEnd (o : Int) : St := { tm := tmL 23 [(4, ofV (.int .i64 o))], hp := [], nx := 0, gl := [] }
theorem p_end (a b o : Int) (n : Nat) : runN tyT [] (pH false false false) [] 1000 0 [] [4] (.code pX :: .hd n pX :: pK) (pS a b o) = some ([.fin], pEnd o, [isA (decide (b > 0)) false]) := by kernel_rfl
omit [GT] in
/-- The product, round by round. -/
def pR : Nat → Int → Int → Int → Int
  | 0, _, _, o => o
  | n + 1, a, b, o => if b > 0 then pR n (if d2 a > 255 then xo (d2 a) 283 else d2 a) (h2 b) (if (b.tmod 2 == 1) = true then xo o a else o) else o
theorem h2_small {b : Int} (h : 0 ≤ b) (h' : b < 512) : h2 b = b / 2 := by
  unfold h2
  rw [Int.tdiv_eq_ediv_of_nonneg h, i64_small (by omega) (by omega)]
theorem p_rounds : ∀ (n : Nat) (a b o : Int), 0 ≤ b → b < 2 ^ n → n ≤ 8 → Reaches Try.prog 0 (.hd (n + 1) pX :: pK) (pS a b o) [.fin] (pEnd (pR n a b o))
  | 0, a, b, o, h, h', _ => Reaches.round (reach_run tyT_ok nil_ok mixed_ (p_end a b o 0) ⟨fun ρ => by rw [decide_eq_false (by simp at h'; omega)], trivial⟩ rfl)
  | n + 1, a, b, o, h, h', hn => by
    unfold pR
    by_cases hb : b > 0
    · rw [if_pos hb]
      have hp : (2 : Int) ^ (n + 1) = 2 * 2 ^ n := by rw [Int.pow_succ, Int.mul_comm]
      have hp8 : (2 : Int) ^ (n + 1) ≤ 256 := by
        have : (2 : Int) ^ (n + 1) ≤ 2 ^ 8 := by exact_mod_cast Nat.pow_le_pow_right (by omega) hn
        omega
      have e := h2_small h (by omega)
      have ih := fun a' o' => p_rounds n a' (h2 b) o' (by omega) (by omega) (by omega)
      have hb' : decide (b > 0) = true := decide_eq_true hb
      cases hy : (b.tmod 2 == 1) <;> cases hz : decide (d2 a > 255)
      · rw [if_neg (of_decide_eq_false hz), if_neg (show ¬ (false = true) by decide)]
        exact Reaches.round ((reach_run tyT_ok nil_ok mixed_ (p_ff a b o (n + 1)) ⟨fun ρ => by rw [hb'], fun ρ => by rw [hy], fun ρ => by rw [hz], trivial⟩ rfl).trans (ih _ _))
      · rw [if_pos (of_decide_eq_true hz), if_neg (show ¬ (false = true) by decide)]
        exact Reaches.round ((reach_run tyT_ok nil_ok mixed_ (p_ft a b o (n + 1)) ⟨fun ρ => by rw [hb'], fun ρ => by rw [hy], fun ρ => by rw [hz], trivial⟩ rfl).trans (ih _ _))
      · rw [if_neg (of_decide_eq_false hz), if_pos rfl]
        exact Reaches.round ((reach_run tyT_ok nil_ok mixed_ (p_tf a b o (n + 1)) ⟨fun ρ => by rw [hb'], fun ρ => by rw [hy], fun ρ => by rw [hz], trivial⟩ rfl).trans (ih _ _))
      · rw [if_pos (of_decide_eq_true hz), if_pos rfl]
        exact Reaches.round ((reach_run tyT_ok nil_ok mixed_ (p_tt a b o (n + 1)) ⟨fun ρ => by rw [hb'], fun ρ => by rw [hy], fun ρ => by rw [hz], trivial⟩ rfl).trans (ih _ _))
    · rw [if_neg hb]
      exact Reaches.round (reach_run tyT_ok nil_ok mixed_ (p_end a b o (n + 1)) ⟨fun ρ => by rw [decide_eq_false hb], trivial⟩ rfl)
omit [GT] in
def pT (a b : Int) : Int := pR 8 a b 0
omit [GT] in
def e2I (k : IntKind) (F : Int → Int → Int) (A : Int → Int → Prop) : Ent := fun args _ _ => match args with
  | [.av (.one (.v (.int i a))), .av (.one (.v (.int j b)))] => match Nat.beq (ik i) (ik k) && Nat.beq (ik j) (ik k) with
    | true => some { val := ofV (.int k (F a b)), asm := .say (A a b) }
    | false => none
  | _ => none
theorem ok_e2I {f : FuncId} {fn : Func} {k : IntKind} {F : Int → Int → Int} {A : Int → Int → Prop} (hf : Try.prog.funcs[f]? = some fn) (h2 : (fn.name == "runtime.NumGoroutine") = false) (h3 : fn.body.isSome = true) (h : ∀ (a b : Int), A a b → ∀ w : World, GWok w.heap.size [] w → Calls Try.prog f #[.int k a, .int k b] w fun e w' => e = .returned (.int k (F a b)) ∧ Below w.heap.size w w') : EntOK Try.prog f (e2I k F A) := by
  refine ⟨⟨fn, hf, h2, h3⟩, fun args G base res hr ha ρ D N M w hG hin hfr => ?_⟩
  unfold e2I at hr
  split at hr
  · rename_i i a j b
    split at hr
    · rename_i hk
      rw [Bool.and_eq_true] at hk
      have e1 := ik_inj hk.1
      have e2 := ik_inj hk.2
      subst e1 e2
      simp only [Option.some.injEq] at hr
      subst hr
      exact ent_val (h a b ha w hG.gwc) hG rfl rfl rfl
    · cases hr
  · cases hr
theorem times_ent : EntOK Try.prog 25 (e2I .i64 pT fun _ b => 0 ≤ b ∧ b < 256) := by
  refine ok_e2I Try.func25 (by kernel_rfl) (by kernel_rfl) fun a b ⟨h1, h2⟩ w hgw => ?_
  obtain ⟨c, hc⟩ : ∃ c, Try.f25.body = some c := Option.isSome_iff_exists.1 (by kernel_rfl)
  exact reach_val tyT_ok Try.func25 hc (avs := [ofV (.int .i64 a), ofV (.int .i64 b)]) (.inr rfl) ((reach_run tyT_ok nil_ok mixed_ (p_start a b hc) trivial rfl).trans (Reaches.loop 9 (p_rounds 8 a b 0 h1 h2 (Nat.le_refl _)))) (v := ofV (.int .i64 (pT a b))) (by kernel_rfl) (by kernel_rfl) (by kernel_rfl) (fun s hs => by
    simp only [List.mem_cons, List.not_mem_nil, or_false] at hs
    rcases hs with rfl | rfl <;> exact fun s hs => (by simp [AV.segs] at hs; subst hs; trivial)) (hr_none hgw) (fun _ => ⟨none, 0⟩)
end Go.Proofs.Ytkoackalpcmhaaa.Am
/- Law 05's steps: 256 of them are one of the next byte. Conditions: none. -/
namespace Go.Proofs.Ytkoackalpcmhaaa.Am
set_option linter.unusedVariables false
set_option linter.unusedSimpArgs false
open Go Go.RowKit
variable [GT]

/-! ### 256 steps, reckoned -/
theorem setAt_self (f : Nat → Int) (p : Nat) : setAt f p (f p) = f := by
  funext j
  unfold setAt
  split
  · rename_i h; rw [h]
  · rfl
theorem setAt_twice (f : Nat → Int) (p : Nat) (a b : Int) : setAt (setAt f p a) p b = setAt f p b := by
  funext j
  unfold setAt
  split <;> rfl
theorem setAt_comm (f : Nat → Int) {p q : Nat} (h : p ≠ q) (a b : Int) : setAt (setAt f p a) q b = setAt (setAt f q b) p a := by
  funext j
  unfold setAt
  by_cases h1 : j = p
  · rw [if_pos h1, if_pos h1, if_neg (by omega)]
  · rw [if_neg h1, if_neg h1]
theorem setAt_at (f : Nat → Int) (p : Nat) (a : Int) : setAt f p a p = a := if_pos rfl
theorem setAt_ne (f : Nat → Int) {p q : Nat} (a : Int) (h : q ≠ p) : setAt f p a q = f q := if_neg h
/-- The bytes ahead of the last don't hang on it. -/
theorem rG_last (v : Int) : ∀ (n i : Nat) (c : Int) (f : Nat → Int), 1 ≤ i → n + i ≤ 16 → rG n i c (setAt f 15 v) = setAt (rG n i c f) 15 v
  | 0, _, _, _, _, _ => rfl
  | n + 1, i, c, f, h, h' => by
    rw [rG, rG, setAt_ne f v (by omega), setAt_comm f (by omega)]
    exact rG_last v n (i + 1) _ _ (by omega) (by omega)
theorem rG_high {j : Nat} (hj : 16 ≤ j) : ∀ (n i : Nat) (c : Int) (f : Nat → Int), rG n i c f j = f j
  | 0, _, _, _ => rfl
  | n + 1, i, c, f => by rw [rG, rG_high hj, setAt_ne _ _ (by omega)]
theorem step_small {f : Nat → Int} (h : ∀ j, inR' (f j)) (h' : f 15 < 255) : rG 16 0 1 f = setAt f 15 (f 15 + 1) := by
  obtain ⟨h1, h2⟩ := h 15
  have e : cN (f 15) 1 = f 15 + 1 := cN_small ⟨h1, h2⟩ (by omega) (by omega)
  have h3 : (0 : Int) ≤ f 15 + 1 := by omega
  rw [rG, Nat.sub_zero, e, Int.tmod_eq_emod_of_nonneg h3, Int.emod_eq_of_lt h3 (by omega), u8_small h3 (by omega), Int.tdiv_eq_ediv_of_nonneg h3, Int.ediv_eq_zero_of_lt h3 (by omega), i64_small (by omega) (by omega)]
  refine rG_zero 15 1 _ fun j => ?_
  unfold setAt
  split
  · constructor <;> omega
  · exact h j
theorem step_full {f : Nat → Int} (h' : f 15 = 255) : rG 16 0 1 f = rG 15 1 1 (setAt f 15 0) := by
  rw [rG, Nat.sub_zero, h']
  rfl
omit [GT] in
def itN : Nat → (Nat → Int) → (Nat → Int)
  | 0, f => f
  | n + 1, f => rG 16 0 1 (itN n f)
theorem it_small {f : Nat → Int} (h : ∀ j, inR' (f j)) : ∀ n : Nat, f 15 + n ≤ 255 → itN n f = setAt f 15 (f 15 + n)
  | 0, _ => by rw [itN, Int.natCast_zero, Int.add_zero, setAt_self]
  | n + 1, hn => by
    have h1 := (h 15).1
    rw [itN, it_small h n (by omega), step_small (fun j => ?_) (by rw [setAt_at]; omega), setAt_at, setAt_twice]
    · congr 1
      omega
    · unfold setAt
      split
      · constructor <;> omega
      · exact h j
theorem it_add (f : Nat → Int) (m : Nat) : ∀ n, itN (n + m) f = itN n (itN m f)
  | 0 => by rw [Nat.zero_add]; rfl
  | n + 1 => by rw [show n + 1 + m = (n + m) + 1 by omega, itN, it_add f m n]; rfl
theorem rG_range : ∀ (n i : Nat) (c : Int) (f : Nat → Int), (∀ j, inR' (f j)) → ∀ j, inR' (rG n i c f j)
  | 0, _, _, _, h => h
  | n + 1, i, c, f, h => fun j => by
    rw [rG]
    refine rG_range n (i + 1) _ _ (fun j => ?_) j
    unfold setAt
    split
    · rw [u8_eq]; constructor <;> omega
    · exact h j
theorem it_256 {f : Nat → Int} (h : ∀ j, inR' (f j)) : itN 256 f = rG 15 1 1 f := by
  obtain ⟨v, hv⟩ : ∃ v : Nat, f 15 = v := ⟨(f 15).toNat, by have := (h 15).1; omega⟩
  have hv' : v ≤ 255 := by have := (h 15).2; omega
  have e1 : itN (255 - v) f = setAt f 15 255 := by
    rw [it_small h _ (by omega)]
    congr 1
    omega
  have e2 : itN (1 + (255 - v)) f = setAt (rG 15 1 1 f) 15 0 := by
    rw [it_add, e1]
    show rG 16 0 1 (setAt f 15 255) = _
    rw [step_full (setAt_at f 15 255), setAt_twice, rG_last 0 15 1 1 f (by omega) (by omega)]
  have hr : ∀ j, inR' (setAt (rG 15 1 1 f) 15 0 j) := fun j => by
    unfold setAt
    split
    · constructor <;> omega
    · exact rG_range 15 1 1 f h j
  have e3 : itN (v + (1 + (255 - v))) f = setAt (rG 15 1 1 f) 15 v := by
    rw [it_add, e2, it_small hr v (by rw [setAt_at]; omega), setAt_at, setAt_twice, Int.zero_add]
  rw [show 256 = v + (1 + (255 - v)) by omega, e3]
  have e4 : rG 15 1 1 f 15 = v := by
    have := congrFun (rG_last (v : Int) 15 1 1 f (by omega) (by omega)) 15
    rw [setAt_at, ← hv, setAt_self] at this
    rw [this, hv]
  rw [← e4, setAt_self]

/-! ### the law -/
omit [GT] in
noncomputable def sTodo : List AI := match Try.f6.body with
  | some c => todoOf (arun tyT mO noH [(10, 16)] 1000 [.code c] (start [.av (.one (.arr .u8 (keyL 16 fun _ => 0)))] 37 [] 0 []))
  | none => []
omit [GT] in
noncomputable def sX : Code := loopOf sTodo
omit [GT] in
noncomputable def sK : List AI := restOf sTodo
omit [GT] in
def sS (bf xf : Nat → Int) (i : Int) : St := { tm := tmL 37 [(1, .av (.one (.p 0 0))), (3, .av (.one (.p 1 0))), (11, ofV (.int .i64 i))], hp := [(0, ⟨0, 23, [.arr .u8 (keyL 16 bf)]⟩), (1, ⟨0, 23, [.arr .u8 (keyL 16 xf)]⟩)], nx := 2, gl := [] }
theorem s_start (bf : Nat → Int) {c : Code} (hc : Try.f6.body = some c) : runN tyT mO noH [(10, 16)] 1000 2 [] [1, 3, 11] [.code c] (start [.av (.one (.arr .u8 (keyL 16 bf)))] 37 [] 0 []) = some (.code (.loop sX) :: sK, sS bf bf 0, []) := by
  have : ∀ d, Try.f6.body = d → (match d with | some c => runN tyT mO noH [(10, 16)] 1000 2 [] [1, 3, 11] [.code c] (start [.av (.one (.arr .u8 (keyL 16 bf)))] 37 [] 0 []) | none => none) = some (.code (.loop sX) :: sK, sS bf bf 0, []) := by
    intro d hd
    subst hd
    kernel_rfl
  exact this _ hc
omit [GT] in
def isV (x y : Int) : Prop := ∀ ρ : Nat → Loc, (ofV (.int .i64 x)).conc ρ = (ofV (.int .i64 y)).conc ρ
theorem s_round (bf xf : Nat → Int) (i : Int) (n : Nat) : runN tyT mO (atH 5 0 (isB true) (atH 7 0 { is := some (ofV (.int .i64 (i + 1))) } noH)) [(10, 16)] 1000 2 [] [1, 3, 11] (.code sX :: .hd n sX :: sK) (sS bf xf i) = some (.hd n sX :: sK, sS bf (nextG 16 0 (g2 (keyL 16 xf))) (i + 1), [isA (decide (i < 256)) true, isV (IntKind.i64.wrap (i + 1)) (i + 1)]) := by
  kernel_rfl
omit [GT] in
def sEnd : St := { tm := tmL 37 [(2, ofV (.bool true))], hp := [], nx := 0, gl := [] }
theorem s_end (bf xf : Nat → Int) (n : Nat) : runN tyT mO (atH 15 2 (isB true) noH) [(10, 16)] 1000 0 [] [2] (.code sX :: .hd n sX :: sK) (sS bf xf 256) = some ([.fin], sEnd, [isA (keyL 16 xf == keyL 16 (rG 15 1 1 bf)) true]) := by
  kernel_rfl
theorem it_fun {bs : List Int} (hl : bs.length = 16) (h : ∀ j, inR' (g2 bs j)) : ∀ n : Nat, n ≤ 256 → ∀ m, Reaches Try.prog 0 (.hd (m + n) sX :: sK) (sS (g2 bs) (g2 bs) 0) (.hd m sX :: sK) (sS (g2 bs) (itN n (g2 bs)) n)
  | 0, _, m => Reaches.refl
  | n + 1, hn, m => by
    have ih := it_fun hl h n (by omega) (m + 1)
    rw [show m + 1 + n = m + (n + 1) by omega] at ih
    have hr : ∀ k j, inR' (itN k (g2 bs) j) := fun k => by
      induction k with
      | zero => exact h
      | succ k ih => exact rG_range 16 0 1 _ ih
    have hg : g2 (keyL 16 (itN n (g2 bs))) = itN n (g2 bs) := by
      funext j
      by_cases hj : j < 16
      · exact g2_keyL 16 _ j hj
      · have hz : ∀ k, itN k (g2 bs) j = g2 bs j := fun k => by
          induction k with
          | zero => rfl
          | succ k ih => rw [itN, rG_high (by omega)]; exact ih
        rw [hz, g2, g2, List.getD_eq_getElem?_getD, List.getD_eq_getElem?_getD, List.getElem?_eq_none (by rw [keyL_len]; omega), List.getElem?_eq_none (by omega)]
    have hs := reach_run (m0 := 0) tyT_ok mO_ok mixed_ (s_round (g2 bs) (itN n (g2 bs)) n m) ⟨fun ρ => by rw [decide_eq_true (by omega)], fun ρ => by rw [i64_small (by omega) (by omega)], trivial⟩ rfl
    rw [hg, next_rG 16 0 _ (hr n)] at hs
    exact ih.trans (Reaches.round hs)
theorem lawSteps_fact (bs : List Int) (hl : bs.length = 16) (hw : ∀ z ∈ bs, (Lit.int .u8 z).wf = true) (w : World) (hgw : GWok w.heap.size [] w) : Calls Try.prog 6 #[.agg (bs.map (Value.int .u8)).toArray] w fun e w' => e = .returned (.bool true) ∧ Below w.heap.size w w' := by
  have hr : ∀ j, inR' (g2 bs j) := wf_g2 hw
  obtain ⟨c, hc⟩ : ∃ c, Try.f6.body = some c := Option.isSome_iff_exists.1 (by kernel_rfl)
  have hR : Reaches Try.prog 0 [.code c] (start [.av (.one (.arr .u8 (keyL 16 (g2 bs))))] 37 [] 0 []) [.fin] sEnd :=
    (reach_run tyT_ok mO_ok mixed_ (s_start (g2 bs) hc) trivial rfl).trans (Reaches.loop (1 + 256) ((it_fun hl hr 256 (Nat.le_refl _) 1).trans (Reaches.round (reach_run tyT_ok mO_ok mixed_ (s_end (g2 bs) (itN 256 (g2 bs)) 0) ⟨fun ρ => by rw [it_256 hr, beq_self_eq_true], trivial⟩ rfl))))
  have := reach_val tyT_ok Try.func6 hc (avs := [.av (.one (.arr .u8 (keyL 16 (g2 bs))))]) (.inr rfl) hR (v := ofV (.bool true)) (by kernel_rfl) (by kernel_rfl) (by kernel_rfl) (fun s hs => by
    simp only [List.mem_cons, List.not_mem_nil, or_false] at hs
    subst hs
    exact fun s hs => (by simp [AV.segs] at hs; subst hs; trivial)) (hr_none hgw) (fun _ => ⟨none, 0⟩)
  rw [keyL_g2 hl] at this
  exact this
end Go.Proofs.Ytkoackalpcmhaaa.Am
/- The reference's byte turned left, and its boxes' inner loop. Conditions: none. -/
namespace Go.Proofs.Ytkoackalpcmhaaa.Am
set_option linter.unusedVariables false
set_option linter.unusedSimpArgs false
open Go Go.RowKit
variable [GT]

omit [GT] in
noncomputable def lTodo : List AI := match Try.f26.body with
  | some c => todoOf (arun tyT [] noH [] 1000 [.code c] (start [ofV (.int .i64 0), ofV (.int .i64 0)] 18 [] 0 []))
  | none => []
omit [GT] in
noncomputable def lX : Code := loopOf lTodo
omit [GT] in
noncomputable def lK : List AI := restOf lTodo
omit [GT] in
def lS (b n i : Int) : St := { tm := tmL 18 [(0, ofV (.int .i64 b)), (1, ofV (.int .i64 n)), (5, ofV (.int .i64 i))], hp := [], nx := 0, gl := [] }
theorem l_start (b n : Int) {c : Code} (hc : Try.f26.body = some c) : runN tyT [] noH [] 1000 0 [] [0, 1, 5] [.code c] (start [ofV (.int .i64 b), ofV (.int .i64 n)] 18 [] 0 []) = some (.code (.loop lX) :: lK, lS b n 0, []) := by
  have : ∀ d, Try.f26.body = d → (match d with | some c => runN tyT [] noH [] 1000 0 [] [0, 1, 5] [.code c] (start [ofV (.int .i64 b), ofV (.int .i64 n)] 18 [] 0 []) | none => none) = some (.code (.loop lX) :: lK, lS b n 0, []) := by
    intro d hd
    subst hd
    kernel_rfl
  exact this _ hc
omit [GT] in
def lH (x y : Bool) (i : Int) : Nat → Nat → Hint := atH 2 2 (isB x) (atH 5 1 (isB y) (atH 3 1 { is := some (ofV (.int .i64 (i + 1))) } noH))
omit [GT] in
def s255 (a : Int) : Int := IntKind.i64.wrap (a - 255)
theorem l_t (b n i : Int) (k : Nat) : runN tyT [] (lH true true i) [] 1000 0 [] [0, 1, 5] (.code lX :: .hd k lX :: lK) (lS b n i) = some (.hd k lX :: lK, lS (s255 (d2 b)) n (i + 1), [isA (decide (i < n)) true, isA (decide (d2 b > 255)) true, isV (IntKind.i64.wrap (i + 1)) (i + 1)]) := by kernel_rfl
theorem l_f (b n i : Int) (k : Nat) : runN tyT [] (lH true false i) [] 1000 0 [] [0, 1, 5] (.code lX :: .hd k lX :: lK) (lS b n i) = some (.hd k lX :: lK, lS (d2 b) n (i + 1), [isA (decide (i < n)) true, isA (decide (d2 b > 255)) false, isV (IntKind.i64.wrap (i + 1)) (i + 1)]) := by kernel_rfl
omit [GT] in
def lEnd (o : Int) : St := { tm := tmL 18 [(4, ofV (.int .i64 o))], hp := [], nx := 0, gl := [] }
theorem l_end (b n i : Int) (k : Nat) : runN tyT [] (lH false false i) [] 1000 0 [] [4] (.code lX :: .hd k lX :: lK) (lS b n i) = some ([.fin], lEnd b, [isA (decide (i < n)) false]) := by kernel_rfl
omit [GT] in
def lR : Nat → Int → Int
  | 0, b => b
  | k + 1, b => lR k (if d2 b > 255 then s255 (d2 b) else d2 b)
theorem l_rounds : ∀ (k : Nat) (b n i : Int), i + k = n → 0 ≤ i → n < 1000 → Reaches Try.prog 0 (.hd (k + 1) lX :: lK) (lS b n i) [.fin] (lEnd (lR k b))
  | 0, b, n, i, h, _, _ => Reaches.round (reach_run tyT_ok nil_ok mixed_ (l_end b n i 0) ⟨fun ρ => by rw [decide_eq_false (by omega)], trivial⟩ rfl)
  | k + 1, b, n, i, h, h0, h1 => by
    unfold lR
    have ih := fun b' => l_rounds k b' n (i + 1) (by omega) (by omega) h1
    have hi : decide (i < n) = true := decide_eq_true (by omega)
    have hw : IntKind.i64.wrap (i + 1) = i + 1 := i64_small (by omega) (by omega)
    cases hz : decide (d2 b > 255)
    · rw [if_neg (of_decide_eq_false hz)]
      exact Reaches.round ((reach_run tyT_ok nil_ok mixed_ (l_f b n i (k + 1)) ⟨fun ρ => by rw [hi], fun ρ => by rw [hz], fun ρ => by rw [hw], trivial⟩ rfl).trans (ih _))
    · rw [if_pos (of_decide_eq_true hz)]
      exact Reaches.round ((reach_run tyT_ok nil_ok mixed_ (l_t b n i (k + 1)) ⟨fun ρ => by rw [hi], fun ρ => by rw [hz], fun ρ => by rw [hw], trivial⟩ rfl).trans (ih _))
theorem left_ent : EntOK Try.prog 26 (e2I .i64 (fun b n => lR n.toNat b) fun _ n => 0 ≤ n ∧ n < 1000) := by
  refine ok_e2I Try.func26 (by kernel_rfl) (by kernel_rfl) fun b n ⟨h1, h2⟩ w hgw => ?_
  obtain ⟨c, hc⟩ : ∃ c, Try.f26.body = some c := Option.isSome_iff_exists.1 (by kernel_rfl)
  exact reach_val tyT_ok Try.func26 hc (avs := [ofV (.int .i64 b), ofV (.int .i64 n)]) (.inr rfl) ((reach_run tyT_ok nil_ok mixed_ (l_start b n hc) trivial rfl).trans (Reaches.loop (n.toNat + 1) (l_rounds n.toNat b n 0 (by omega) (Int.le_refl _) h2))) (v := ofV (.int .i64 (lR n.toNat b))) (by kernel_rfl) (by kernel_rfl) (by kernel_rfl) (fun s hs => by
    simp only [List.mem_cons, List.not_mem_nil, or_false] at hs
    rcases hs with rfl | rfl <;> exact fun s hs => (by simp [AV.segs] at hs; subst hs; trivial)) (hr_none hgw) (fun _ => ⟨none, 0⟩)
end Go.Proofs.Ytkoackalpcmhaaa.Am
/- The reference's boxes: the walk. Conditions: none. -/
namespace Go.Proofs.Ytkoackalpcmhaaa.Am
set_option linter.unusedVariables false
set_option linter.unusedSimpArgs false
open Go Go.RowKit
variable [GT]

omit [GT] in
noncomputable def oO : List (Nat × Ent) := [(25, e2I .i64 pT fun _ b => 0 ≤ b ∧ b < 256), (26, e2I .i64 (fun b n => lR n.toNat b) fun _ n => 0 ≤ n ∧ n < 1000)]
theorem oO_ok : OOK Try.prog oO := ook_of (l := [(25, e2I .i64 pT fun _ b => 0 ≤ b ∧ b < 256), (26, e2I .i64 (fun b n => lR n.toNat b) fun _ n => 0 ≤ n ∧ n < 1000)]) ⟨times_ent, left_ent, trivial⟩
omit [GT] in
def oS (zs : List Int) (b : Int) : St := { tm := tmL 36 [(0, .av (.one (.p 0 0))), (1, .av (.one (.p 1 0))), (2, ofV (.int .i64 b))], hp := [(0, ⟨0, 29, [.arr .i64 (List.replicate 256 0)]⟩), (1, ⟨0, 29, [.arr .i64 zs]⟩)], nx := 2, gl := [] }
omit [GT] in
def iS (zs : List Int) (b n x : Int) : St := { tm := tmL 36 [(0, .av (.one (.p 0 0))), (1, .av (.one (.p 1 0))), (2, ofV (.int .i64 b)), (3, ofV (.int .i64 n)), (4, ofV (.int .i64 x))], hp := [(0, ⟨0, 29, [.arr .i64 (List.replicate 256 0)]⟩), (1, ⟨0, 29, [.arr .i64 zs]⟩)], nx := 2, gl := [] }
omit [GT] in
noncomputable def oTodo : List AI := match Try.f12.body with
  | some c => todoOf (arun tyT oO noH [] 1000 [.code c] (start [] 36 [] 0 []))
  | none => []
omit [GT] in
noncomputable def oX : Code := loopOf oTodo
omit [GT] in
noncomputable def oK : List AI := restOf oTodo
theorem o_start {c : Code} (hc : Try.f12.body = some c) : runN tyT oO noH [] 1000 2 [] [0, 1, 2] [.code c] (start [] 36 [] 0 []) = some (.code (.loop oX) :: oK, oS (List.replicate 256 0) 0, []) := by
  have : ∀ d, Try.f12.body = d → (match d with | some c => runN tyT oO noH [] 1000 2 [] [0, 1, 2] [.code c] (start [] 36 [] 0 []) | none => none) = some (.code (.loop oX) :: oK, oS (List.replicate 256 0) 0, []) := by
    intro d hd
    subst hd
    kernel_rfl
  exact this _ hc
omit [GT] in
noncomputable def iTodo (n : Nat) : List AI := todoOf (arun tyT oO (atH 3 1 (isB true) noH) [] 1000 (.code oX :: .hd n oX :: oK) (oS [] 0))
omit [GT] in
noncomputable def iX : Code := loopOf (iTodo 0)
omit [GT] in
noncomputable def iK (n : Nat) : List AI := restOf (iTodo n)
theorem o_in (zs : List Int) (b : Int) (n : Nat) : runN tyT oO (atH 3 1 (isB true) noH) [] 1000 2 [] [0, 1, 2, 3, 4] (.code oX :: .hd n oX :: oK) (oS zs b) = some (.code (.loop iX) :: iK n, iS zs b 0 0, [isA (decide (b < 256)) true]) := by kernel_rfl
omit [GT] in
def iH (e : Bool) (x : Int) : Nat → Nat → Hint := atH 7 1 (isB true) (atH 9 3 (isB e) (atH 8 1 { is := some (ofV (.int .i64 (x + 1))) } noH))
theorem i_yes (zs : List Int) (b nn x : Int) (n m : Nat) : runN tyT oO (iH true x) [] 1000 2 [] [0, 1, 2, 3, 4] (.code iX :: .hd m iX :: iK n) (iS zs b nn x) = some (.hd m iX :: iK n, iS zs b x (x + 1), [isA (decide (x < 256)) true, 0 ≤ x ∧ x < 256, isA (pT b x == 1) true, isV (IntKind.i64.wrap (x + 1)) (x + 1)]) := by kernel_rfl
theorem i_no (zs : List Int) (b nn x : Int) (n m : Nat) : runN tyT oO (iH false x) [] 1000 2 [] [0, 1, 2, 3, 4] (.code iX :: .hd m iX :: iK n) (iS zs b nn x) = some (.hd m iX :: iK n, iS zs b nn (x + 1), [isA (decide (x < 256)) true, 0 ≤ x ∧ x < 256, isA (pT b x == 1) false, isV (IntKind.i64.wrap (x + 1)) (x + 1)]) := by kernel_rfl
omit [GT] in
def boxV (n : Int) : Int := xo (xo (xo (xo (xo n (lR 1 n)) (lR 2 n)) (lR 3 n)) (lR 4 n)) 99
omit [GT] in
def ieH (b : Int) : Nat → Nat → Hint := atH 7 1 (isB false) (atH 11 15 symH (atH 11 16 symH (atH 4 1 { is := some (ofV (.int .i64 (b + 1))) } noH)))
theorem i_end (zs : List Int) (b nn x : Int) (n m : Nat) : runN tyT oO (ieH b) [] 1000 2 [] [0, 1, 2] (.code iX :: .hd m iX :: iK n) (iS zs b nn x) = some (.hd n oX :: oK, oS (zs.set b.toNat (boxV nn)) (b + 1), [isA (decide (x < 256)) false, (0 : Int) ≤ 1 ∧ (1 : Int) < 1000, (0 : Int) ≤ 2 ∧ (2 : Int) < 1000, (0 : Int) ≤ 3 ∧ (3 : Int) < 1000, (0 : Int) ≤ 4 ∧ (4 : Int) < 1000, 0 ≤ b ∧ b.toNat ≤ 255, b.toNat < zs.length, isV (IntKind.i64.wrap (b + 1)) (b + 1)]) := by kernel_rfl
omit [GT] in
def oEnd (zs : List Int) : St := { tm := tmL 36 [(0, .av (.one (.p 0 0)))], hp := [(0, ⟨0, 29, [.arr .i64 zs]⟩)], nx := 1, gl := [] }
theorem o_end (n : Nat) : runN tyT oO noH [] 1000 1 [] [0] (.code oX :: .hd n oX :: oK) (oS sbox 256) = some ([.fin], oEnd sbox, []) := by kernel_rfl
end Go.Proofs.Ytkoackalpcmhaaa.Am
/- The reference's boxes are the turned bytes. Conditions: none. -/
namespace Go.Proofs.Ytkoackalpcmhaaa.Am
set_option linter.unusedVariables false
set_option linter.unusedSimpArgs false
open Go Go.RowKit
variable [GT]

omit [GT] in
/-- The last number whose product is 1. -/
def inF (b : Int) : Nat → Int → Int → Int
  | 0, _, nn => nn
  | k + 1, x, nn => inF b k (x + 1) (if (pT b x == 1) = true then x else nn)
omit [GT] in
def outF : Nat → Int → List Int → List Int
  | 0, _, zs => zs
  | k + 1, b, zs => outF k (b + 1) (zs.set b.toNat (boxV (inF b 256 0 0)))
theorem i_rounds (zs : List Int) (b : Int) (n : Nat) (hb : 0 ≤ b ∧ b < 256) (hz : zs.length = 256) : ∀ (k : Nat) (nn x : Int), x + k = 256 → 0 ≤ x → Reaches Try.prog 0 (.hd (k + 1) iX :: iK n) (iS zs b nn x) (.hd n oX :: oK) (oS (zs.set b.toNat (boxV (inF b k x nn))) (b + 1))
  | 0, nn, x, h, h0 => Reaches.round (reach_run tyT_ok oO_ok mixed_ (i_end zs b nn x n 0) ⟨fun ρ => by rw [decide_eq_false (by omega)], by decide, by decide, by decide, by decide, ⟨hb.1, by omega⟩, by omega, fun ρ => by rw [i64_small (by omega) (by omega)], trivial⟩ rfl)
  | k + 1, nn, x, h, h0 => by
    unfold inF
    have ih := fun nn' => i_rounds zs b n hb hz k nn' (x + 1) (by omega) (by omega)
    have hx : decide (x < 256) = true := decide_eq_true (by omega)
    have hw : IntKind.i64.wrap (x + 1) = x + 1 := i64_small (by omega) (by omega)
    cases hz' : (pT b x == 1)
    · rw [if_neg (show ¬ (false = true) by decide)]
      exact Reaches.round ((reach_run tyT_ok oO_ok mixed_ (i_no zs b nn x n (k + 1)) ⟨fun ρ => by rw [hx], ⟨h0, by omega⟩, fun ρ => by rw [hz'], fun ρ => by rw [hw], trivial⟩ rfl).trans (ih _))
    · rw [if_pos rfl]
      exact Reaches.round ((reach_run tyT_ok oO_ok mixed_ (i_yes zs b nn x n (k + 1)) ⟨fun ρ => by rw [hx], ⟨h0, by omega⟩, fun ρ => by rw [hz'], fun ρ => by rw [hw], trivial⟩ rfl).trans (ih _))
theorem o_rounds : ∀ (k : Nat) (zs : List Int) (b : Int), b + k = 256 → 0 ≤ b → zs.length = 256 → outF k b zs = sbox → Reaches Try.prog 0 (.hd (k + 1) oX :: oK) (oS zs b) [.fin] (oEnd sbox)
  | 0, zs, b, h, _, _, he => by
    have hb : b = 256 := by omega
    subst hb
    have he : zs = sbox := he
    subst he
    exact Reaches.round (reach_run tyT_ok oO_ok mixed_ (o_end 0) trivial rfl)
  | k + 1, zs, b, h, h0, hz, he => by
    unfold outF at he
    have ih := o_rounds k _ (b + 1) (by omega) (by omega) (by rw [List.length_set]; exact hz) he
    refine Reaches.round ((reach_run tyT_ok oO_ok mixed_ (o_in zs b (k + 1)) ⟨fun ρ => by rw [decide_eq_true (by omega)], trivial⟩ rfl).trans (Reaches.loop 257 ?_))
    exact (i_rounds zs b (k + 1) ⟨h0, by omega⟩ hz 256 0 0 (by omega) (by omega)).trans ih
end Go.Proofs.Ytkoackalpcmhaaa.Am
/- The reference's boxes, reckoned. Conditions: none. -/
namespace Go.Proofs.Ytkoackalpcmhaaa.Am
set_option linter.unusedVariables false
set_option linter.unusedSimpArgs false
open Go Go.RowKit
variable [GT]

omit [GT] in
def gm : Nat → Nat → Nat → Nat → Nat
  | 0, _, _, o => o
  | n + 1, a, b, o => match Nat.beq b 0 with
    | true => o
    | false => gm n (match Nat.ble (2 * a) 255 with | true => 2 * a | false => Nat.xor (2 * a) 283) (b / 2) (match Nat.beq (b % 2) 1 with | true => Nat.xor o a | false => o)
theorem xo_nat {a b : Nat} (ha : a < 512) (hb : b < 512) : xo a b = ((a ^^^ b : Nat) : Int) := by
  have e : xo (a : Int) b = IntKind.i64.wrap ((BitVec.ofInt 64 (a : Int) ^^^ BitVec.ofInt 64 (b : Int)).toNat : Int) := rfl
  have h : (BitVec.ofInt 64 (a : Int) ^^^ BitVec.ofInt 64 (b : Int)).toNat = a ^^^ b := by
    rw [BitVec.toNat_xor, BitVec.toNat_ofInt, BitVec.toNat_ofInt]
    congr 1 <;> omega
  have hx : a ^^^ b < 512 := Nat.xor_lt_two_pow (n := 9) ha hb
  rw [e, h, i64_small (by omega) (by omega)]
theorem d2_nat {a : Nat} (ha : a < 512) : d2 a = ((2 * a : Nat) : Int) := by
  unfold d2
  rw [i64_small (by omega) (by omega)]
  omega
theorem pR_nat : ∀ (n a b o : Nat), a < 256 → b < 512 → o < 512 → pR n a b o = (gm n a b o : Nat)
  | 0, _, _, _, _, _, _ => rfl
  | n + 1, a, b, o, ha, hb, ho => by
    unfold pR gm
    cases h0 : Nat.beq b 0 with
    | true =>
      have := Nat.eq_of_beq_eq_true h0
      subst this
      rw [if_neg (by decide)]
    | false =>
      have hb0 : b ≠ 0 := fun e => by subst e; cases h0
      have e1 : h2 (b : Int) = ((b / 2 : Nat) : Int) := by rw [h2_small (by omega) (by omega)]; omega
      have e2 : (if d2 (a : Int) > 255 then xo (d2 a) 283 else d2 a) = ((match Nat.ble (2 * a) 255 with | true => 2 * a | false => Nat.xor (2 * a) 283 : Nat) : Int) ∧ (match Nat.ble (2 * a) 255 with | true => 2 * a | false => Nat.xor (2 * a) 283 : Nat) < 256 := by
        rw [d2_nat (by omega)]
        cases hle : Nat.ble (2 * a) 255 with
        | true =>
          have := Nat.le_of_ble_eq_true hle
          rw [if_neg (by omega)]
          exact ⟨rfl, show 2 * a < 256 by omega⟩
        | false =>
          have hgt : ¬ 2 * a ≤ 255 := fun h => by rw [Nat.ble_eq_true_of_le h] at hle; cases hle
          rw [if_pos (by omega)]
          have := xo_nat (a := 2 * a) (b := 283) (by omega) (by omega)
          refine ⟨this, ?_⟩
          have key : (List.range 128).all (fun j => Nat.blt (Nat.xor (2 * (128 + j)) 283) 256) = true := by decide +kernel
          rw [List.all_eq_true] at key
          have := key (a - 128) (List.mem_range.2 (by omega))
          rw [show 128 + (a - 128) = a by omega] at this
          exact Nat.le_of_ble_eq_true this
      have e3 : (if ((b : Int).tmod 2 == 1) = true then xo (o : Int) a else (o : Int)) = ((match Nat.beq (b % 2) 1 with | true => Nat.xor o a | false => o : Nat) : Int) ∧ (match Nat.beq (b % 2) 1 with | true => Nat.xor o a | false => o : Nat) < 512 := by
        rw [Int.tmod_eq_emod_of_nonneg (by omega)]
        cases hm : Nat.beq (b % 2) 1 with
        | true =>
          have := Nat.eq_of_beq_eq_true hm
          rw [if_pos (by rw [beq_iff_eq]; omega)]
          exact ⟨xo_nat ho (by omega), Nat.xor_lt_two_pow (n := 9) ho (by omega)⟩
        | false =>
          have : b % 2 ≠ 1 := fun e => by rw [e] at hm; cases hm
          rw [if_neg (by rw [beq_iff_eq]; omega)]
          exact ⟨rfl, ho⟩
      rw [if_pos (by omega), e1, e2.1, e3.1]
      exact pR_nat n _ _ _ e2.2 (by omega) e3.2
omit [GT] in
def inN (b : Nat) : Nat → Nat → Nat → Nat
  | 0, _, nn => nn
  | k + 1, x, nn => match Nat.beq (gm 8 b x 0) 1 with
    | true => inN b k (x + 1) x
    | false => inN b k (x + 1) nn
theorem inF_nat {b : Nat} (hb : b < 256) : ∀ (k x nn : Nat), x + k ≤ 256 → inF b k x nn = (inN b k x nn : Nat)
  | 0, _, _, _ => rfl
  | k + 1, x, nn, h => by
    have e : pT (b : Int) x = (gm 8 b x 0 : Nat) := pR_nat 8 b x 0 hb (by omega) (by omega)
    unfold inF inN
    rw [e]
    cases hm : Nat.beq (gm 8 b x 0) 1 with
    | true =>
      have := Nat.eq_of_beq_eq_true hm
      rw [if_pos (by rw [beq_iff_eq]; omega)]
      exact inF_nat hb k (x + 1) x (by omega)
    | false =>
      have : gm 8 b x 0 ≠ 1 := fun e => by rw [e] at hm; cases hm
      rw [if_neg (by rw [beq_iff_eq]; omega)]
      exact inF_nat hb k (x + 1) nn (by omega)
theorem in0 : (upTo 0 16).all (fun b => decide (boxV (inN b 256 0 0 : Nat) = g2 sbox b)) = true := by decide +kernel
theorem in1 : (upTo 16 16).all (fun b => decide (boxV (inN b 256 0 0 : Nat) = g2 sbox b)) = true := by decide +kernel
theorem in2 : (upTo 32 16).all (fun b => decide (boxV (inN b 256 0 0 : Nat) = g2 sbox b)) = true := by decide +kernel
theorem in3 : (upTo 48 16).all (fun b => decide (boxV (inN b 256 0 0 : Nat) = g2 sbox b)) = true := by decide +kernel
theorem in4 : (upTo 64 16).all (fun b => decide (boxV (inN b 256 0 0 : Nat) = g2 sbox b)) = true := by decide +kernel
theorem in5 : (upTo 80 16).all (fun b => decide (boxV (inN b 256 0 0 : Nat) = g2 sbox b)) = true := by decide +kernel
theorem in6 : (upTo 96 16).all (fun b => decide (boxV (inN b 256 0 0 : Nat) = g2 sbox b)) = true := by decide +kernel
theorem in7 : (upTo 112 16).all (fun b => decide (boxV (inN b 256 0 0 : Nat) = g2 sbox b)) = true := by decide +kernel
theorem in8 : (upTo 128 16).all (fun b => decide (boxV (inN b 256 0 0 : Nat) = g2 sbox b)) = true := by decide +kernel
theorem in9 : (upTo 144 16).all (fun b => decide (boxV (inN b 256 0 0 : Nat) = g2 sbox b)) = true := by decide +kernel
theorem in10 : (upTo 160 16).all (fun b => decide (boxV (inN b 256 0 0 : Nat) = g2 sbox b)) = true := by decide +kernel
theorem in11 : (upTo 176 16).all (fun b => decide (boxV (inN b 256 0 0 : Nat) = g2 sbox b)) = true := by decide +kernel
theorem in12 : (upTo 192 16).all (fun b => decide (boxV (inN b 256 0 0 : Nat) = g2 sbox b)) = true := by decide +kernel
theorem in13 : (upTo 208 16).all (fun b => decide (boxV (inN b 256 0 0 : Nat) = g2 sbox b)) = true := by decide +kernel
theorem in14 : (upTo 224 16).all (fun b => decide (boxV (inN b 256 0 0 : Nat) = g2 sbox b)) = true := by decide +kernel
theorem in15 : (upTo 240 16).all (fun b => decide (boxV (inN b 256 0 0 : Nat) = g2 sbox b)) = true := by decide +kernel
theorem in_all {b : Nat} (hb : b < 256) : boxV (inF b 256 0 0) = g2 sbox b := by
  have e : inF (b : Int) 256 0 0 = (inN b 256 0 0 : Nat) := inF_nat hb 256 0 0 (by omega)
  rw [e]
  have key : ∀ {i : Nat}, (upTo i 16).all (fun b => decide (boxV (inN b 256 0 0 : Nat) = g2 sbox b)) = true → i ≤ b → b < i + 16 → boxV (inN b 256 0 0 : Nat) = g2 sbox b := fun h h1 h2 =>
    of_decide_eq_true (List.all_eq_true.1 h b (mem_upTo.2 ⟨h1, h2⟩))
  obtain ⟨k, hk⟩ : ∃ k, k = b / 16 := ⟨_, rfl⟩
  have hk16 : k < 16 := by omega
  match k, hk16, hk with
  | 0, _, hk => exact key in0 (by omega) (by omega)
  | 1, _, hk => exact key in1 (by omega) (by omega)
  | 2, _, hk => exact key in2 (by omega) (by omega)
  | 3, _, hk => exact key in3 (by omega) (by omega)
  | 4, _, hk => exact key in4 (by omega) (by omega)
  | 5, _, hk => exact key in5 (by omega) (by omega)
  | 6, _, hk => exact key in6 (by omega) (by omega)
  | 7, _, hk => exact key in7 (by omega) (by omega)
  | 8, _, hk => exact key in8 (by omega) (by omega)
  | 9, _, hk => exact key in9 (by omega) (by omega)
  | 10, _, hk => exact key in10 (by omega) (by omega)
  | 11, _, hk => exact key in11 (by omega) (by omega)
  | 12, _, hk => exact key in12 (by omega) (by omega)
  | 13, _, hk => exact key in13 (by omega) (by omega)
  | 14, _, hk => exact key in14 (by omega) (by omega)
  | 15, _, hk => exact key in15 (by omega) (by omega)
  | k + 16, h, _ => exact absurd h (by omega)
/-- The list, filled as far as k. -/
theorem outF_sbox : ∀ (k n : Nat) (zs : List Int), n + k = 256 → zs.length = 256 → (∀ j, j < n → g2 zs j = g2 sbox j) → outF k n zs = sbox
  | 0, n, zs, h, hz, he => by
    have hs : sbox.length = 256 := by decide +kernel
    show zs = sbox
    rw [← keyL_g2 hz, ← keyL_g2 hs]
    exact keyL_congr fun j hj => he j (by omega)
  | k + 1, n, zs, h, hz, he => by
    unfold outF
    have := outF_sbox k (n + 1) (zs.set n (boxV (inF n 256 0 0))) (by omega) (by rw [List.length_set]; exact hz) fun j hj => by
      unfold g2
      rw [List.getD_eq_getElem?_getD, List.getElem?_set]
      by_cases hjn : n = j
      · subst hjn
        rw [if_pos rfl, if_pos (by omega), in_all (by omega)]
        rfl
      · rw [if_neg hjn, ← List.getD_eq_getElem?_getD]
        exact he j (by omega)
    exact this
omit [GT] in
def eBoxes : Ent := fun args _ _ => match args with
  | [] => some { val := .av (.one (.arr .i64 sbox)) }
  | _ => none
theorem boxes_ent : EntOK Try.prog 12 eBoxes := by
  refine ⟨⟨_, Try.func12, by kernel_rfl, by kernel_rfl⟩, fun args G base res hr ha ρ D N M w hG hin hfr => ?_⟩
  unfold eBoxes at hr
  split at hr
  · simp only [Option.some.injEq] at hr
    subst hr
    obtain ⟨c, hc⟩ : ∃ c, Try.f12.body = some c := Option.isSome_iff_exists.1 (by kernel_rfl)
    have hR : Reaches Try.prog 0 [.code c] (start [] 36 [] 0 []) [.fin] (oEnd sbox) :=
      (reach_run tyT_ok oO_ok mixed_ (o_start hc) trivial rfl).trans (Reaches.loop 257 (o_rounds 256 _ 0 (by omega) (Int.le_refl _) (by rw [List.length_replicate]) (outF_sbox 256 0 _ (by omega) (by rw [List.length_replicate]) fun j hj => by omega)))
    exact ent_val (reach_val tyT_ok Try.func12 hc (avs := []) (.inr rfl) hR (v := .av (.one (.arr .i64 sbox))) (by kernel_rfl) (by kernel_rfl) (by kernel_rfl) (fun s hs => by cases hs) (hr_none hG.gwc) ρ) hG rfl rfl rfl
  · cases hr
end Go.Proofs.Ytkoackalpcmhaaa.Am
/- The abstract machine: loops by their names; runs of functions; contracts by arguments' values. Conditions: none. -/
namespace Go.Proofs.Ytkoackalpcmhaaa.Am
set_option linter.unusedVariables false
set_option linter.unusedSimpArgs false
open Go Go.RowKit

/-! ### Loops, found by their first region -/
def findL (r : Nat) : Code → List AI → List Nat → Option (Code × List AI)
  | .seq a b, k, ns => match findL r a (.code b :: k) ns with
    | some x => some x
    | none => findL r b k ns
  | .block id x, k, ns => findL r x (.blk id :: k) ns
  | .loop x, k, ns => match Nat.beq (firstReg x) r with
    | true => some (x, k)
    | false => findL r x (.hd (ns.headD 0) x :: k) ns.tail
  | .cond _ x y, k, ns => match findL r x k ns with
    | some z => some z
    | none => findL r y k ns
  | _, _, _ => none
def loopAt (fn : Func) (r : Nat) (ns : List Nat) : Code × List AI := match fn.body with
  | some c => (findL r c [] ns).getD (.skip, [])
  | none => (.skip, [])
/-- At a loop's head, with so many rounds left. -/
def hdAt (fn : Func) (r : Nat) (ns : List Nat) (n : Nat) : List AI := .hd n (loopAt fn r ns).1 :: (loopAt fn r ns).2
/-- At a round's beginning. -/
def inAt (fn : Func) (r : Nat) (ns : List Nat) (n : Nat) : List AI := .code (loopAt fn r ns).1 :: .hd n (loopAt fn r ns).1 :: (loopAt fn r ns).2
/-- Ahead of a loop. -/
def toAt (fn : Func) (r : Nat) (ns : List Nat) : List AI := .code (.loop (loopAt fn r ns).1) :: (loopAt fn r ns).2

/-! ### What is leaned on, in plain words -/
def tB (x b : Bool) : Prop := ∀ ρ : Nat → Loc, (ofV (.bool x)).conc ρ = (ofV (.bool b)).conc ρ
def tI (k : IntKind) (x y : Int) : Prop := ∀ ρ : Nat → Loc, (ofV (.int k x)).conc ρ = (ofV (.int k y)).conc ρ
theorem tB_iff {x b : Bool} : tB x b ↔ x = b := by
  constructor
  · intro h
    have := h fun _ => ⟨none, 0⟩
    simp only [ofV, SV.conc, AV.conc, Seg.conc] at this
    injection this
  · intro h ρ
    rw [h]
theorem tI_iff {k : IntKind} {x y : Int} : tI k x y ↔ x = y := by
  constructor
  · intro h
    have := h fun _ => ⟨none, 0⟩
    simp only [ofV, SV.conc, AV.conc, Seg.conc] at this
    injection this
  · intro h ρ
    rw [h]
theorem w64 {z : Int} (h : -9223372036854775808 ≤ z) (h' : z < 9223372036854775808) : IntKind.i64.wrap z = z := by
  simp [IntKind.wrap, IntKind.bits, IntKind.signed]
  omega
theorem w8 {z : Int} (h : 0 ≤ z) (h' : z < 256) : IntKind.u8.wrap z = z := by
  simp [IntKind.wrap, IntKind.bits, IntKind.signed]
  omega
theorem tI_64 {z : Int} : tI .i64 (IntKind.i64.wrap z) z ↔ -9223372036854775808 ≤ z ∧ z < 9223372036854775808 := by
  rw [tI_iff]
  constructor
  · intro h
    simp [IntKind.wrap, IntKind.bits, IntKind.signed] at h
    omega
  · intro h
    exact w64 h.1 h.2
theorem tB_lt {a b : Int} : tB (decide (a < b)) true ↔ a < b := by rw [tB_iff, decide_eq_true_iff]
theorem tB_nlt {a b : Int} : tB (decide (a < b)) false ↔ b ≤ a := by rw [tB_iff, decide_eq_false_iff_not, Int.not_lt]
theorem tB_le {a b : Int} : tB (decide (a ≤ b)) true ↔ a ≤ b := by rw [tB_iff, decide_eq_true_iff]
theorem tB_nle {a b : Int} : tB (decide (a ≤ b)) false ↔ b < a := by rw [tB_iff, decide_eq_false_iff_not, Int.not_le]
theorem tB_gt {a b : Int} : tB (decide (a > b)) true ↔ b < a := tB_lt
theorem tB_ngt {a b : Int} : tB (decide (a > b)) false ↔ a ≤ b := tB_nlt
theorem tB_ge {a b : Int} : tB (decide (a ≥ b)) true ↔ b ≤ a := tB_le
theorem tB_nge {a b : Int} : tB (decide (a ≥ b)) false ↔ a < b := tB_nle
theorem tB_eq {a b : Int} : tB (a == b) true ↔ a = b := by rw [tB_iff, beq_iff_eq]
theorem tB_neq {a b : Int} : tB (a == b) false ↔ a ≠ b := by rw [tB_iff, beq_eq_false_iff_ne]
theorem tB_ne {a b : Int} : tB (a != b) true ↔ a ≠ b := by rw [tB_iff, bne_iff_ne]
theorem tB_nne {a b : Int} : tB (a != b) false ↔ a = b := by rw [tB_iff, bne_eq_false_iff_eq]
theorem allP_nil : AllP [] ↔ True := Iff.rfl
theorem allP_cons {p : Prop} {l : List Prop} : AllP (p :: l) ↔ p ∧ AllP l := Iff.rfl
/-- A hint that tells an integer. -/
def isI (k : IntKind) (z : Int) : Hint := { is := some (ofV (.int k z)) }

section
variable {P : Program} {T : List (Nat × Ty)} {O : List (Nat × Ent)}
variable [GT]

/-! ### Runs from a function's beginning -/
def From (P : Program) (fn : Func) (avs : List SV) (hp : List (Nat × Blk)) (nx : Nat) (gl : List (Nat × Nat)) (todo : List AI) (s : St) : Prop :=
  ∃ c, fn.body = some c ∧ Reaches P 0 [.code c] (start avs fn.ntmps hp nx gl) todo s
omit [GT] in
def runF (T : List (Nat × Ty)) (O : List (Nat × Ent)) (H : Nat → Nat → Hint) (LH : List (Nat × Nat)) (m : Nat) (es ks : List Nat) (fn : Func) (avs : List SV) (hp : List (Nat × Blk)) (nx : Nat) (gl : List (Nat × Nat)) : Option (List AI × St × List Prop) :=
  match fn.body with
  | some c => runN T O H LH 100000 m es ks [.code c] (start avs fn.ntmps hp nx gl)
  | none => none
theorem From.run (hT : TOK P T) (hO : OOK P O) (hmx : P.follows .mixedOrders = true) {H : Nat → Nat → Hint} {LH : List (Nat × Nat)} {m : Nat} {es ks : List Nat} {fn : Func} {avs : List SV} {hp : List (Nat × Blk)} {nx : Nat} {gl : List (Nat × Nat)} {todo' : List AI} {s' : St} {ps : List Prop} (h : runF T O H LH m es ks fn avs hp nx gl = some (todo', s', ps)) (hps : AllP ps) : From P fn avs hp nx gl todo' s' := by
  unfold runF at h
  split at h
  · rename_i c hc
    exact ⟨c, hc, reach_run hT hO hmx h hps (Nat.ble_eq_true_of_le (Nat.zero_le _))⟩
  · cases h
theorem From.trans {fn : Func} {avs : List SV} {hp : List (Nat × Blk)} {nx : Nat} {gl : List (Nat × Nat)} {todo todo' : List AI} {s s' : St} (h : From P fn avs hp nx gl todo s) (k : Reaches P 0 todo s todo' s') : From P fn avs hp nx gl todo' s' :=
  let ⟨c, hc, hr⟩ := h
  ⟨c, hc, hr.trans k⟩
theorem Reaches.rounds {fn : Func} {r : Nat} {ns : List Nat} {s u : St} {c : List AI} (n : Nat) (h : Reaches P 0 (hdAt fn r ns n) s c u) : Reaches P 0 (toAt fn r ns) s c u := Reaches.loop n h
theorem Reaches.one {fn : Func} {r : Nat} {ns : List Nat} {n : Nat} {s u : St} {c : List AI} (h : Reaches P 0 (inAt fn r ns n) s c u) : Reaches P 0 (hdAt fn r ns (n + 1)) s c u := Reaches.round h
/-- A run from somewhere. -/
theorem Reaches.run (hT : TOK P T) (hO : OOK P O) (hmx : P.follows .mixedOrders = true) {H : Nat → Nat → Hint} {LH : List (Nat × Nat)} {fuel m : Nat} {es ks : List Nat} {todo todo' : List AI} {s s' : St} {ps : List Prop} (h : runN T O H LH fuel m es ks todo s = some (todo', s', ps)) (hps : AllP ps) : Reaches P 0 todo s todo' s' := reach_run hT hO hmx h hps (Nat.ble_eq_true_of_le (Nat.zero_le _))

/-! ### A nil slice is an empty row -/
omit [GT] in
def isNilAt (s : St) (t : Nat) : Bool := match s.get t with
  | some (.av (.one (.v (.slice none 0 0)))) => true
  | _ => false
omit [GT] in
def adoptSt (e : TypeId) (k : IntKind) (t : Nat) (s : St) : St :=
  { tm := setNth (some (.av (.one (.r s.nx 0 0 0)))) s.tm t, hp := (s.nx, ⟨1, e, [.arr k []]⟩) :: s.hp, nx := s.nx + 1, gl := s.gl }
theorem Reaches.adopt {m0 : Nat} {todo : List AI} {s : St} {t : Nat} (e : TypeId) (k : IntKind) (h : isNilAt s t = true) : Reaches P m0 todo s todo (adoptSt e k t s) := by
  intro B N M w0 hl hR ρ a w hr
  have hx : s.get t = some (ofV (.slice none 0 0)) := by
    unfold isNilAt at h
    split at h
    · assumption
    · cases h
  have hv := (hr.rel.slots t _ hx).1
  have hag : ∀ i, i < s.nx → up ρ s.nx ⟨none, 0⟩ i = ρ i := fun i hi => up_agree (D := (· < s.nx)) (by omega) i hi
  refine hR (up ρ s.nx ⟨none, 0⟩) a w ⟨⟨fun u sv hu => ?_, fun x id hx => ?_, ?_, hr.rel.kept, hr.rel.defers⟩, ?_⟩
  · unfold adoptSt St.get at hu
    simp only [nth_set] at hu
    by_cases htu : t = u
    · subst htu
      rw [if_pos rfl] at hu
      split at hu
      · rename_i v hv'
        injection hu with hu
        subst hu
        split at hv'
        · injection hv' with hv'
          injection hv' with hv'
          subst hv'
          refine ⟨?_, fun s hs => ?_⟩
          · rw [hv]
            simp [ofV, SV.conc, AV.conc, Seg.conc, up_self, radr]
          · simp only [AV.segs, List.mem_cons, List.not_mem_nil, or_false] at hs
            subst hs
            show s.nx < s.nx + 1
            omega
        · cases hv'
      · cases hu
    · rw [if_neg htu] at hu
      obtain ⟨h1, h2⟩ := hr.rel.slots u sv hu
      exact ⟨by rw [SV.conc_congr hag h2]; exact h1, h2.mono fun i hi => Nat.lt_succ_of_lt hi⟩
  · obtain ⟨h1, h2⟩ := hr.rel.globals x id hx
    exact ⟨by rw [hag id h2]; exact h1, Nat.lt_succ_of_lt h2⟩
  · have ha : ∀ i, look ((s.nx, (⟨1, e, [.arr k []]⟩ : Blk)) :: s.hp) i = if s.nx = i then some ⟨1, e, [.arr k []]⟩ else look s.hp i := fun i => look_cons _ _ _ _
    refine hr.rel.hr.step (U := fun i => i = s.nx) hag (fun i hi => Nat.lt_succ_of_lt hi) (Kept.refl _ _ _) (fun i b hb hU => ?_) (fun i b x hb hU hx => rfl) (fun i b hb hU => ?_) (fun i b x hb hU hx => ?_) (fun i b x hb hU hk hx => ?_) (fun i j bi bj x y hi hj hij hU hk hx hy => ?_)
    · rw [show (adoptSt e k t s).hp = (s.nx, (⟨1, e, [.arr k []]⟩ : Blk)) :: s.hp from rfl, ha, if_neg (fun h => hU h.symm)] at hb
      exact hb
    · subst hU
      rw [show (adoptSt e k t s).hp = (s.nx, (⟨1, e, [.arr k []]⟩ : Blk)) :: s.hp from rfl, ha, if_pos rfl] at hb
      injection hb with hb
      subst hb
      refine ⟨Nat.lt_succ_self _, fun x hx => (by simp at hx; subst hx; trivial), ?_⟩
      show w.ownsRow 0 e 1 _ _ _
      rw [up_self]
      exact ⟨(Nat.mul_one _).symm, .inl ⟨rfl, rfl⟩⟩
    · subst hU
      rw [up_self] at hx
      cases hx
    · subst hU
      rw [up_self] at hx
      cases hx
    · rcases hU with rfl | rfl
      · rw [up_self] at hx; cases hx
      · rw [up_self] at hy; cases hy
  · rw [hr.size]
    exact (setNth_len _ _ _).symm
end
end Go.Proofs.Ytkoackalpcmhaaa.Am
