/- The cipher: the reference's Next, and that it is Next. Conditions: none. -/
import Derived.Test.YtkoackalpcmhaaaA9
namespace Go.Proofs.Ytkoackalpcmhaaa.Am
set_option linter.unusedVariables false
set_option linter.unusedSimpArgs false
open Go Go.RowKit

def setAt (bf : Nat → Int) (p : Nat) (v : Int) (j : Nat) : Int := if j = p then v else bf j
def inR' (z : Int) : Prop := 0 ≤ z ∧ z.toNat ≤ 255
def cN (z c : Int) : Int := IntKind.i64.wrap (IntKind.i64.wrap z + c)
def rG : Nat → Nat → Int → (Nat → Int) → (Nat → Int)
  | 0, _, _, bf => bf
  | n + 1, i, c, bf => rG n (i + 1) (IntKind.i64.wrap ((cN (bf (15 - i)) c).tdiv 256)) (setAt bf (15 - i) (IntKind.u8.wrap ((cN (bf (15 - i)) c).tmod 256)))
def rnextL (bs : List Int) : List Int := keyL 16 (rG 16 0 1 (g2 bs))
theorem rnext_run (bf : Nat → Int) : wholeV tyT [] noH [(3, 17)] 1000 Try.f17 [.av (.one (.arr .u8 (keyL 16 bf)))] = some (.av (.one (.arr .u8 (keyL 16 (rG 16 0 1 bf)))), []) := by
  kernel_rfl
theorem rnext_ent : EntOK Try.prog 17 (e16 rnextL) := by
  refine ok_e16 Try.func17 (by kernel_rfl) (by kernel_rfl) fun bs hl ρ w => ?_
  have := am_val tyT_ok nil_ok mixed_ Try.func17 (avs := [.av (.one (.arr .u8 (keyL 16 (g2 bs))))]) (by kernel_rfl) (rnext_run (g2 bs)) trivial (by kernel_rfl) (by kernel_rfl) ρ w
  rw [keyL_g2 hl] at this
  exact this

theorem i64_small {z : Int} (h : 0 ≤ z) (h' : z < 65536) : IntKind.i64.wrap z = z := by
  simp [IntKind.wrap, IntKind.bits, IntKind.signed]
  omega
theorem u8_small {z : Int} (h : 0 ≤ z) (h' : z < 256) : IntKind.u8.wrap z = z := by
  simp [IntKind.wrap, IntKind.bits, IntKind.signed]
  omega
theorem u8_eq (z : Int) : IntKind.u8.wrap z = z % 256 := by
  simp [IntKind.wrap, IntKind.bits, IntKind.signed]
theorem cN_small {z c : Int} (h : inR' z) (hc : 0 ≤ c) (hc' : c < 300) : cN z c = z + c := by
  unfold cN
  obtain ⟨h1, h2⟩ := h
  rw [i64_small h1 (by omega), i64_small (by omega) (by omega)]
theorem rG_zero : ∀ (n i : Nat) (bf : Nat → Int), (∀ j, inR' (bf j)) → rG n i 0 bf = bf
  | 0, _, _, _ => rfl
  | n + 1, i, bf, h => by
    have hz := h (15 - i)
    obtain ⟨h1, h2⟩ := hz
    have e : cN (bf (15 - i)) 0 = bf (15 - i) := by rw [cN_small ⟨h1, h2⟩ (by omega) (by omega), Int.add_zero]
    have e2 : setAt bf (15 - i) (IntKind.u8.wrap ((bf (15 - i)).tmod 256)) = bf := by
      funext j
      unfold setAt
      split
      · rename_i hj
        subst hj
        rw [Int.tmod_eq_emod_of_nonneg h1, Int.emod_eq_of_lt h1 (by omega), u8_small h1 (by omega)]
      · rfl
    rw [rG, e, e2, Int.tdiv_eq_ediv_of_nonneg h1, Int.ediv_eq_zero_of_lt h1 (by omega), i64_small (by omega) (by omega)]
    exact rG_zero n (i + 1) bf h
theorem next_rG : ∀ (n i : Nat) (bf : Nat → Int), (∀ j, inR' (bf j)) → nextG n i bf = rG n i 1 bf
  | 0, _, _, _ => rfl
  | n + 1, i, bf, h => by
    obtain ⟨h1, h2⟩ := h (15 - i)
    have e : cN (bf (15 - i)) 1 = bf (15 - i) + 1 := cN_small ⟨h1, h2⟩ (by omega) (by omega)
    have h3 : (0 : Int) ≤ bf (15 - i) + 1 := by omega
    have e2 : setAt bf (15 - i) (IntKind.u8.wrap ((bf (15 - i) + 1).tmod 256)) = incAt bf i := by
      funext j
      unfold setAt incAt inc
      split
      · rename_i hj
        subst hj
        rw [Int.tmod_eq_emod_of_nonneg h3, u8_eq, u8_eq, Int.emod_emod_of_dvd _ (Int.dvd_refl _)]
      · rfl
    have hin : ∀ j, inR' (incAt bf i j) := fun j => by
      unfold incAt
      split
      · unfold inc
        rw [u8_eq]
        constructor <;> omega
      · exact h j
    rw [nextG, rG, e, e2, Int.tdiv_eq_ediv_of_nonneg h3]
    by_cases h255 : bf (15 - i) = 255
    · have hc : (inc (bf (15 - i)) != 0) = false := by rw [h255]; decide
      rw [hc, if_neg (by decide), h255, show ((255 : Int) + 1) / 256 = 1 by decide, i64_small (by omega) (by omega)]
      exact next_rG n (i + 1) _ hin
    · have hc : (inc (bf (15 - i)) != 0) = true := by
        unfold inc
        rw [u8_small h3 (by omega), bne_iff_ne]
        omega
      rw [hc, if_pos rfl, Int.ediv_eq_zero_of_lt h3 (by omega), i64_small (by omega) (by omega)]
      exact (rG_zero n (i + 1) _ hin).symm
theorem next_eq {bs : List Int} (h : ∀ j, inR' (g2 bs j)) : nextL bs = rnextL bs := by
  unfold nextL rnextL
  rw [next_rG 16 0 _ h]
end Go.Proofs.Ytkoackalpcmhaaa.Am
