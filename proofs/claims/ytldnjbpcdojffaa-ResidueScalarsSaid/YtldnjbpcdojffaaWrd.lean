/- Plain law: words that bytes fill one by one. Conditions: none. -/
import Derived.Test.YtldnjbpcdojffaaByt
namespace Go.Proofs.Ytldnjbpcdojffaa
set_option linter.unusedVariables false
set_option linter.unusedSimpArgs false
namespace Pl

/-- The number of a row of words, the lowest one first. -/
def lw : List Nat → Nat
  | [] => 0
  | x :: l => x + 18446744073709551616 * lw l
theorem lw_set : ∀ (l : List Nat) (q y : Nat) (h : q < l.length), lw (l.set q y) + l[q] * 18446744073709551616 ^ q = lw l + y * 18446744073709551616 ^ q
  | [], q, y, h => by simp at h
  | x :: l, 0, y, h => by simp [lw]; omega
  | x :: l, q + 1, y, h => by
    have ih := lw_set l q y (by simpa using h)
    rw [List.set_cons_succ, lw, lw, List.getElem_cons_succ, Nat.pow_succ]
    generalize 18446744073709551616 ^ q = B at ih ⊢
    grind
theorem lw_get : ∀ (l : List Nat) (q : Nat) (h : q < l.length), (∀ x ∈ l, x < 18446744073709551616) → l[q] = lw l / 18446744073709551616 ^ q % 18446744073709551616
  | [], q, h, _ => by simp at h
  | x :: l, 0, h, ha => by
    have := ha x (by simp)
    simp [lw]; omega
  | x :: l, q + 1, h, ha => by
    have ih := lw_get l q (by simpa using h) fun y hy => ha y (by simp [hy])
    have hx := ha x (by simp)
    rw [List.getElem_cons_succ, ih, lw, Nat.pow_succ', ← Nat.div_div_eq_div_mul, show (x + 18446744073709551616 * lw l) / 18446744073709551616 = lw l by omega]
theorem lw_four (a b c d : Nat) : lw [a, b, c, d] = V a b c d := by simp [lw, V]; omega

theorem pow_word (q r : Nat) : (256 : Nat) ^ (8 * q + r) = 18446744073709551616 ^ q * 256 ^ r := by
  rw [Nat.pow_add, Nat.pow_mul]

/-- A byte more: the word it goes into is below its place. -/
theorem lw_byte {l : List Nat} {k q r c n : Nat} (hk : k = 8 * q + r) (hr : r < 8) (hq : q < l.length) (ha : ∀ x ∈ l, x < 18446744073709551616) (hc : c < 256) (hn : n < 256 ^ k) (hl : lw l = n) :
    l[q] < 256 ^ r ∧ l[q] + c * 256 ^ r < 18446744073709551616 ∧ lw (l.set q (l[q] + c * 256 ^ r)) = n + 256 ^ k * c := by
  have h1 := lw_get l q hq ha
  have h3 : l[q] < 256 ^ r := by
    rw [h1, hl]
    refine Nat.lt_of_le_of_lt (Nat.mod_le _ _) ?_
    rw [Nat.div_lt_iff_lt_mul (Nat.pow_pos (by decide)), Nat.mul_comm, ← pow_word, ← hk]
    exact hn
  have h4 : l[q] + c * 256 ^ r < 18446744073709551616 := by
    have e : (18446744073709551616 : Nat) = 256 ^ r * 256 ^ (8 - r) := by rw [← Nat.pow_add, show r + (8 - r) = 8 by omega]
    have e2 : 256 ≤ 256 ^ (8 - r) := by
      have := Nat.pow_le_pow_right (n := 256) (by decide) (show 1 ≤ 8 - r by omega)
      simpa using this
    have e3 : 256 ^ r * 256 ≤ 18446744073709551616 := by rw [e]; exact Nat.mul_le_mul_left _ e2
    have e4 : c * 256 ^ r ≤ 255 * 256 ^ r := Nat.mul_le_mul_right _ (by omega)
    omega
  refine ⟨h3, h4, ?_⟩
  have h2 := lw_set l q (l[q] + c * 256 ^ r) hq
  have e5 : (l[q] + c * 256 ^ r) * 18446744073709551616 ^ q = l[q] * 18446744073709551616 ^ q + 256 ^ k * c := by
    rw [Nat.add_mul, hk, pow_word, Nat.mul_comm c, Nat.mul_right_comm, Nat.mul_comm (256 ^ r)]
  rw [e5, hl] at h2
  omega

theorem le_take {zs : List Nat} {k : Nat} (h : k < zs.length) : le (zs.take (k + 1)) = le (zs.take k) + 256 ^ k * zs[k] := by
  rw [List.take_succ_eq_append_getElem h, le_append, List.length_take, Nat.min_eq_left (by omega), le, le, Nat.mul_zero, Nat.add_zero]
theorem le_take_lt {zs : List Nat} (hz : ∀ x ∈ zs, x < 256) {k : Nat} (h : k ≤ zs.length) : le (zs.take k) < 256 ^ k := by
  have := le_lt (zs.take k) fun x hx => hz x (List.mem_of_mem_take hx)
  rwa [List.length_take, Nat.min_eq_left h] at this

/-- Bits that don't meet. -/
theorem or_add {x c r : Nat} (hx : x < 256 ^ r) : x ||| c * 256 ^ r = x + c * 256 ^ r := by
  rw [show (256 : Nat) = 2 ^ 8 from rfl, ← Nat.pow_mul] at hx ⊢
  rw [Nat.or_comm, Nat.mul_comm, ← Nat.two_pow_add_eq_or_of_lt hx, Nat.add_comm]

end Pl
end Go.Proofs.Ytldnjbpcdojffaa
