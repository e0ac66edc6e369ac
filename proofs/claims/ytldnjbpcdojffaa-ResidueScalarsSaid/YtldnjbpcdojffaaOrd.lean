/- Plain law: numbers modulo the order of the curve's base; the number of a row of bytes. Conditions: none. -/
import Derived.Test.YtldnjbpcdojffaaV
namespace Go.Proofs.Ytldnjbpcdojffaa
set_option linter.unusedVariables false
set_option linter.unusedSimpArgs false
namespace Pl

def pL : Nat := 7237005577332262213973186563042994240857116359379907606001950938285454250989
theorem pL_pos : 0 < pL := by decide +kernel
theorem pL_small : pL * 2 + 1 < T256 := by decide +kernel
theorem pL_words : V 6346243789798364141 1503914060200516822 0 1152921504606846976 = pL := by decide +kernel
theorem pL_W : W4 6346243789798364141 1503914060200516822 0 1152921504606846976 := by unfold W4; omega

/-- The number of a row of bytes, the lowest one first. -/
def le : List Nat → Nat
  | [] => 0
  | x :: l => x + 256 * le l
theorem le_lt : ∀ (l : List Nat), (∀ x ∈ l, x < 256) → le l < 256 ^ l.length
  | [], _ => by simp [le]
  | x :: l, h => by
    have h1 := le_lt l fun y hy => h y (by simp [hy])
    have h2 := h x (by simp)
    rw [le, List.length_cons, Nat.pow_succ]
    omega
theorem le_append : ∀ (a b : List Nat), le (a ++ b) = le a + 256 ^ a.length * le b
  | [], b => by simp [le]
  | x :: a, b => by
    rw [List.cons_append, le, le_append a b, le, List.length_cons, Nat.pow_succ, Nat.mul_add, ← Nat.mul_assoc 256, Nat.mul_comm 256 (256 ^ a.length), Nat.add_assoc]

/-- Twice and a bit. -/
theorem twice_bit {n one : Nat} (hn : n < pL) (h1 : one ≤ 1) : 2 * n + one < pL ∧ (2 * n + one) % pL = 2 * n + one ∨ pL ≤ 2 * n + one ∧ (2 * n + one) % pL = 2 * n + one - pL := by
  have hp := pL_pos
  rcases Nat.lt_or_ge (2 * n + one) pL with h | h
  · exact .inl ⟨h, Nat.mod_eq_of_lt h⟩
  · refine .inr ⟨h, ?_⟩
    rw [Nat.mod_eq_sub_mod h, Nat.mod_eq_of_lt (by omega)]
theorem sum_mod {n m : Nat} (hn : n < pL) (hm : m < pL) : n + m < pL ∧ (n + m) % pL = n + m ∨ pL ≤ n + m ∧ (n + m) % pL = n + m - pL := by
  rcases Nat.lt_or_ge (n + m) pL with h | h
  · exact .inl ⟨h, Nat.mod_eq_of_lt h⟩
  · refine .inr ⟨h, ?_⟩
    rw [Nat.mod_eq_sub_mod h, Nat.mod_eq_of_lt (by omega)]

/-- What has been reckoned when i of the byte c's bits are left. -/
def SC (A c i o : Nat) : Prop := o = (A * 2 ^ (8 - i) + c / 2 ^ i) % pL
theorem SC_start {A c : Nat} (hA : A < pL) (hc : c < 256) : SC A c 8 A := by
  unfold SC
  rw [show c / 2 ^ 8 = 0 from Nat.div_eq_of_lt (by omega), Nat.sub_self, Nat.pow_zero, Nat.mul_one, Nat.add_zero, Nat.mod_eq_of_lt hA]
theorem SC_step {A c i o p : Nat} (hi : i < 8) (h : SC A c (i + 1) o) (hp : p = (2 * o + c / 2 ^ i % 2) % pL) : SC A c i p := by
  unfold SC at h ⊢
  have e1 : c / 2 ^ i = 2 * (c / 2 ^ (i + 1)) + c / 2 ^ i % 2 := by rw [Nat.pow_succ, ← Nat.div_div_eq_div_mul]; omega
  have e2 : 2 ^ (8 - i) = 2 ^ (8 - (i + 1)) * 2 := by rw [← Nat.pow_succ]; congr 1; omega
  have e3 : A * 2 ^ (8 - i) + c / 2 ^ i = 2 * (A * 2 ^ (8 - (i + 1)) + c / 2 ^ (i + 1)) + c / 2 ^ i % 2 := by
    rw [e2, ← Nat.mul_assoc]; omega
  rw [e3, hp, h, Nat.add_mod, Nat.mul_mod_mod, ← Nat.add_mod]
theorem SC_end {A c o : Nat} (h : SC A c 0 o) : o = (c + 256 * A) % pL := by
  unfold SC at h
  rw [h, Nat.pow_zero, Nat.div_one]
  congr 1
  omega
/-- .. and when a row of bytes, the last one first, is over. -/
theorem SC_row {A c o : Nat} {l : List Nat} (hA : A = le l % pL) (h : SC A c 0 o) : o = le (c :: l) % pL := by
  rw [SC_end h, hA, le, Nat.add_mod, Nat.mul_mod_mod, ← Nat.add_mod]

end Pl
end Go.Proofs.Ytldnjbpcdojffaa
