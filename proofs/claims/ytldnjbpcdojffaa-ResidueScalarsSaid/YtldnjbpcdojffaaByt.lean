/- Plain law: a number's bytes, the lowest one first. Conditions: none. -/
import Derived.Test.YtldnjbpcdojffaaOrd
namespace Go.Proofs.Ytldnjbpcdojffaa
set_option linter.unusedVariables false
set_option linter.unusedSimpArgs false
namespace Pl

def byteAt (N i : Nat) : Nat := N / 256 ^ i % 256
def bytesOf (n N : Nat) : List Nat := (List.range n).map (byteAt N)
theorem bytesOf_length (n N : Nat) : (bytesOf n N).length = n := by simp [bytesOf]
theorem bytesOf_succ (n N : Nat) : bytesOf (n + 1) N = bytesOf n N ++ [byteAt N n] := by simp [bytesOf, List.range_succ]
theorem byteAt_lt (N i : Nat) : byteAt N i < 256 := Nat.mod_lt _ (by decide)
theorem bytesOf_lt (n N : Nat) : ∀ x ∈ bytesOf n N, x < 256 := by
  intro x hx
  simp only [bytesOf, List.mem_map] at hx
  obtain ⟨i, _, rfl⟩ := hx
  exact byteAt_lt N i
theorem le_bytesOf (n N : Nat) : le (bytesOf n N) = N % 256 ^ n := by
  induction n with
  | zero => simp [bytesOf, le, Nat.mod_one]
  | succ n ih =>
    rw [bytesOf_succ, le_append, bytesOf_length, ih, le, le, Nat.mul_zero, Nat.add_zero, byteAt, Nat.pow_succ, Nat.mod_mul]
theorem le_bytes32 {N : Nat} (h : N < T256) : le (bytesOf 32 N) = N := by
  rw [le_bytesOf]
  exact Nat.mod_eq_of_lt (Nat.lt_of_lt_of_eq h (by decide +kernel))

/-- A word's byte. -/
theorem byte_word {N k q r x : Nat} (hk : k = 8 * q + r) (hr : r < 8) (hx : x = N / 18446744073709551616 ^ q % 18446744073709551616) : x / 2 ^ (8 * r) % 256 = byteAt N k := by
  have h64 : (18446744073709551616 : Nat) = 256 ^ 8 := by decide
  have e2 : (2 : Nat) ^ (8 * r) = 256 ^ r := by rw [Nat.pow_mul]
  have e1 : (256 : Nat) ^ 8 = 256 ^ r * 256 ^ (8 - r) := by rw [← Nat.pow_add]; congr 1; omega
  have e3 : (256 : Nat) ∣ 256 ^ (8 - r) := ⟨256 ^ (7 - r), by rw [← Nat.pow_succ']; congr 1; omega⟩
  unfold byteAt
  rw [hx, h64, e2, hk, Nat.pow_add, Nat.pow_mul, ← Nat.div_div_eq_div_mul]
  generalize N / (256 ^ 8) ^ q = M
  rw [e1, Nat.mod_mul_right_div_self, Nat.mod_mod_of_dvd _ e3]

/-- The bytes of a number that bytes make. -/
theorem bytesOf_le : ∀ (l : List Nat), (∀ x ∈ l, x < 256) → bytesOf l.length (le l) = l := by
  intro l
  induction l with
  | nil => intro _; simp [bytesOf]
  | cons x l ih =>
    intro h
    have hx := h x (by simp)
    have ih := ih fun y hy => h y (by simp [hy])
    rw [List.length_cons]
    unfold bytesOf at ih ⊢
    rw [List.range_succ_eq_map, List.map_cons, List.map_map]
    congr 1
    · unfold byteAt; rw [le, Nat.pow_zero, Nat.div_one]; omega
    · refine Eq.trans (List.map_congr_left fun i _ => ?_) ih
      simp only [Function.comp, byteAt, le]
      rw [show 256 ^ (i + 1) = 256 * 256 ^ i by rw [Nat.pow_succ, Nat.mul_comm], ← Nat.div_div_eq_div_mul, show (x + 256 * le l) / 256 = le l by omega]

end Pl
end Go.Proofs.Ytldnjbpcdojffaa
