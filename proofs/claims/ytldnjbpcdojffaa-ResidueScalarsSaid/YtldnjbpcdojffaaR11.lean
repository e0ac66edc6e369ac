/- @@NUM 25 The walk of residue's bit. Conditions: words are below 2^64. -/
import Derived.Test.YtldnjbpcdojffaaR6
import Derived.WalkSmall
namespace Go.Proofs.Ytldnjbpcdojffaa
set_option linter.unusedVariables false
set_option linter.unusedSimpArgs false
open Go Go.RowKit
open Pl (V V8 W4 T256 pP)

theorem word_bit {q r : Nat} (hr : r < 64) (n : Nat) (h : n = 64 * q + r) (M : Nat) : M / 18446744073709551616 ^ q % 18446744073709551616 / 2 ^ r % 2 = M / 2 ^ n % 2 := by
  subst h
  have e1 : (18446744073709551616 : Nat) = 2 ^ r * 2 ^ (64 - r) := by rw [← Nat.pow_add, show r + (64 - r) = 64 by omega]
  have e2 : (2 : Nat) ^ (64 * q + r) = 18446744073709551616 ^ q * 2 ^ r := by rw [Nat.pow_add, Nat.pow_mul]
  have e3 : (2 : Nat) ∣ 2 ^ (64 - r) := ⟨2 ^ (63 - r), by rw [← Nat.pow_succ', show (63 - r).succ = 64 - r by omega]⟩
  rw [e2, ← Nat.div_div_eq_div_mul]
  generalize M / 18446744073709551616 ^ q = K
  rw [e1, Nat.mod_mul_right_div_self, Nat.mod_mod_of_dvd _ e3]

theorem word_pick (a0 a1 a2 a3 : Nat) (ha : W4 a0 a1 a2 a3) (q : Nat) (hq : q < 4) : ∃ x : Nat, x < 18446744073709551616 ∧ x = V a0 a1 a2 a3 / 18446744073709551616 ^ q % 18446744073709551616 ∧ ∀ h, (#[.int .u64 a0, .int .u64 a1, .int .u64 a2, .int .u64 a3].toList : List Value)[q]'h = .int .u64 x := by
  unfold W4 at ha
  unfold V
  rcases (show q = 0 ∨ q = 1 ∨ q = 2 ∨ q = 3 by omega) with rfl | rfl | rfl | rfl
  · exact ⟨a0, by omega, by simp only [Nat.reducePow]; omega, fun _ => rfl⟩
  · exact ⟨a1, by omega, by simp only [Nat.reducePow]; omega, fun _ => rfl⟩
  · exact ⟨a2, by omega, by simp only [Nat.reducePow]; omega, fun _ => rfl⟩
  · exact ⟨a3, by omega, by simp only [Nat.reducePow]; omega, fun _ => rfl⟩

set_option maxHeartbeats 1000000 in
theorem bit_fact (a0 a1 a2 a3 i : Nat) (ha : W4 a0 a1 a2 a3) (hi : i < 256) : ∃ z : Nat, z = V a0 a1 a2 a3 / 2 ^ i % 2 ∧ ∀ w : World,
    Calls Try.prog 50 #[.agg #[.int .u64 a0, .int .u64 a1, .int .u64 a2, .int .u64 a3], .int .i64 i] w fun e w' => e = .returned (.int .u64 z) ∧ Below w.heap.size w w' := by
  have h0 : i / 64 < 4 := by omega
  have h1 : i % 64 < 64 := Nat.mod_lt _ (by omega)
  obtain ⟨x, hx, hxv, hp⟩ := word_pick a0 a1 a2 a3 ha (i / 64) h0
  have hz : x / 2 ^ (i % 64) % 2 = V a0 a1 a2 a3 / 2 ^ i % 2 := by rw [hxv]; exact word_bit h1 i (by omega) _
  refine ⟨_, hz, fun w => ?_⟩
  clear hz hxv
  simp only at hp
  go_enter Try.func50, Try.ntmps50
  go_wp2
  have hy : x / 2 ^ (i % 64) < 18446744073709551616 := Nat.lt_of_le_of_lt (Nat.div_le_self _ _) hx
  have hb : bits .and .u64 ((x : Int) / 2 ^ (i % 64)) 1 = ((x / 2 ^ (i % 64) % 2 : Nat) : Int) := by
    have e : ((x : Int) / 2 ^ (i % 64)) = ((x / 2 ^ (i % 64) : Nat) : Int) := by push_cast; rfl
    rw [e]
    generalize x / 2 ^ (i % 64) = y at hy ⊢
    rw [and_one_u64 _ (by omega) (by omega)]; rfl
  rw [hb]
  go_ret
  refine ⟨rfl, ?_⟩
  go_grown

end Go.Proofs.Ytldnjbpcdojffaa
