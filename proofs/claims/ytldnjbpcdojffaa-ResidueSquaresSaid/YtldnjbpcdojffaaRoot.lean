/- Plain law: square roots modulo 2^255 - 19. -/
import Derived.Test.YtldnjbpcdojffaaField
namespace Go.Proofs.Ytldnjbpcdojffaa
set_option linter.unusedVariables false
set_option linter.unusedSimpArgs false
namespace Pl

def e8 : Nat := 7237005577332262213973186563042994240829374041602535252466099000494570602494
def q4 : Nat := 14474011154664524427946373126085988481658748083205070504932198000989141204987
def h2 : Nat := 28948022309329048855892746252171976963317496166410141009864396001978282409974
theorem e8_eq : e8 * 8 = pP + 3 := by decide +kernel
theorem q4_eq : q4 * 4 = pP - 1 := by decide +kernel
theorem h2_eq : h2 * 2 = pP - 1 := by decide +kernel
theorem q4_two : q4 * 2 = h2 := by decide +kernel
theorem e8_h2 : e8 * 4 = h2 + 2 := by decide +kernel
theorem pP_odd : pP % 2 = 1 := by decide +kernel

theorem half_two : 2 ^ h2 % pP = pP - 1 := by
  have h := powm_eq pP 256 2 h2 (by decide +kernel)
  rw [← h]
  decide +kernel

theorem F_sub_zero {a b : F} (h : a - b = 0) : a = b := by
  have e : a = (a - b) + b := by grind
  rw [e, h]; grind

theorem sq_one {x : Nat} (h : x * x % pP = 1) : x % pP = 1 ∨ x % pP = pP - 1 := by
  have h1 : toF (x * x) = toF 1 := toF_eq.2 (by rw [h]; decide +kernel)
  rw [toF_mul, toF_one] at h1
  have h2 : (toF x - 1) * (toF x + 1) = 0 := by grind
  rcases F_mul_eq_zero h2 with h3 | h3
  · left
    have h4 : toF x = 1 := F_sub_zero h3
    have h5 := congrArg Fin.val h4
    rw [toF_val] at h5
    rw [h5]; decide +kernel
  · right
    have h4 : toF (x + 1) = toF 0 := by rw [toF_add, toF_one, toF_zero]; exact h3
    have h5 := toF_eq.1 h4
    have h6 := Nat.mod_lt x (show 0 < pP by have := pP_gt; omega)
    have h7 := pP_gt
    rw [Nat.zero_mod, Nat.add_mod, Nat.mod_eq_of_lt (show 1 < pP by omega)] at h5
    generalize x % pP = y at h5 h6 ⊢
    rcases Nat.lt_or_ge (y + 1) pP with h8 | h8
    · rw [Nat.mod_eq_of_lt h8] at h5; omega
    · exact Nat.eq_sub_of_add_eq (Nat.le_antisymm h6 h8)

theorem sq_mod (x n : Nat) : x ^ n * x ^ n % pP = x ^ (n * 2) % pP := by rw [Nat.mul_two, Nat.pow_add]

/-- Where neither candidate is a root there is none. -/
theorem root_none {A t i u : Nat} (hA : A < pP) (ht : t = A ^ e8 % pP) (hi : i = 2 ^ q4 % pP) (hu : u = t * i % pP) (h1 : t * t % pP ≠ A) (h2' : u * u % pP ≠ A) (x : Nat) : x * x % pP ≠ A := by
  intro hx
  have hp := pP_gt
  by_cases h0 : A = 0
  · apply h1
    rw [ht, h0, Nat.zero_pow (by decide +kernel), Nat.zero_mod, Nat.mul_zero, Nat.zero_mod]
  have hx0 : x % pP ≠ 0 := by
    intro e
    apply h0
    rw [← hx, Nat.mul_mod, e, Nat.mul_zero, Nat.zero_mod]
  have hf := fermat hx0
  have e1 : t * t % pP = x ^ h2 * (x * x) % pP := by
    have e2 : A ^ e8 % pP = (x * x) ^ e8 % pP := pow_mod_congr _ _ _ _ (by rw [← hx, Nat.mod_mod])
    rw [ht, ← Nat.mul_mod, sq_mod, pow_mod_congr A (x * x) (e8 * 2) pP (by rw [← hx, Nat.mod_mod]), ← Nat.pow_two x, ← Nat.pow_mul, show 2 * (e8 * 2) = h2 + 2 by rw [← e8_h2]; omega, Nat.pow_add]
  have e3 : x ^ h2 * x ^ h2 % pP = 1 := by rw [sq_mod, h2_eq]; exact hf
  rcases sq_one e3 with h | h
  · apply h1
    rw [e1, Nat.mul_mod, h, Nat.one_mul, Nat.mod_mod, hx]
  · apply h2'
    have ei : i * i % pP = pP - 1 := by rw [hi, ← Nat.mul_mod, sq_mod, q4_two, half_two]
    have e4 : u * u % pP = (t * t % pP) * (i * i % pP) % pP := by
      rw [hu, ← Nat.mul_mod, ← Nat.mul_mod]
      congr 1
      grind
    rw [e4, e1, ei, Nat.mul_mod (x ^ h2) (x * x), h, hx]
    have e5 : (pP - 1) * A % pP * (pP - 1) % pP = A := by
      rw [Nat.mod_mul_mod]
      have e6 : (pP - 1) * A * (pP - 1) = A + pP * (A * (pP - 2)) := by
        obtain ⟨q, hq⟩ : ∃ q, pP = q + 2 := ⟨pP - 2, by omega⟩
        rw [hq]
        simp only [show q + 2 - 1 = q + 1 by omega, Nat.add_sub_cancel]
        grind
      rw [e6, Nat.add_mul_mod_self_left, Nat.mod_eq_of_lt hA]
    exact e5

/-- Two even roots of one square are the same. -/
theorem same_root {r x : Nat} (hr : r < pP) (hx : x < pP) (er : r % 2 = 0) (ex : x % 2 = 0) (h : r * r % pP = x * x % pP) : r = x := by
  have h1 : toF (r * r) = toF (x * x) := toF_eq.2 h
  rw [toF_mul, toF_mul] at h1
  have h2 : (toF r - toF x) * (toF r + toF x) = 0 := by grind
  rcases F_mul_eq_zero h2 with h3 | h3
  · have h4 := toF_eq.1 (F_sub_zero h3)
    rw [Nat.mod_eq_of_lt hr, Nat.mod_eq_of_lt hx] at h4
    exact h4
  · rw [← toF_add, toF_eq_zero] at h3
    have h4 := pP_odd
    have h5 : r + x = 0 ∨ r + x = pP := by
      rcases Nat.lt_or_ge (r + x) pP with h6 | h6
      · left; rw [Nat.mod_eq_of_lt h6] at h3; exact h3
      · right
        have h7 : (r + x) % pP = r + x - pP := by rw [Nat.mod_eq_sub_mod h6, Nat.mod_eq_of_lt (by omega)]
        omega
    omega

/-- The other root: the even one of both. -/
theorem neg_root {r : Nat} (hr : r < pP) (o : r % 2 = 1) : (0 % pP + (pP - r % pP)) % pP = pP - r ∧ (pP - r) % 2 = 0 ∧ pP - r < pP ∧ (pP - r) * (pP - r) % pP = r * r % pP := by
  have h1 := pP_odd
  have h2 : r % pP = r := Nat.mod_eq_of_lt hr
  have h3 : (0 : Nat) % pP = 0 := Nat.zero_mod _
  refine ⟨by rw [h2, h3, Nat.zero_add]; exact Nat.mod_eq_of_lt (by omega), by omega, by omega, ?_⟩
  apply toF_eq.1
  rw [toF_mul, toF_sub (by omega), toF_p, toF_mul]
  grind

theorem euler {A : Nat} (hA : A < pP) : (A = 0 ∨ A ^ h2 % pP = 1) ↔ ∃ x, x * x % pP = A := by
  have hp := pP_gt
  constructor
  · rintro (h | h)
    · exact ⟨0, by rw [h, Nat.mul_zero, Nat.zero_mod]⟩
    · have h0 : A % pP ≠ 0 := by
        intro e
        rw [pow_zero_mod e (by decide +kernel)] at h
        omega
      obtain ⟨k, hk⟩ := gen_of h0
      rw [Nat.mod_eq_of_lt hA] at hk
      rcases Nat.mod_two_eq_zero_or_one k with hk2 | hk2
      · refine ⟨2 ^ (k / 2), ?_⟩
        rw [sq_mod, show k / 2 * 2 = k by omega, hk]
      · exfalso
        have e1 : A ^ h2 % pP = (2 ^ k) ^ h2 % pP := pow_mod_congr _ _ _ _ (by rw [← hk, Nat.mod_mod])
        obtain ⟨m, hm⟩ : ∃ m, k = 2 * m + 1 := ⟨k / 2, by omega⟩
        rw [e1, ← Nat.pow_mul, hm, show (2 * m + 1) * h2 = (pP - 1) * m + h2 by rw [← h2_eq]; grind, Nat.pow_add, Nat.mul_mod, pow_mul_one (by omega) two_pow, Nat.one_mul, Nat.mod_mod, half_two] at h
        omega
  · rintro ⟨x, hx⟩
    by_cases h0 : A = 0
    · exact .inl h0
    · right
      have hx0 : x % pP ≠ 0 := by
        intro e
        apply h0
        rw [← hx, Nat.mul_mod, e, Nat.mul_zero, Nat.zero_mod]
      rw [pow_mod_congr A (x * x) h2 pP (by rw [← hx, Nat.mod_mod]), ← Nat.pow_two, ← Nat.pow_mul, Nat.mul_comm, h2_eq]
      exact fermat hx0

end Pl
end Go.Proofs.Ytldnjbpcdojffaa
