/- Plain law: the numbers modulo 2^255 - 19 are a field: powers, inverses, roots. -/
import Derived.Test.YtldnjbpcdojffaaPrime
namespace Go.Proofs.Ytldnjbpcdojffaa
set_option linter.unusedVariables false
set_option linter.unusedSimpArgs false
namespace Pl

def pP : Nat := 57896044618658097711785492504343953926634992332820282019728792003956564819949

theorem pP_prm : Prm pP := prm_77d_819949
theorem pP_gt : 1000 < pP := by decide +kernel
theorem pP_lt : pP < 2 ^ 255 := by decide +kernel
theorem pP_gt' : 2 ^ 254 < pP := by decide +kernel
theorem pP_pow : 2 ^ 255 = pP + 19 := by decide +kernel

def pFacs : List Nat := [2, 2, 3, 65147, 74058212732561358302231226437062788676166966415465897661863160754340907]
theorem pP_cert : certOk pP 2 pFacs = true := cert_77d_819949
theorem pP_gen : ∀ a, 0 < a → a < pP → ∃ k, k < pP - 1 ∧ 2 ^ k % pP = a := (cert_gen (n := pP) (g := 2) (fs := pFacs) pP_cert fac_77d_819949).2.1.2
theorem two_pow : 2 ^ (pP - 1) % pP = 1 := (cert_gen (n := pP) (g := 2) (fs := pFacs) pP_cert fac_77d_819949).2.2

theorem gen_of {a : Nat} (h : a % pP ≠ 0) : ∃ k, 2 ^ k % pP = a % pP := by
  obtain ⟨k, _, hk⟩ := pP_gen (a % pP) (by omega) (Nat.mod_lt _ (by have := pP_gt; omega))
  exact ⟨k, hk⟩

theorem fermat {a : Nat} (h : a % pP ≠ 0) : a ^ (pP - 1) % pP = 1 := by
  obtain ⟨k, hk⟩ := gen_of h
  have e : a ^ (pP - 1) % pP = (2 ^ k) ^ (pP - 1) % pP := pow_mod_congr a (2 ^ k) (pP - 1) pP hk.symm
  rw [e, ← Nat.pow_mul, Nat.mul_comm]
  exact pow_mul_one (by have := pP_gt; omega) two_pow k

theorem mul_zero_mod {a b : Nat} (h : a * b % pP = 0) : a % pP = 0 ∨ b % pP = 0 := by
  rcases pP_prm.dvd_mul (Nat.dvd_of_mod_eq_zero h) with h | h
  · exact .inl (Nat.mod_eq_zero_of_dvd h)
  · exact .inr (Nat.mod_eq_zero_of_dvd h)

theorem pow_zero_mod {a : Nat} (h : a % pP = 0) {n : Nat} (hn : n ≠ 0) : a ^ n % pP = 0 := by
  rw [Nat.pow_mod, h, Nat.zero_pow (Nat.pos_of_ne_zero hn), Nat.zero_mod]

theorem pow_ne_mod {a : Nat} (h : a % pP ≠ 0) (n : Nat) : a ^ n % pP ≠ 0 := by
  induction n with
  | zero => rw [Nat.pow_zero, Nat.mod_eq_of_lt (by have := pP_gt; omega)]; omega
  | succ n ih =>
    intro e
    rw [Nat.pow_succ] at e
    rcases mul_zero_mod e with e | e
    · exact ih e
    · exact h e

/-- The inverse. -/
theorem inv_mod {a : Nat} (h : a % pP ≠ 0) : a * (a ^ (pP - 2) % pP) % pP = 1 := by
  rw [Nat.mul_mod_mod, Nat.mul_comm, ← Nat.pow_succ, show (pP - 2).succ = pP - 1 from by have := pP_gt; omega]
  exact fermat h

abbrev F := Fin pP
instance : NeZero pP := ⟨by decide +kernel⟩

/-- A number as a residue. -/
def toF (n : Nat) : F := Fin.ofNat pP n

theorem toF_val (n : Nat) : (toF n).val = n % pP := rfl
theorem toF_eq {a b : Nat} : toF a = toF b ↔ a % pP = b % pP := by
  constructor
  · intro h
    have := congrArg Fin.val h
    simpa only [toF_val] using this
  · intro h
    exact Fin.ext h
theorem toF_mod (a : Nat) : toF (a % pP) = toF a := toF_eq.2 (Nat.mod_mod _ _)
theorem toF_self (a : F) : toF a.val = a := Fin.ext (by rw [toF_val]; exact Nat.mod_eq_of_lt a.isLt)
theorem toF_add (a b : Nat) : toF (a + b) = toF a + toF b := Fin.ext (by rw [toF_val, Fin.val_add, toF_val, toF_val, ← Nat.add_mod])
theorem toF_mul (a b : Nat) : toF (a * b) = toF a * toF b := Fin.ext (by rw [toF_val, Fin.val_mul, toF_val, toF_val, ← Nat.mul_mod])
theorem toF_zero : toF 0 = 0 := rfl
theorem toF_one : toF 1 = 1 := rfl
theorem toF_p : toF pP = 0 := toF_eq.2 (by rw [Nat.mod_self, Nat.zero_mod])
theorem toF_eq_zero {a : Nat} : toF a = 0 ↔ a % pP = 0 := by
  rw [← toF_zero, toF_eq, Nat.zero_mod]
theorem toF_pow (a n : Nat) : toF (a ^ n) = toF a ^ n := by
  induction n with
  | zero => rw [Nat.pow_zero, toF_one]; grind
  | succ n ih => rw [Nat.pow_succ, toF_mul, ih]; grind
theorem toF_sub {a b : Nat} (h : b ≤ a) : toF (a - b) = toF a - toF b := by
  have e : toF (a - b) + toF b = toF a := by rw [← toF_add, Nat.sub_add_cancel h]
  grind

/-- The inverse of a residue; 0's is 0. -/
def inv (a : F) : F := a ^ (pP - 2)
theorem inv_zero : inv 0 = 0 := by
  unfold inv
  rw [show (0 : F) = toF 0 from rfl, ← toF_pow, Nat.zero_pow (by have := pP_gt; omega)]
theorem F_mul_inv {a : F} (h : a ≠ 0) : a * inv a = 1 := by
  unfold inv
  rw [← toF_self a, ← toF_pow, ← toF_mul, ← toF_one]
  refine toF_eq.2 ?_
  have h1 : a.val % pP ≠ 0 := by
    rw [Nat.mod_eq_of_lt a.isLt]
    intro e
    exact h (Fin.ext e)
  have := inv_mod h1
  rw [Nat.mul_mod_mod] at this
  rw [this, Nat.mod_eq_of_lt (by have := pP_gt; omega)]
theorem F_mul_eq_zero {a b : F} (h : a * b = 0) : a = 0 ∨ b = 0 := by
  by_cases ha : a = 0
  · exact .inl ha
  · right
    have := F_mul_inv ha
    grind
theorem F_inv_unique {a b : F} (h : a * b = 1) : b = inv a := by
  have ha : a ≠ 0 := by
    intro e
    rw [e] at h
    have : (0 : F) = 1 := by grind
    exact absurd (congrArg Fin.val this) (by decide +kernel)
  have := F_mul_inv ha
  grind
theorem F_one_ne : (1 : F) ≠ 0 := fun e => absurd (congrArg Fin.val e) (by decide +kernel)
theorem F_two_ne : (2 : F) ≠ 0 := fun e => absurd (congrArg Fin.val e) (by decide +kernel)

end Pl
end Go.Proofs.Ytldnjbpcdojffaa
