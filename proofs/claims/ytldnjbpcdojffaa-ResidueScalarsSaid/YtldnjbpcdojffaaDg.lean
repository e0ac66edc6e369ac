/- Plain law: numbers as digits below 65536, the lowest one first; answers that come with enough rounds. Conditions: none. -/
import Derived.RowKit
namespace Go.Proofs.Ytldnjbpcdojffaa
set_option linter.unusedVariables false
set_option linter.unusedSimpArgs false
namespace Dg
open Go Go.RowKit

/-- With enough rounds F answers r. -/
def At {α : Type} (F : Nat → Option α) (r : α) : Prop := ∃ K, ∀ k, K ≤ k → F k = some r
theorem At.ret {α : Type} (r : α) : At (fun _ => some r) r := ⟨0, fun _ _ => rfl⟩
theorem At.bind {α β : Type} {F : Nat → Option α} {a : α} {G : Nat → α → Option β} {r : β} (h : At F a) (h2 : At (fun k => G k a) r) : At (fun k => (F k).bind (G k)) r := by
  obtain ⟨K1, h1⟩ := h
  obtain ⟨K2, h2⟩ := h2
  exact ⟨K1 + K2, fun k hk => by
    show (F k).bind (G k) = some r
    rw [h1 k (by omega), Option.bind_some]; exact h2 k (by omega)⟩
theorem At.step {α : Type} {F G : Nat → Option α} {r : α} (h : ∀ k, F (k + 1) = G k) (h2 : At G r) : At F r := by
  obtain ⟨K, h2⟩ := h2
  refine ⟨K + 1, fun k hk => ?_⟩
  obtain ⟨j, rfl⟩ : ∃ j, k = j + 1 := ⟨k - 1, by omega⟩
  rw [h]; exact h2 j (by omega)
theorem At.same {α : Type} {F G : Nat → Option α} {r : α} (h : ∀ k, F k = G k) (h2 : At G r) : At F r := by
  obtain ⟨K, h2⟩ := h2
  exact ⟨K, fun k hk => by rw [h]; exact h2 k hk⟩
theorem At.get {α : Type} {F : Nat → Option α} {r : α} (h : At F r) : ∃ k, F k = some r := by
  obtain ⟨K, h⟩ := h
  exact ⟨K, h K (Nat.le_refl _)⟩

def nv : List Int → Int
  | [] => 0
  | x :: l => x + 65536 * nv l
def Ok (l : List Int) : Prop := ∀ x ∈ l, 0 ≤ x ∧ x < 65536
theorem Ok.nil : Ok [] := fun _ h => by cases h
theorem Ok.cons {x : Int} {l : List Int} (h : Ok (x :: l)) : (0 ≤ x ∧ x < 65536) ∧ Ok l := ⟨h x (by simp), fun y hy => h y (by simp [hy])⟩
theorem Ok.mk {x : Int} {l : List Int} (hx : 0 ≤ x ∧ x < 65536) (h : Ok l) : Ok (x :: l) := fun y hy => by
  rcases List.mem_cons.1 hy with rfl | hy
  · exact hx
  · exact h y hy
theorem Ok.append {a b : List Int} (h : Ok a) (k : Ok b) : Ok (a ++ b) := fun x hx => by
  rcases List.mem_append.1 hx with hx | hx
  · exact h x hx
  · exact k x hx
theorem Ok.left {a b : List Int} (h : Ok (a ++ b)) : Ok a := fun x hx => h x (List.mem_append_left _ hx)
theorem Ok.right {a b : List Int} (h : Ok (a ++ b)) : Ok b := fun x hx => h x (List.mem_append_right _ hx)
theorem Ok.one {x : Int} (h : 0 ≤ x ∧ x < 65536) : Ok [x] := Ok.mk h Ok.nil
theorem Ok.take {a : List Int} (h : Ok a) (n : Nat) : Ok (a.take n) := fun x hx => h x (List.mem_of_mem_take hx)
theorem Ok.drop {a : List Int} (h : Ok a) (n : Nat) : Ok (a.drop n) := fun x hx => h x (List.mem_of_mem_drop hx)
theorem Ok.at {a : List Int} (h : Ok a) {i : Nat} (hi : i < a.length) : 0 ≤ a[i] ∧ a[i] < 65536 := h _ (List.getElem_mem hi)
theorem nv_nonneg : ∀ {l : List Int}, Ok l → 0 ≤ nv l
  | [], _ => by simp [nv]
  | x :: l, h => by
    have := nv_nonneg h.cons.2
    have := h.cons.1
    rw [nv]; omega
theorem nv_lt : ∀ {l : List Int}, Ok l → nv l < 65536 ^ l.length
  | [], _ => by simp [nv]
  | x :: l, h => by
    have := nv_lt h.cons.2
    have := h.cons.1
    rw [nv, List.length_cons, Int.pow_succ]; omega
theorem nv_append : ∀ (a b : List Int), nv (a ++ b) = nv a + 65536 ^ a.length * nv b
  | [], b => by simp [nv]
  | x :: a, b => by
    rw [List.cons_append, nv, nv, nv_append a b, List.length_cons, Int.pow_succ]
    grind
theorem nv_one (x : Int) : nv [x] = x := by simp [nv]
theorem nv_snoc (a : List Int) (x : Int) : nv (a ++ [x]) = nv a + 65536 ^ a.length * x := by rw [nv_append, nv_one]
theorem nv_take_drop (a : List Int) {n : Nat} (h : n ≤ a.length) : nv a = nv (a.take n) + 65536 ^ n * nv (a.drop n) := by
  conv => lhs; rw [← List.take_append_drop n a]
  rw [nv_append, List.length_take, Nat.min_eq_left h]
theorem nv_drop {a : List Int} {i : Nat} (h : i < a.length) : nv (a.drop i) = a[i] + 65536 * nv (a.drop (i + 1)) := by
  rw [List.drop_eq_getElem_cons h, nv]
theorem nv_take {a : List Int} {i : Nat} (h : i < a.length) : nv (a.take (i + 1)) = nv (a.take i) + 65536 ^ i * a[i] := by
  rw [List.take_succ_eq_append_getElem h, nv_snoc, List.length_take, Nat.min_eq_left (by omega)]
theorem nv_set {a : List Int} {i : Nat} (h : i < a.length) (y : Int) : nv (a.set i y) = nv a + 65536 ^ i * (y - a[i]) := by
  induction a generalizing i with
  | nil => simp at h
  | cons x a ih =>
    cases i with
    | zero => simp [nv]; omega
    | succ i =>
      have h' : i < a.length := by simpa using h
      rw [List.set_cons_succ, nv, nv, ih h', List.getElem_cons_succ, Int.pow_succ]
      grind

/-- The digits of a number, none at the end that is 0. -/
def dg (n : Nat) : List Int := if h : n = 0 then [] else ((n % 65536 : Nat) : Int) :: dg (n / 65536)
termination_by n
decreasing_by omega
theorem dg_zero : dg 0 = [] := by rw [dg]; simp
theorem dg_pos {n : Nat} (h : n ≠ 0) : dg n = ((n % 65536 : Nat) : Int) :: dg (n / 65536) := by rw [dg]; simp [h]
theorem dg_ok (n : Nat) : Ok (dg n) := by
  induction n using Nat.strongRecOn with
  | ind n ih =>
    by_cases h : n = 0
    · subst h; rw [dg_zero]; exact Ok.nil
    · rw [dg_pos h]; exact Ok.mk (by omega) (ih _ (by omega))
theorem nv_dg (n : Nat) : nv (dg n) = (n : Int) := by
  induction n using Nat.strongRecOn with
  | ind n ih =>
    by_cases h : n = 0
    · subst h; rw [dg_zero]; rfl
    · rw [dg_pos h, nv, ih _ (by omega)]; omega
/-- No 0 at the end. -/
def Cn (l : List Int) : Prop := ∀ a x, l = a ++ [x] → x ≠ 0
theorem dg_cn (n : Nat) : Cn (dg n) := by
  induction n using Nat.strongRecOn with
  | ind n ih =>
    intro a x e
    by_cases h : n = 0
    · subst h; rw [dg_zero] at e; simp at e
    · rw [dg_pos h] at e
      cases a with
      | nil =>
        have h2 : dg (n / 65536) = [] := by simpa using (List.cons.inj e).2
        have h3 : n / 65536 = 0 := by
          apply Classical.byContradiction
          intro h3
          rw [dg_pos h3] at h2
          cases h2
        have h4 := (List.cons.inj e).1
        omega
      | cons y a =>
        rw [List.cons_append] at e
        exact ih _ (by omega) a x (List.cons.inj e).2
theorem dg_nv : ∀ {l : List Int}, Ok l → Cn l → dg (nv l).toNat = l
  | [], _, _ => by rw [nv]; exact dg_zero
  | x :: l, h, hc => by
    have h1 := h.cons.1
    have h2 := nv_nonneg h.cons.2
    have hc2 : Cn l := fun a y e => hc (x :: a) y (by rw [e]; rfl)
    have ih := dg_nv h.cons.2 hc2
    have hpos : (nv (x :: l)).toNat ≠ 0 := by
      rw [nv]
      by_cases hl : l = []
      · subst hl
        have := hc [] x rfl
        rw [nv]; omega
      · intro e
        have h3 : nv l = 0 := by omega
        rw [h3] at ih
        rw [show (0 : Int).toNat = 0 from rfl, dg_zero] at ih
        exact hl ih.symm
    rw [dg_pos hpos, nv, show (x + 65536 * nv l).toNat / 65536 = (nv l).toNat by omega, ih]
    congr 1
    omega
theorem dg_len {n m : Nat} (h : (dg n).length < (dg m).length) : n < m := by
  have h1 := nv_lt (dg_ok n)
  rw [nv_dg] at h1
  obtain ⟨a, x, e⟩ : ∃ a x, dg m = a ++ [x] := by
    have hne : dg m ≠ [] := by intro e; rw [e] at h; simp at h
    exact ⟨_, _, (List.dropLast_concat_getLast hne).symm⟩
  have hx := dg_cn m a x e
  have ho := dg_ok m
  rw [e] at ho
  have h2 := ho.right x (by simp)
  have h3 := nv_dg m
  rw [e, nv_snoc] at h3
  have h4 := nv_nonneg ho.left
  rw [e, List.length_append, List.length_singleton] at h
  have h5 : (65536 : Int) ^ (dg n).length ≤ 65536 ^ a.length := by
    obtain ⟨d, hd⟩ : ∃ d, a.length = (dg n).length + d := ⟨a.length - (dg n).length, by omega⟩
    rw [hd, Int.pow_add]
    have h6 : (0 : Int) < 65536 ^ (dg n).length := Int.pow_pos (by decide)
    have h7 : (0 : Int) < 65536 ^ d := Int.pow_pos (by decide)
    have := Int.mul_le_mul_of_nonneg_left (show (1 : Int) ≤ 65536 ^ d by omega) (Int.le_of_lt h6)
    omega
  have h6 : (0 : Int) < 65536 ^ a.length := Int.pow_pos (by decide)
  have h7 : 65536 ^ a.length * 1 ≤ 65536 ^ a.length * x := Int.mul_le_mul_of_nonneg_left (by omega) (Int.le_of_lt h6)
  omega
theorem dg_length_le {n k : Nat} (h : n < 65536 ^ k) : (dg n).length ≤ k := by
  induction k generalizing n with
  | zero => rw [show n = 0 by simpa using h, dg_zero]; simp
  | succ k ih =>
    by_cases h0 : n = 0
    · subst h0; rw [dg_zero]; simp
    · rw [dg_pos h0, List.length_cons]
      have := ih (n := n / 65536) (by rw [Nat.pow_succ] at h; omega)
      omega

theorem dg_nv_len {a : List Int} (ha : Ok a) : (dg (nv a).toNat).length ≤ a.length := by
  apply dg_length_le
  have h := nv_lt ha
  have h2 := nv_nonneg ha
  have e := Int.natCast_pow 65536 a.length
  have e2 : ((65536 : Nat) : Int) = 65536 := rfl
  rw [e2] at e
  rw [← e] at h
  omega
theorem At.cast {α : Type} {F : Nat → Option α} {r s : α} (h : At F r) (e : r = s) : At F s := e ▸ h

theorem wrap_ok {x : Int} (h1 : -9223372036854775808 ≤ x) (h2 : x ≤ 9223372036854775807) : wrap64 x = x := by unfold wrap64; omega

end Dg
end Go.Proofs.Ytldnjbpcdojffaa
