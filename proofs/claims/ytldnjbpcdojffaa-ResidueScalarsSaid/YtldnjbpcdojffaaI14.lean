/- @@NUM 25 The walk of the document's Times on digits. Conditions: rows of at most 1000 digits. -/
import Derived.Test.YtldnjbpcdojffaaI13
import Derived.Test.YtldnjbpcdojffaaI5
namespace Go.Proofs.Ytldnjbpcdojffaa
set_option linter.unusedVariables false
set_option linter.unusedSimpArgs false
open Go Go.RowKit
open Dg (nv dg Ok Cn)

/-- What holds when i rows, and k digits of the next one, have been laid together: c is carried. -/
structure TimesI (us vs : List Int) (i k : Nat) (ds : List Int) (c x : Int) : Prop where
  len : ds.length = us.length + vs.length + 1
  ok : Ok ds
  c0 : 0 ≤ c
  c1 : c < 65536
  k1 : k ≤ vs.length + 1
  val : nv ds + 65536 ^ (i + k) * c = nv (us.take i) * nv vs + 65536 ^ i * (x * nv (vs.take k))
  high : nv (ds.drop (i + vs.length + 1)) = 0
  low : k ≤ vs.length → nv (ds.drop (i + vs.length)) = 0
  last : k = vs.length + 1 → c = 0
theorem nv_set_drop {ds : List Int} {j n : Nat} (h : j < n) (y : Int) : (ds.set j y).drop n = ds.drop n := by rw [List.drop_set_of_lt h]
theorem Ok.set {ds : List Int} (h : Ok ds) (j : Nat) {y : Int} (hy : 0 ≤ y ∧ y < 65536) : Ok (ds.set j y) := fun z hz => by
  rcases List.mem_or_eq_of_mem_set hz with h1 | rfl
  · exact h z h1
  · exact hy
theorem mul_digits {a b : Int} (ha : 0 ≤ a ∧ a < 65536) (hb : 0 ≤ b ∧ b < 65536) : 0 ≤ a * b ∧ a * b ≤ 4294836225 := by
  refine ⟨Int.mul_nonneg ha.1 hb.1, ?_⟩
  have h1 : a * b ≤ 65535 * b := Int.mul_le_mul_of_nonneg_right (by omega) hb.1
  omega
/-- A digit that there is. -/
theorem TimesI.step {us vs : List Int} {i k : Nat} {ds : List Int} {c x : Int} (h : TimesI us vs i k ds c x) (hx : 0 ≤ x ∧ x < 65536) (hv : Ok vs) (hi : i < us.length) (hk : k < vs.length) (hj : i + k < ds.length) (T : Int) (hT : T = ds[i + k] + c + x * vs[k]) :
    0 ≤ T ∧ T < 4294967296 ∧ TimesI us vs i (k + 1) (ds.set (i + k) (T % 65536)) (T / 65536) x := by
  have h1 := h.ok.at hj
  have h2 := mul_digits hx (hv.at hk)
  have h3 := h.c0; have h4 := h.c1
  have t0 : 0 ≤ T := by omega
  have t1 : T < 4294967296 := by omega
  refine ⟨t0, t1, ⟨by rw [List.length_set]; exact h.len, Ok.set h.ok _ (by omega), by omega, by omega, by omega, ?_, by rw [nv_set_drop (by omega)]; exact h.high, fun _ => by rw [nv_set_drop (by omega)]; exact h.low (by omega), fun e => by omega⟩⟩
  rw [Dg.nv_set hj, Dg.nv_take hk]
  have e := h.val
  have e2 : (65536 : Int) ^ (i + (k + 1)) = 65536 ^ (i + k) * 65536 := by rw [← Int.pow_succ]; rfl
  have e3 : (65536 : Int) ^ (i + k) = 65536 ^ i * 65536 ^ k := Int.pow_add _ _ _
  have e4 : T = T % 65536 + 65536 * (T / 65536) := by omega
  rw [e2]
  generalize T % 65536 = m at *
  generalize T / 65536 = q at *
  generalize ds[i + k] = d at *
  generalize vs[k] = b at *
  rw [e3] at e ⊢
  generalize (65536 : Int) ^ i = P at *
  generalize (65536 : Int) ^ k = Q at *
  generalize nv (vs.take k) = V at *
  generalize nv (us.take i) * nv vs = Z at *
  clear h1 h2 h3 h4 t0 t1
  subst hT
  grind
/-- What is carried beyond the last digit. -/
theorem TimesI.over {us vs : List Int} {i k : Nat} {ds : List Int} {c x : Int} (h : TimesI us vs i k ds c x) (hi : i < us.length) (hk : ¬ k < vs.length) (hc : 0 < c) (hj : i + k < ds.length) : ds[i + k] = 0 ∧ TimesI us vs i (k + 1) (ds.set (i + k) c) 0 x := by
  have hk2 : k = vs.length := by
    have := h.k1
    rcases Nat.lt_or_ge vs.length k with h1 | h1
    · have := h.last (by omega); omega
    · omega
  subst hk2
  have hl := h.low (Nat.le_refl _)
  have hd := Dg.nv_drop hj
  have hn := Dg.nv_nonneg (h.ok.drop (i + vs.length + 1))
  have ho := h.ok.at hj
  have h0 : ds[i + vs.length] = 0 := by omega
  refine ⟨h0, ⟨by rw [List.length_set]; exact h.len, Ok.set h.ok _ ⟨h.c0, h.c1⟩, by omega, by omega, by omega, ?_, by rw [nv_set_drop (by omega)]; exact h.high, fun e => by omega, fun _ => rfl⟩⟩
  rw [Dg.nv_set hj, h0, Int.sub_zero, Int.mul_zero, Int.add_zero]
  have e := h.val
  rw [List.take_length] at e
  rw [show vs.take (vs.length + 1) = vs from List.take_of_length_le (by omega)]
  exact e
theorem TimesI.next {us vs : List Int} {i k : Nat} {ds : List Int} {x : Int} (h : TimesI us vs i k ds 0 x) (hi : i < us.length) (hx : us[i] = x) (hk : ¬ k < vs.length) : nv ds = nv (us.take (i + 1)) * nv vs ∧ nv (ds.drop (i + 1 + vs.length)) = 0 := by
  have e := h.val
  rw [show vs.take k = vs from List.take_of_length_le (by omega), Int.mul_zero, Int.add_zero] at e
  refine ⟨?_, by rw [show i + 1 + vs.length = i + vs.length + 1 by omega]; exact h.high⟩
  rw [e, Dg.nv_take hi, hx, Int.add_mul, Int.mul_assoc]
theorem drop_more {ds : List Int} (h : Ok ds) {n : Nat} (hz : nv (ds.drop n) = 0) : nv (ds.drop (n + 1)) = 0 := by
  rcases Nat.lt_or_ge n ds.length with h1 | h1
  · have h2 := Dg.nv_drop h1
    have h3 := Dg.nv_nonneg (h.drop (n + 1))
    have h4 := h.at h1
    omega
  · rw [List.drop_eq_nil_of_le (by omega)]; rfl
theorem TimesI.start {us vs : List Int} {i : Nat} {ds : List Int} {x : Int} (hl : ds.length = us.length + vs.length + 1) (ho : Ok ds) (hv : nv ds = nv (us.take i) * nv vs) (hz : nv (ds.drop (i + vs.length)) = 0) : TimesI us vs i 0 ds 0 x :=
  ⟨hl, ho, by omega, by omega, by omega, by simp [nv, hv], drop_more ho hz, fun _ => hz, fun e => by omega⟩

end Go.Proofs.Ytldnjbpcdojffaa
