/- Plain law: the numbers modulo 2^255 - 19 are a field: powers, inverses, roots. -/
import Derived.Test.YtgeldhdijochdaaZ5
import Derived.Test.YtgeldhdijochdaaProg
import Derived.Test.YtgeldhdijochdaaZ1
import Derived.RegionTactic
import Derived.BigRegion
import Derived.Shelf.Spec.BitsCarry
import Derived.Deep.LoopGhost
import Derived.Lib.Mul64
import Derived.Shelf.Bits.Mul64
import Derived.Laws.Bits64b
import Derived.Deep.DeepCutAuto
import Derived.Deep.CutBlock
set_option linter.unusedSectionVars false
namespace Go.Proofs.Ytgeldhdijochdaa
set_option linter.unusedVariables false
set_option linter.unusedSimpArgs false
namespace Pl

def pP : Nat := 57896044618658097711785492504343953926634992332820282019728792003956564819949

theorem pP_prm : Prm pP := prm_77d_819949
theorem pP_gt : 1000 < pP := by decide +kernel
theorem pP_lt : pP < 2 ^ 255 := by decide +kernel
theorem pP_gt' : 2 ^ 254 < pP := by decide +kernel
theorem pP_pow : 2 ^ 255 = pP + 19 := by decide +kernel

def pFacs : List Nat := [2, 2, 3, 65147, 74058212732561358302231226437062788676166966415465897661863160754340907]
theorem pP_cert : certOk pP 2 pFacs = true := cert_77d_819949
theorem pP_gen : ∀ a, 0 < a → a < pP → ∃ k, k < pP - 1 ∧ 2 ^ k % pP = a := (cert_gen (n := pP) (g := 2) (fs := pFacs) pP_cert fac_77d_819949).2.1.2
theorem two_pow : 2 ^ (pP - 1) % pP = 1 := (cert_gen (n := pP) (g := 2) (fs := pFacs) pP_cert fac_77d_819949).2.2

theorem gen_of {a : Nat} (h : a % pP ≠ 0) : ∃ k, 2 ^ k % pP = a % pP := by
  obtain ⟨k, _, hk⟩ := pP_gen (a % pP) (by omega) (Nat.mod_lt _ (by have := pP_gt; omega))
  exact ⟨k, hk⟩

theorem fermat {a : Nat} (h : a % pP ≠ 0) : a ^ (pP - 1) % pP = 1 := by
  obtain ⟨k, hk⟩ := gen_of h
  have e : a ^ (pP - 1) % pP = (2 ^ k) ^ (pP - 1) % pP := pow_mod_congr a (2 ^ k) (pP - 1) pP hk.symm
  rw [e, ← Nat.pow_mul, Nat.mul_comm]
  exact pow_mul_one (by have := pP_gt; omega) two_pow k

theorem mul_zero_mod {a b : Nat} (h : a * b % pP = 0) : a % pP = 0 ∨ b % pP = 0 := by
  rcases pP_prm.dvd_mul (Nat.dvd_of_mod_eq_zero h) with h | h
  · exact .inl (Nat.mod_eq_zero_of_dvd h)
  · exact .inr (Nat.mod_eq_zero_of_dvd h)

theorem pow_zero_mod {a : Nat} (h : a % pP = 0) {n : Nat} (hn : n ≠ 0) : a ^ n % pP = 0 := by
  rw [Nat.pow_mod, h, Nat.zero_pow (Nat.pos_of_ne_zero hn), Nat.zero_mod]

theorem pow_ne_mod {a : Nat} (h : a % pP ≠ 0) (n : Nat) : a ^ n % pP ≠ 0 := by
  induction n with
  | zero => rw [Nat.pow_zero, Nat.mod_eq_of_lt (by have := pP_gt; omega)]; omega
  | succ n ih =>
    intro e
    rw [Nat.pow_succ] at e
    rcases mul_zero_mod e with e | e
    · exact ih e
    · exact h e

/-- The inverse. -/
theorem inv_mod {a : Nat} (h : a % pP ≠ 0) : a * (a ^ (pP - 2) % pP) % pP = 1 := by
  rw [Nat.mul_mod_mod, Nat.mul_comm, ← Nat.pow_succ, show (pP - 2).succ = pP - 1 from by have := pP_gt; omega]
  exact fermat h

abbrev F := Fin pP
instance : NeZero pP := ⟨by decide +kernel⟩

/-- A number as a residue. -/
def toF (n : Nat) : F := Fin.ofNat pP n

theorem toF_val (n : Nat) : (toF n).val = n % pP := rfl
theorem toF_eq {a b : Nat} : toF a = toF b ↔ a % pP = b % pP := by
  constructor
  · intro h
    have := congrArg Fin.val h
    simpa only [toF_val] using this
  · intro h
    exact Fin.ext h
theorem toF_mod (a : Nat) : toF (a % pP) = toF a := toF_eq.2 (Nat.mod_mod _ _)
theorem toF_self (a : F) : toF a.val = a := Fin.ext (by rw [toF_val]; exact Nat.mod_eq_of_lt a.isLt)
theorem toF_add (a b : Nat) : toF (a + b) = toF a + toF b := Fin.ext (by rw [toF_val, Fin.val_add, toF_val, toF_val, ← Nat.add_mod])
theorem toF_mul (a b : Nat) : toF (a * b) = toF a * toF b := Fin.ext (by rw [toF_val, Fin.val_mul, toF_val, toF_val, ← Nat.mul_mod])
theorem toF_zero : toF 0 = 0 := rfl
theorem toF_one : toF 1 = 1 := rfl
theorem toF_p : toF pP = 0 := toF_eq.2 (by rw [Nat.mod_self, Nat.zero_mod])
theorem toF_eq_zero {a : Nat} : toF a = 0 ↔ a % pP = 0 := by
  rw [← toF_zero, toF_eq, Nat.zero_mod]
theorem toF_pow (a n : Nat) : toF (a ^ n) = toF a ^ n := by
  induction n with
  | zero => rw [Nat.pow_zero, toF_one]; grind
  | succ n ih => rw [Nat.pow_succ, toF_mul, ih]; grind
theorem toF_sub {a b : Nat} (h : b ≤ a) : toF (a - b) = toF a - toF b := by
  have e : toF (a - b) + toF b = toF a := by rw [← toF_add, Nat.sub_add_cancel h]
  grind

/-- The inverse of a residue; 0's is 0. -/
def inv (a : F) : F := a ^ (pP - 2)
theorem inv_zero : inv 0 = 0 := by
  unfold inv
  rw [show (0 : F) = toF 0 from rfl, ← toF_pow, Nat.zero_pow (by have := pP_gt; omega)]
theorem F_mul_inv {a : F} (h : a ≠ 0) : a * inv a = 1 := by
  unfold inv
  rw [← toF_self a, ← toF_pow, ← toF_mul, ← toF_one]
  refine toF_eq.2 ?_
  have h1 : a.val % pP ≠ 0 := by
    rw [Nat.mod_eq_of_lt a.isLt]
    intro e
    exact h (Fin.ext e)
  have := inv_mod h1
  rw [Nat.mul_mod_mod] at this
  rw [this, Nat.mod_eq_of_lt (by have := pP_gt; omega)]
theorem F_mul_eq_zero {a b : F} (h : a * b = 0) : a = 0 ∨ b = 0 := by
  by_cases ha : a = 0
  · exact .inl ha
  · right
    have := F_mul_inv ha
    grind
theorem F_inv_unique {a b : F} (h : a * b = 1) : b = inv a := by
  have ha : a ≠ 0 := by
    intro e
    rw [e] at h
    have : (0 : F) = 1 := by grind
    exact absurd (congrArg Fin.val this) (by decide +kernel)
  have := F_mul_inv ha
  grind
theorem F_one_ne : (1 : F) ≠ 0 := fun e => absurd (congrArg Fin.val e) (by decide +kernel)
theorem F_two_ne : (2 : F) ≠ 0 := fun e => absurd (congrArg Fin.val e) (by decide +kernel)

end Pl
end Go.Proofs.Ytgeldhdijochdaa
/- @@NUM 26 The walks of residue's first functions: the prime, differences, sums, the lesser one, the small one. Conditions: words are below 2^64. -/
namespace Go.Proofs.Ytgeldhdijochdaa
set_option linter.unusedVariables false
set_option linter.unusedSimpArgs false
open Go Go.RowKit
open Pl (V W4 T256 pP sbl sbb adl adc)

theorem x_sub64 (x y b : Nat) (hb : b ≤ 1) (w : World) :
    (callFunc 61 #[.int .u64 x, .int .u64 y, .int .u64 b]).run Try.prog w = .ok (.value (.tuple #[.int .u64 (sbl x y b), .int .u64 (sbb x y b)])) w := by
  rw [run_callFunc_extern Try.func61 (by kernel_rfl) (by kernel_rfl) (by kernel_rfl) (e := sub64Entry) (by kernel_rfl), run_sub64 x y b hb]
  rfl
theorem sub_fact (x y b : Nat) (hb : b ≤ 1) : ∃ r c : Nat, (sbl x y b = r ∧ sbb x y b = c) ∧ c ≤ 1 ∧ ∀ w : World, (callFunc 61 #[.int .u64 x, .int .u64 y, .int .u64 b]).run Try.prog w = .ok (.value (.tuple #[.int .u64 r, .int .u64 c])) w := ⟨_, _, ⟨rfl, rfl⟩, Pl.sbb_le _ _ _, fun w => x_sub64 x y b hb w⟩
theorem sub_factz (x y : Nat) : ∃ r c : Nat, (sbl x y 0 = r ∧ sbb x y 0 = c) ∧ c ≤ 1 ∧ ∀ w : World, (callFunc 61 #[.int .u64 x, .int .u64 y, .int .u64 0]).run Try.prog w = .ok (.value (.tuple #[.int .u64 r, .int .u64 c])) w := ⟨_, _, ⟨rfl, rfl⟩, Pl.sbb_le _ _ _, fun w => x_sub64 x y 0 (by omega) w⟩
theorem x_add64 (x y b : Nat) (hb : b ≤ 1) (w : World) :
    (callFunc 64 #[.int .u64 x, .int .u64 y, .int .u64 b]).run Try.prog w = .ok (.value (.tuple #[.int .u64 (adl x y b), .int .u64 (adc x y b)])) w := by
  rw [run_callFunc_extern Try.func64 (by kernel_rfl) (by kernel_rfl) (by kernel_rfl) (e := add64Entry) (by kernel_rfl), run_add64 x y b (by omega) (by omega) (by omega) (by omega)]
  rfl
theorem adw_fact (x y b : Nat) (hx : x < 18446744073709551616) (hy : y < 18446744073709551616) (hb : b ≤ 1) : ∃ r c : Nat, (adl x y b = r ∧ adc x y b = c) ∧ c ≤ 1 ∧ ∀ w : World, (callFunc 64 #[.int .u64 x, .int .u64 y, .int .u64 b]).run Try.prog w = .ok (.value (.tuple #[.int .u64 r, .int .u64 c])) w := ⟨_, _, ⟨rfl, rfl⟩, Pl.adc_le hx hy hb, fun w => x_add64 x y b hb w⟩
theorem add_factz (x y : Nat) (hx : x < 18446744073709551616) (hy : y < 18446744073709551616) : ∃ r c : Nat, (adl x y 0 = r ∧ adc x y 0 = c) ∧ c ≤ 1 ∧ ∀ w : World, (callFunc 64 #[.int .u64 x, .int .u64 y, .int .u64 0]).run Try.prog w = .ok (.value (.tuple #[.int .u64 r, .int .u64 c])) w := ⟨_, _, ⟨rfl, rfl⟩, Pl.adc_le hx hy (by omega), fun w => x_add64 x y 0 (by omega) w⟩

set_option maxHeartbeats 1000000 in
theorem minus_fact (a0 a1 a2 a3 b0 b1 b2 b3 : Nat) (ha : W4 a0 a1 a2 a3) (hb : W4 b0 b1 b2 b3) : ∃ r0 r1 r2 r3 c : Nat, (W4 r0 r1 r2 r3 ∧ c ≤ 1 ∧ V r0 r1 r2 r3 + V b0 b1 b2 b3 = V a0 a1 a2 a3 + T256 * c) ∧ ∀ w : World,
    Calls Try.prog 47 #[.agg #[.int .u64 a0, .int .u64 a1, .int .u64 a2, .int .u64 a3], .agg #[.int .u64 b0, .int .u64 b1, .int .u64 b2, .int .u64 b3]] w fun e w' => e = .returned (.tuple #[.agg #[.int .u64 r0, .int .u64 r1, .int .u64 r2, .int .u64 r3], .int .u64 c]) ∧ Below w.heap.size w w' := by
  obtain ⟨r0, c0, h0, hc0, f0⟩ := sub_factz a0 b0
  obtain ⟨r1, c1, h1, hc1, f1⟩ := sub_fact a1 b1 c0 hc0
  obtain ⟨r2, c2, h2, hc2, f2⟩ := sub_fact a2 b2 c1 hc1
  obtain ⟨r3, c3, h3, hc3, f3⟩ := sub_fact a3 b3 c2 hc2
  refine ⟨r0, r1, r2, r3, c3, Pl.minus_spec ha hb h0 h1 h2 h3, fun w => ?_⟩
  clear h0 h1 h2 h3 ha hb hc0 hc1 hc2 hc3
  go_enter Try.func47, Try.ntmps47
  go_wp2
  refine wp_loop_rounds 5 ?_
  rw [rounds_succ]
  go_wp2
  go_region
  go_wp2
  rw [rounds_succ]
  go_wp2
  go_region
  go_wp2
  rw [rounds_succ]
  go_wp2
  go_region
  go_wp2
  rw [rounds_succ]
  go_wp2
  go_region
  go_wp2
  rw [rounds_succ]
  go_wp2
  refine bodyPost_ret (v := .tuple #[.agg #[.int .u64 r0, .int .u64 r1, .int .u64 r2, .int .u64 r3], .int .u64 c3]) (by simp [results, Try.results47, go_sem]) rfl ⟨rfl, ?_⟩
  go_grown

set_option maxHeartbeats 1000000 in
theorem plus_fact (a0 a1 a2 a3 b0 b1 b2 b3 : Nat) (ha : W4 a0 a1 a2 a3) (hb : W4 b0 b1 b2 b3) : ∃ r0 r1 r2 r3 c : Nat, (W4 r0 r1 r2 r3 ∧ c ≤ 1 ∧ V r0 r1 r2 r3 + T256 * c = V a0 a1 a2 a3 + V b0 b1 b2 b3) ∧ ∀ w : World,
    Calls Try.prog 53 #[.agg #[.int .u64 a0, .int .u64 a1, .int .u64 a2, .int .u64 a3], .agg #[.int .u64 b0, .int .u64 b1, .int .u64 b2, .int .u64 b3]] w fun e w' => e = .returned (.tuple #[.agg #[.int .u64 r0, .int .u64 r1, .int .u64 r2, .int .u64 r3], .int .u64 c]) ∧ Below w.heap.size w w' := by
  obtain ⟨r0, c0, h0, hc0, f0⟩ := add_factz a0 b0 ha.1 hb.1
  obtain ⟨r1, c1, h1, hc1, f1⟩ := adw_fact a1 b1 c0 ha.2.1 hb.2.1 hc0
  obtain ⟨r2, c2, h2, hc2, f2⟩ := adw_fact a2 b2 c1 ha.2.2.1 hb.2.2.1 hc1
  obtain ⟨r3, c3, h3, hc3, f3⟩ := adw_fact a3 b3 c2 ha.2.2.2 hb.2.2.2 hc2
  refine ⟨r0, r1, r2, r3, c3, Pl.plus_spec ha hb h0 h1 h2 h3, fun w => ?_⟩
  clear h0 h1 h2 h3 ha hb hc0 hc1 hc2 hc3
  go_enter Try.func53, Try.ntmps53
  go_wp2
  refine wp_loop_rounds 5 ?_
  rw [rounds_succ]
  go_wp2
  go_region
  go_wp2
  rw [rounds_succ]
  go_wp2
  go_region
  go_wp2
  rw [rounds_succ]
  go_wp2
  go_region
  go_wp2
  rw [rounds_succ]
  go_wp2
  go_region
  go_wp2
  rw [rounds_succ]
  go_wp2
  refine bodyPost_ret (v := .tuple #[.agg #[.int .u64 r0, .int .u64 r1, .int .u64 r2, .int .u64 r3], .int .u64 c3]) (by simp [results, Try.results53, go_sem]) rfl ⟨rfl, ?_⟩
  go_grown

theorem prime_fact : ∃ p0 p1 p2 p3 : Nat, (W4 p0 p1 p2 p3 ∧ V p0 p1 p2 p3 = pP) ∧ ∀ w : World, Calls Try.prog 41 #[] w fun e w' => e = .returned (.agg #[.int .u64 p0, .int .u64 p1, .int .u64 p2, .int .u64 p3]) ∧ Below w.heap.size w w' := by
  refine ⟨18446744073709551597, 18446744073709551615, 18446744073709551615, 9223372036854775807, ⟨by unfold W4; decide, by decide +kernel⟩, fun w => ?_⟩
  go_enter Try.func41, Try.ntmps41
  go_wp2
  refine bodyPost_ret (v := .agg #[.int .u64 18446744073709551597, .int .u64 18446744073709551615, .int .u64 18446744073709551615, .int .u64 9223372036854775807]) (by simp [results, Try.results41, go_sem]) rfl ⟨rfl, ?_⟩
  go_grown

theorem info_u64 : (Try.prog.info? 24).map (·.size) = some 1 := by kernel_rfl
theorem key_u64 : Try.prog.plainKey 24 = true := by kernel_rfl
theorem eql_num (a0 a1 a2 a3 b0 b1 b2 b3 : Int) (w : World) : (binOp .eql 26 (.agg #[.int .u64 a0, .int .u64 a1, .int .u64 a2, .int .u64 a3]) (.agg #[.int .u64 b0, .int .u64 b1, .int .u64 b2, .int .u64 b3])).run Try.prog w = .ok (.bool (eqL [a0, a1, a2, a3] [b0, b1, b2, b3])) w := by
  obtain ⟨i, hi, hs⟩ := Option.map_eq_some_iff.1 info_u64
  exact run_eql_arr w 26 24 4 .u64 [a0, a1, a2, a3] [b0, b1, b2, b3] Try.underlying26 Try.underlying24 key_u64 hi hs rfl rfl
theorem neq_num (a0 a1 a2 a3 b0 b1 b2 b3 : Int) (w : World) : (binOp .neq 26 (.agg #[.int .u64 a0, .int .u64 a1, .int .u64 a2, .int .u64 a3]) (.agg #[.int .u64 b0, .int .u64 b1, .int .u64 b2, .int .u64 b3])).run Try.prog w = .ok (.bool (!eqL [a0, a1, a2, a3] [b0, b1, b2, b3])) w := by
  obtain ⟨i, hi, hs⟩ := Option.map_eq_some_iff.1 info_u64
  exact run_neq_arr w 26 24 4 .u64 [a0, a1, a2, a3] [b0, b1, b2, b3] Try.underlying26 Try.underlying24 key_u64 hi hs rfl rfl
attribute [local go_sem ↓] eql_num neq_num
theorem eqL_V {a0 a1 a2 a3 b0 b1 b2 b3 : Nat} (ha : W4 a0 a1 a2 a3) (hb : W4 b0 b1 b2 b3) : eqL [(a0 : Int), a1, a2, a3] [(b0 : Int), b1, b2, b3] = true ↔ V a0 a1 a2 a3 = V b0 b1 b2 b3 := by
  rw [eqL_iff]
  constructor
  · intro h
    simp only [List.cons.injEq, Int.natCast_inj, and_true] at h
    obtain ⟨rfl, rfl, rfl, rfl⟩ := h
    rfl
  · intro h
    obtain ⟨rfl, rfl, rfl, rfl⟩ := Pl.V_inj ha hb h
    rfl
theorem eqL_zero {a0 a1 a2 a3 : Nat} : eqL [(a0 : Int), a1, a2, a3] [(0 : Int), 0, 0, 0] = true ↔ V a0 a1 a2 a3 = 0 := by
  rw [eqL_iff, Pl.V_zero]
  simp only [List.cons.injEq, and_true]
  omega

/-- Whether all words are 0. -/
theorem zero_fact (a0 a1 a2 a3 : Nat) : ∃ z : Bool, (z = true ↔ V a0 a1 a2 a3 = 0) ∧ ∀ w : World, Calls Try.prog 28 #[.agg #[.int .u64 a0, .int .u64 a1, .int .u64 a2, .int .u64 a3]] w fun e w' => e = .returned (.bool z) ∧ Below w.heap.size w w' := by
  refine ⟨eqL [(a0 : Int), a1, a2, a3] [(0 : Int), 0, 0, 0], eqL_zero, fun w => ?_⟩
  go_enter Try.func28, Try.ntmps28
  go_wp2
  go_ret
  refine ⟨rfl, ?_⟩
  go_grown

set_option maxHeartbeats 1000000 in
theorem less_fact (a0 a1 a2 a3 b0 b1 b2 b3 : Nat) (ha : W4 a0 a1 a2 a3) (hb : W4 b0 b1 b2 b3) : ∃ z : Bool, (z = true ↔ V a0 a1 a2 a3 < V b0 b1 b2 b3) ∧ ∀ w : World, Calls Try.prog 40 #[.agg #[.int .u64 a0, .int .u64 a1, .int .u64 a2, .int .u64 a3], .agg #[.int .u64 b0, .int .u64 b1, .int .u64 b2, .int .u64 b3]] w fun e w' => e = .returned (.bool z) ∧ Below w.heap.size w w' := by
  obtain ⟨r0, r1, r2, r3, c, ⟨hr, hc1, hv⟩, F⟩ := minus_fact a0 a1 a2 a3 b0 b1 b2 b3 ha hb
  have hlt := Pl.V_lt hr
  obtain ⟨z, hz⟩ : ∃ z : Bool, ((c : Int) == 1) = z := ⟨_, rfl⟩
  have hzc : z = true ↔ c = 1 := by rw [← hz, beq_iff_eq]; omega
  refine ⟨z, ?_, fun w => ?_⟩
  · rw [hzc]
    have hla := Pl.V_lt ha
    have hlb := Pl.V_lt hb
    rcases (show c = 0 ∨ c = 1 by omega) with rfl | rfl
    · omega
    · omega
  have HF := Lib.hid F
  clear F hzc hlt hv hc1 hr ha hb
  go_enter Try.func40, Try.ntmps40
  go_wp2_with (first | (go_at_call 47; refine (HF.out _).mono ?_; rintro e w1 ⟨rfl, hb⟩; have HB : Below w.heap.size w w1 := below_call (by go_grown) (by simp; omega) hb; obtain ⟨hc, hf⟩ := bcell hb; have hz := hb.size; clear hb))
  go_returns
  refine ⟨rfl, ?_⟩
  have hz' := HB.size
  go_grown

end Go.Proofs.Ytgeldhdijochdaa
/- @@NUM 26 The walk of residue's small: a number modulo the prime. Conditions: words are below 2^64. -/
namespace Go.Proofs.Ytgeldhdijochdaa
set_option linter.unusedVariables false
set_option linter.unusedSimpArgs false
open Go Go.RowKit
open Pl (V W4 T256 pP)

theorem small_step {m0 m1 m2 m3 r0 r1 r2 r3 p0 p1 p2 p3 c : Nat} (hp : W4 p0 p1 p2 p3 ∧ V p0 p1 p2 p3 = pP) (hm : W4 m0 m1 m2 m3) (hge : ¬ V m0 m1 m2 m3 < pP) (h : W4 r0 r1 r2 r3 ∧ c ≤ 1 ∧ V r0 r1 r2 r3 + V p0 p1 p2 p3 = V m0 m1 m2 m3 + T256 * c) : V r0 r1 r2 r3 + pP = V m0 m1 m2 m3 := by
  have h1 := Pl.V_lt h.1
  have h2 := Pl.V_lt hm
  rw [hp.2] at h
  rcases (show c = 0 ∨ c = 1 by omega) with rfl | rfl
  · omega
  · have : pP < T256 := by decide +kernel
    omega

set_option maxHeartbeats 2000000 in
theorem small_fact (a0 a1 a2 a3 : Nat) (ha : W4 a0 a1 a2 a3) : ∃ r0 r1 r2 r3 : Nat, (W4 r0 r1 r2 r3 ∧ V r0 r1 r2 r3 = V a0 a1 a2 a3 % pP) ∧ ∀ w : World,
    Calls Try.prog 48 #[.agg #[.int .u64 a0, .int .u64 a1, .int .u64 a2, .int .u64 a3]] w fun e w' => e = .returned (.agg #[.int .u64 r0, .int .u64 r1, .int .u64 r2, .int .u64 r3]) ∧ Below w.heap.size w w' := by
  obtain ⟨p0, p1, p2, p3, hp, FP⟩ := prime_fact
  obtain ⟨r0, r1, r2, r3, hr, hv⟩ := Pl.words (V a0 a1 a2 a3 % pP) (Nat.lt_of_le_of_lt (Nat.mod_le _ _) (Pl.V_lt ha))
  refine ⟨r0, r1, r2, r3, ⟨hr, hv⟩, fun w => ?_⟩
  have HP := Lib.hid FP
  clear FP
  have Hp := Lib.hid hp
  have Hr := Lib.hid hr
  have Hv := Lib.hid hv
  have Ha := Lib.hid ha
  clear hp hr hv ha
  go_enter Try.func48, Try.ntmps48
  go_wp2
  go_loopg [] 3 (fun kq wr => ∃ m0 m1 m2 m3 : Nat, Hid (W4 m0 m1 m2 m3 ∧ V m0 m1 m2 m3 % pP = V a0 a1 a2 a3 % pP ∧ V m0 m1 m2 m3 < pP * (kq + 1)) ∧ Hid (wr.heap[w.heap.size]? = some (.cells #[.int .u64 m0, .int .u64 m1, .int .u64 m2, .int .u64 m3] 26 (0, 0)) ∧ wr.heap[w.heap.size + 1]? = some (.cells #[.int .u64 0, .int .u64 0, .int .u64 0, .int .u64 0] 26 (0, 0))) ∧ Hid (Below w.heap.size w wr))
  case atStart =>
    refine ⟨a0, a1, a2, a3, ⟨Ha.out, rfl, ?_⟩, ⟨heap_old (heap_new _ _) _, heap_new' (by simp) _⟩, ?_⟩
    · have := Pl.V_lt Ha.out
      have h2 : T256 < pP * (3 + 1) := by decide +kernel
      omega
    · show Below _ _ _
      go_grown
  case round =>
    obtain ⟨m0, m1, m2, m3, HM, HH, HB⟩ := hrel
    by_cases hlt : V m0 m1 m2 m3 < pP
    · obtain ⟨z, hz, FL⟩ := less_fact m0 m1 m2 m3 p0 p1 p2 p3 HM.out.1 Hp.out.1
      have hzt : z = true := hz.2 (by rw [Hp.out.2]; exact hlt)
      subst hzt
      have HL := Lib.hid FL
      clear FL hz
      have HE : Hid (m0 = r0 ∧ m1 = r1 ∧ m2 = r2 ∧ m3 = r3) := Pl.V_inj HM.out.1 Hr.out (by rw [Hv.out, ← HM.out.2.1, Nat.mod_eq_of_lt hlt])
      clear hlt
      go_wp2
      refine Rg.region_ (n := 14) [0, 0, 3, 7] [1, 1, 1, 0] [3, 4, 5, 6] [[(1, none)], [], [(3, some 0), (4, some 1)], [(5, some 2)]] 4 (by kernel_rfl) (by kernel_rfl) (by rfl) ?_
      intro W hW
      have hA := heap_drew HH.out.1
      rw [← hW] at hA
      change Rg.Chain' _ _ _ _ _ [(0, 1, 3, [(1, none)]), (1, 1, 4, []), (2, 1, 5, [(3, some 0), (4, some 1)]), (3, 0, 6, [(5, some 2)])] [(0, 1, 3, [(1, none)]), (1, 1, 4, []), (2, 1, 5, [(3, some 0), (4, some 1)]), (3, 0, 6, [(5, some 2)])] _
      apply Rg.ch_def (by rfl) (fun a w1 _ => Rg.wanted_none (by rfl))
      · rintro a w1 hb ⟨e1, -⟩
        conv at e1 => rhs; whnf
        have n1 := e1
        simp only [Act.eval, Array.getD_eq_getD_getElem?] at n1
        apply Rg.gives_value
        · conv => lhs; simp [go_sem, n1, cells4 (heap_keep' hb hA)]
        · exact ⟨rfl, Below.refl _ _⟩
      apply Rg.ch_def (by rfl) (fun a w1 _ => Rg.wanted_none (by rfl))
      · rintro a w1 hb -
        apply Rg.gives_enter
        · exact run_call Try.func41 (by kernel_rfl) rfl #[] (by rfl) (by simp)
        · refine (HP.out _).mono ?_
          rintro e w2 ⟨rfl, hb2⟩
          exact ⟨_, rfl, rfl, hb2⟩
      apply Rg.ch_def (by rfl) (fun a w1 _ => Rg.wanted_none (by rfl))
      · rintro a w1 hb ⟨e3, e4, -⟩
        replace e3 : a.eval (.tmp 3) = _ := e3
        replace e4 : a.eval (.tmp 4) = _ := e4
        apply Rg.gives_enter
        · apply run_call Try.func40 (by kernel_rfl) rfl _ (by rfl)
          conv => lhs; simp only [List.map_toArray, List.map_cons, List.map_nil, eval_const_, eval_global_, e3, e4]
        · refine (HL.out _).mono ?_
          rintro e w2 ⟨rfl, hb2⟩
          exact ⟨_, rfl, rfl, hb2⟩
      apply Rg.ch_pure (by rfl)
      · rintro a w1 ⟨e5, -⟩
        replace e5 : a.eval (.tmp 5) = _ := e5
        have n5 := e5
        simp only [Act.eval, Array.getD_eq_getD_getElem?] at n5
        apply Rg.yields_run (Rg.wanted_none (by rfl))
        intro w2
        conv => lhs; simp [go_sem, n5]
      intro w1 hb1
      rintro _ rfl _ rfl _ rfl _ rfl
      change Go.wpList _ _ _ _ _ _
      simp only [List.drop_succ_cons, List.drop_zero, List.drop_nil, Act.put, List.setIfInBounds_toArray, List.set_cons_succ, List.set_cons_zero]
      change Go.NoPanic _ _ _ _
      refine NoPanic.normal ?_
      have hA1 := cells4 (heap_keep' hb1 hA)
      have hR := heap_drew HH.out.2
      rw [← hW] at hR
      have hR1 := cells4 (heap_keep' hb1 hR)
      have hQ := cells4 (set4 (heap_keep' hb1 hR) (.int .u64 m0) (.int .u64 m1) (.int .u64 m2) (.int .u64 m3))
      have hF1 := frozen_of (heap_keep' hb1 hR)
      have HB1 : Below w.heap.size w w1 := below_call (below_wdrew HB.out hW) (below_wdrew HB.out hW).size hb1
      have HW := Lib.hid hW
      clear hb1 hW hA hR
      go_wp2
      obtain ⟨rfl, rfl, rfl, rfl⟩ := HE.out
      refine bodyPost_ret (v := .agg #[.int .u64 m0, .int .u64 m1, .int .u64 m2, .int .u64 m3]) (by simp [results, Try.results48, go_sem, hQ]) rfl ⟨rfl, ?_⟩
      go_grown
    · obtain ⟨z, hz, FL⟩ := less_fact m0 m1 m2 m3 p0 p1 p2 p3 HM.out.1 Hp.out.1
      have hzt : z = false := by
        cases z with
        | false => rfl
        | true => exact absurd (hz.1 rfl) (by rw [Hp.out.2]; exact hlt)
      subst hzt
      have HL := Lib.hid FL
      clear FL hz
      obtain ⟨q0, q1, q2, q3, c, hq, FM⟩ := minus_fact m0 m1 m2 m3 p0 p1 p2 p3 HM.out.1 Hp.out.1
      have HFM := Lib.hid FM
      have HQ : Hid (W4 q0 q1 q2 q3 ∧ V q0 q1 q2 q3 + pP = V m0 m1 m2 m3) := ⟨hq.1, small_step Hp.out HM.out.1 hlt hq⟩
      have HG : Hid (0 < gk) := by
        have h1 := HM.out.2.2
        rcases Nat.eq_zero_or_pos gk with h | h
        · subst h; exact absurd (by simpa using h1) hlt
        · exact h
      clear FM hq hlt
      go_wp2
      refine Rg.region_ (n := 14) [0, 0, 3, 7] [1, 1, 1, 0] [3, 4, 5, 6] [[(1, none)], [], [(3, some 0), (4, some 1)], [(5, some 2)]] 4 (by kernel_rfl) (by kernel_rfl) (by rfl) ?_
      intro W hW
      have hA := heap_drew HH.out.1
      rw [← hW] at hA
      change Rg.Chain' _ _ _ _ _ [(0, 1, 3, [(1, none)]), (1, 1, 4, []), (2, 1, 5, [(3, some 0), (4, some 1)]), (3, 0, 6, [(5, some 2)])] [(0, 1, 3, [(1, none)]), (1, 1, 4, []), (2, 1, 5, [(3, some 0), (4, some 1)]), (3, 0, 6, [(5, some 2)])] _
      apply Rg.ch_def (by rfl) (fun a w1 _ => Rg.wanted_none (by rfl))
      · rintro a w1 hb ⟨e1, -⟩
        conv at e1 => rhs; whnf
        have n1 := e1
        simp only [Act.eval, Array.getD_eq_getD_getElem?] at n1
        apply Rg.gives_value
        · conv => lhs; simp [go_sem, n1, cells4 (heap_keep' hb hA)]
        · exact ⟨rfl, Below.refl _ _⟩
      apply Rg.ch_def (by rfl) (fun a w1 _ => Rg.wanted_none (by rfl))
      · rintro a w1 hb -
        apply Rg.gives_enter
        · exact run_call Try.func41 (by kernel_rfl) rfl #[] (by rfl) (by simp)
        · refine (HP.out _).mono ?_
          rintro e w2 ⟨rfl, hb2⟩
          exact ⟨_, rfl, rfl, hb2⟩
      apply Rg.ch_def (by rfl) (fun a w1 _ => Rg.wanted_none (by rfl))
      · rintro a w1 hb ⟨e3, e4, -⟩
        replace e3 : a.eval (.tmp 3) = _ := e3
        replace e4 : a.eval (.tmp 4) = _ := e4
        apply Rg.gives_enter
        · apply run_call Try.func40 (by kernel_rfl) rfl _ (by rfl)
          conv => lhs; simp only [List.map_toArray, List.map_cons, List.map_nil, eval_const_, eval_global_, e3, e4]
        · refine (HL.out _).mono ?_
          rintro e w2 ⟨rfl, hb2⟩
          exact ⟨_, rfl, rfl, hb2⟩
      apply Rg.ch_pure (by rfl)
      · rintro a w1 ⟨e5, -⟩
        replace e5 : a.eval (.tmp 5) = _ := e5
        have n5 := e5
        simp only [Act.eval, Array.getD_eq_getD_getElem?] at n5
        apply Rg.yields_run (Rg.wanted_none (by rfl))
        intro w2
        conv => lhs; simp [go_sem, n5]
      intro w1 hb1
      rintro _ rfl _ rfl _ rfl _ rfl
      change Go.wpList _ _ _ _ _ _
      simp only [List.drop_succ_cons, List.drop_zero, List.drop_nil, Act.put, List.setIfInBounds_toArray, List.set_cons_succ, List.set_cons_zero]
      change Go.NoPanic _ _ _ _
      refine NoPanic.normal ?_
      have hR := heap_drew HH.out.2
      rw [← hW] at hR
      have HA1 := Lib.hid (heap_keep' hb1 hA)
      have HR1 := Lib.hid (heap_keep' hb1 hR)
      have HB1 : Hid (Below w.heap.size w w1) := below_call (below_wdrew HB.out hW) (below_wdrew HB.out hW).size hb1
      clear hb1 hA hR hW HH HB W
      go_wp2
      refine Rg.region_ (n := 14) [0, 0, 3, 7, 15, 15, 31] [1, 1, 1, 0, 0, 0, 2] [8, 9, 10, 7, 11, 12, 0] [[(1, none)], [], [(8, some 0), (9, some 1)], [(10, some 2)], [(7, some 3)], [(7, some 3)], [(1, none), (11, some 4)]] 6 (by kernel_rfl) (by kernel_rfl) (by rfl) ?_
      intro W hW
      have hA := heap_drew HA1.out
      rw [← hW] at hA
      change Rg.Chain' _ _ _ _ _ [(0, 1, 8, [(1, none)]), (1, 1, 9, []), (2, 1, 10, [(8, some 0), (9, some 1)]), (3, 0, 7, [(10, some 2)]), (4, 0, 11, [(7, some 3)]), (5, 0, 12, [(7, some 3)])] [(0, 1, 8, [(1, none)]), (1, 1, 9, []), (2, 1, 10, [(8, some 0), (9, some 1)]), (3, 0, 7, [(10, some 2)]), (4, 0, 11, [(7, some 3)]), (5, 0, 12, [(7, some 3)])] _
      apply Rg.ch_def (by rfl) (fun a w1 _ => Rg.wanted_none (by rfl))
      · rintro a w1 hb ⟨e1, -⟩
        conv at e1 => rhs; whnf
        have n1 := e1
        simp only [Act.eval, Array.getD_eq_getD_getElem?] at n1
        apply Rg.gives_value
        · conv => lhs; simp [go_sem, n1, cells4 (heap_keep' hb hA)]
        · exact ⟨rfl, Below.refl _ _⟩
      apply Rg.ch_def (by rfl) (fun a w1 _ => Rg.wanted_none (by rfl))
      · rintro a w1 hb -
        apply Rg.gives_enter
        · exact run_call Try.func41 (by kernel_rfl) rfl #[] (by rfl) (by simp)
        · refine (HP.out _).mono ?_
          rintro e w2 ⟨rfl, hb2⟩
          exact ⟨_, rfl, rfl, hb2⟩
      apply Rg.ch_def (by rfl) (fun a w1 _ => Rg.wanted_none (by rfl))
      · rintro a w1 hb ⟨e8, e9, -⟩
        replace e8 : a.eval (.tmp 8) = _ := e8
        replace e9 : a.eval (.tmp 9) = _ := e9
        apply Rg.gives_enter
        · apply run_call Try.func47 (by kernel_rfl) rfl _ (by rfl)
          conv => lhs; simp only [List.map_toArray, List.map_cons, List.map_nil, eval_const_, eval_global_, e8, e9]
        · refine (HFM.out _).mono ?_
          rintro e w2 ⟨rfl, hb2⟩
          exact ⟨_, rfl, rfl, hb2⟩
      apply Rg.ch_pure (by rfl)
      · rintro a w1 ⟨e10, -⟩
        replace e10 : a.eval (.tmp 10) = _ := e10
        have n10 := e10
        simp only [Act.eval, Array.getD_eq_getD_getElem?] at n10
        apply Rg.yields_run (Rg.wanted_none (by rfl))
        intro w2
        conv => lhs; simp [go_sem, n10]
      apply Rg.ch_pure (by rfl)
      · rintro a w1 ⟨e7, -⟩
        replace e7 : a.eval (.tmp 7) = _ := e7
        have n7 := e7
        simp only [Act.eval, Array.getD_eq_getD_getElem?] at n7
        apply Rg.yields_run (Rg.wanted_none (by rfl))
        intro w2
        conv => lhs; simp [go_sem, n7]
      apply Rg.ch_pure (by rfl)
      · rintro a w1 ⟨e7, -⟩
        replace e7 : a.eval (.tmp 7) = _ := e7
        have n7 := e7
        simp only [Act.eval, Array.getD_eq_getD_getElem?] at n7
        apply Rg.yields_run (Rg.wanted_none (by rfl))
        intro w2
        conv => lhs; simp [go_sem, n7]
      intro w1 hb1
      rintro _ rfl _ rfl _ rfl _ rfl _ rfl _ rfl
      change Go.wpList _ _ _ _ _ _
      simp only [List.drop_succ_cons, List.drop_zero, List.drop_nil, Act.put, List.setIfInBounds_toArray, List.set_cons_succ, List.set_cons_zero]
      have hA3 := heap_keep' hb1 hA
      have hA4 := cells4 hA3
      have hA5 := frozen_of hA3
      have hR := heap_drew HR1.out
      rw [← hW] at hR
      have HR2 := Lib.hid (heap_keep' hb1 hR)
      have HA2 := Lib.hid hA3
      have HB2 : Hid (Below w.heap.size w w1) := below_call (below_wdrew HB1.out hW) (below_wdrew HB1.out hW).size hb1
      clear hb1 hA hR hW hA3
      go_wp2
      refine NoPanic.normal ?_
      go_wp2
      go_roundg (gk - 1)
      case measure => have := HG.out; omega
      case rel =>
        refine ⟨q0, q1, q2, q3, ⟨HQ.out.1, ?_, ?_⟩, ⟨set4 HA2.out _ _ _ _, ?_⟩, ?_⟩
        · rw [← HM.out.2.1, ← HQ.out.2, Nat.add_mod_right]
        · have h1 := HM.out.2.2
          have h2 := HQ.out.2
          have h3 := HG.out
          obtain ⟨k, rfl⟩ : ∃ k, gk = k + 1 := ⟨gk - 1, by omega⟩
          rw [Nat.mul_succ] at h1
          simp only [Nat.add_sub_cancel]
          omega
        · exact heap_set_ne (heap_set_ne (heap_set_ne (heap_set_ne HR2.out (by simp) _) (by simp) _) (by simp) _) (by simp) _
        · exact (((HB2.out.setCell (Nat.le_refl _) _).setCell (Nat.le_refl _) _).setCell (Nat.le_refl _) _).setCell (Nat.le_refl _) _
end Go.Proofs.Ytgeldhdijochdaa
/- @@NUM 26 The walks of residue's add, of bits.Mul64, of a number's product with a word. Conditions: words are below 2^64. -/
namespace Go.Proofs.Ytgeldhdijochdaa
set_option linter.unusedVariables false
set_option linter.unusedSimpArgs false
open Go Go.RowKit
open Pl (V W4 T256 pP adl adc)

set_option maxHeartbeats 1000000 in
theorem mul64_fact (x y : Nat) (hx : x < 18446744073709551616) (hy : y < 18446744073709551616) : ∃ h l : Nat, (l < 18446744073709551616 ∧ h < 18446744073709551616 ∧ l + 18446744073709551616 * h = x * y) ∧ ∀ w : World,
    Calls Try.prog 68 #[.int .u64 x, .int .u64 y] w fun e w' => e = .returned (.tuple #[.int .u64 h, .int .u64 l]) ∧ w = w' := by
  refine ⟨x * y / 18446744073709551616, x * y % 18446744073709551616, ⟨Nat.mod_lt _ (by omega), ?_, by omega⟩, fun w => ?_⟩
  · have := Pl.mulw_le hx hy
    omega
  obtain ⟨bd, bt, bw, hhi⟩ := Lib.mul64_hi x y hx hy
  have ba := Lib.half_mul_le (a := x / 4294967296) (b := y / 4294967296) (by omega) (by omega)
  have bb := Lib.half_mul_le (a := x / 4294967296) (b := y % 4294967296) (by omega) (by omega)
  have bc := Lib.half_mul_le (a := x % 4294967296) (b := y / 4294967296) (by omega) (by omega)
  have ba' : x / 4294967296 * (y / 4294967296) < 18446744073709551616 := by omega
  have bb' : x / 4294967296 * (y % 4294967296) < 18446744073709551616 := by omega
  have bc' : x % 4294967296 * (y / 4294967296) < 18446744073709551616 := by omega
  have bh1 : x / 4294967296 * (y / 4294967296) + (x / 4294967296 * (y % 4294967296) + x % 4294967296 * (y % 4294967296) / 4294967296) / 4294967296 < 18446744073709551616 := by omega
  have bh : x / 4294967296 * (y / 4294967296) + (x / 4294967296 * (y % 4294967296) + x % 4294967296 * (y % 4294967296) / 4294967296) / 4294967296 + ((x / 4294967296 * (y % 4294967296) + x % 4294967296 * (y % 4294967296) / 4294967296) % 4294967296 + x % 4294967296 * (y / 4294967296)) / 4294967296 < 18446744073709551616 := by omega
  go_enter Try.func68, Try.ntmps68
  go_wp2
  simp only [Mul64.maskN x hx, Mul64.maskN y hy, Mul64.divN, Mul64.mulN, Mul64.addN, Mul64.wrapN _ bd, Mul64.wrapN _ bb', Mul64.wrapN _ bt, Mul64.maskN _ bt, Mul64.wrapN _ bc', Mul64.wrapN _ bw, Mul64.wrapN _ ba', Mul64.wrapN _ bh1, Mul64.wrapN _ bh, Mul64.wrapM (x * y)]
  rw [hhi]
  go_ret2
  exact ⟨rfl, rfl⟩

set_option maxHeartbeats 1000000 in
theorem add_fact (a0 a1 a2 a3 b0 b1 b2 b3 : Nat) (ha : W4 a0 a1 a2 a3) (hb : W4 b0 b1 b2 b3) : ∃ r0 r1 r2 r3 : Nat, (W4 r0 r1 r2 r3 ∧ (V a0 a1 a2 a3 < pP → V b0 b1 b2 b3 < pP → V r0 r1 r2 r3 = (V a0 a1 a2 a3 + V b0 b1 b2 b3) % pP)) ∧ ∀ w : World,
    Calls Try.prog 49 #[.agg #[.int .u64 a0, .int .u64 a1, .int .u64 a2, .int .u64 a3], .agg #[.int .u64 b0, .int .u64 b1, .int .u64 b2, .int .u64 b3]] w fun e w' => e = .returned (.agg #[.int .u64 r0, .int .u64 r1, .int .u64 r2, .int .u64 r3]) ∧ Below w.heap.size w w' := by
  obtain ⟨s0, s1, s2, s3, c, ⟨hs, hc1, hv⟩, F⟩ := plus_fact a0 a1 a2 a3 b0 b1 b2 b3 ha hb
  obtain ⟨r0, r1, r2, r3, ⟨hr, hrv⟩, FS⟩ := small_fact s0 s1 s2 s3 hs
  refine ⟨r0, r1, r2, r3, ⟨hr, fun h1 h2 => ?_⟩, fun w => ?_⟩
  · have := Pl.pP_lt
    have h3 : 2 ^ 255 + 2 ^ 255 = T256 := by decide +kernel
    have h4 := Pl.V_lt hs
    rw [hrv]
    congr 1
    rcases (show c = 0 ∨ c = 1 by omega) with rfl | rfl <;> omega
  have HF := Lib.hid F
  have HS := Lib.hid FS
  clear F FS hrv hr hv hc1 hs ha hb
  go_enter Try.func49, Try.ntmps49
  go_wp2_with (fail)
  go_at_call 53
  refine (HF.out _).mono ?_
  rintro e w1 ⟨rfl, hb⟩
  have hR : w1.heap[w.heap.size + 2]? = some (.cells #[.int .u64 0, .int .u64 0, .int .u64 0, .int .u64 0] 26 (0, 0)) := heap_keep' hb (by repeat (first | (with_reducible refine heap_new' ?_ _; simp; done) | (with_reducible assumption) | (with_reducible refine heap_old ?_ _) | (with_reducible refine heap_drew ?_) | (with_reducible refine heap_set_ne ?_ (by simp <;> omega) _))); have cR := cells4 hR; have fR := frozen_of hR; have zR := lt_of_heap hR
  have HB : Below w.heap.size w w1 := below_call (by go_grown) (by simp; omega) hb
  clear hb
  go_wp2_with (fail)
  go_at_call 48
  refine (HS.out _).mono ?_
  rintro e w2 ⟨rfl, hb⟩
  have hR : w2.heap[w.heap.size + 2]? = some (.cells #[.int .u64 0, .int .u64 0, .int .u64 0, .int .u64 0] 26 (0, 0)) := heap_keep' hb (by repeat (first | (with_reducible refine heap_new' ?_ _; simp; done) | (with_reducible assumption) | (with_reducible refine heap_old ?_ _) | (with_reducible refine heap_drew ?_) | (with_reducible refine heap_set_ne ?_ (by simp <;> omega) _))); have cR := cells4 hR; have fR := frozen_of hR; have zR := lt_of_heap hR
  have hz := HB.size
  have HB2 : Below w.heap.size w w2 := below_call (by go_grown) (by simp; omega) hb
  clear hb
  have hQ := cells4 (set4 hR (.int .u64 r0) (.int .u64 r1) (.int .u64 r2) (.int .u64 r3))
  go_wp2
  refine bodyPost_ret (v := .agg #[.int .u64 r0, .int .u64 r1, .int .u64 r2, .int .u64 r3]) (by simp [results, Try.results49, go_sem, hQ]) rfl ⟨rfl, ?_⟩
  go_grown

set_option maxHeartbeats 2000000 in
theorem times_fact (a0 a1 a2 a3 x : Nat) (ha : W4 a0 a1 a2 a3) (hx : x < 18446744073709551616) : ∃ r0 r1 r2 r3 c : Nat, (W4 r0 r1 r2 r3 ∧ c < 18446744073709551616 ∧ V r0 r1 r2 r3 + T256 * c = V a0 a1 a2 a3 * x) ∧ ∀ w : World,
    Calls Try.prog 63 #[.agg #[.int .u64 a0, .int .u64 a1, .int .u64 a2, .int .u64 a3], .int .u64 x] w fun e w' => e = .returned (.tuple #[.agg #[.int .u64 r0, .int .u64 r1, .int .u64 r2, .int .u64 r3], .int .u64 c]) ∧ Below w.heap.size w w' := by
  obtain ⟨h0, l0, ⟨hl0, hh0, m0⟩, F0⟩ := mul64_fact a0 x ha.1 hx
  obtain ⟨h1, l1, ⟨hl1, hh1, m1⟩, F1⟩ := mul64_fact a1 x ha.2.1 hx
  obtain ⟨h2, l2, ⟨hl2, hh2, m2⟩, F2⟩ := mul64_fact a2 x ha.2.2.1 hx
  obtain ⟨h3, l3, ⟨hl3, hh3, m3⟩, F3⟩ := mul64_fact a3 x ha.2.2.2 hx
  obtain ⟨s0, c0, e0, hc0, f0⟩ := adw_fact l0 0 0 hl0 (by omega) (by omega)
  have t0 := Pl.times_word ha.1 hx (by omega) m0 hl0 e0
  obtain ⟨k1, hk1⟩ : ∃ k, h0 + c0 = k := ⟨_, rfl⟩
  rw [hk1] at t0
  obtain ⟨s1, c1, e1, hc1, f1⟩ := adw_fact l1 k1 0 hl1 t0.2.2.1 (by omega)
  have t1 := Pl.times_word ha.2.1 hx t0.2.2.1 m1 hl1 e1
  obtain ⟨k2, hk2⟩ : ∃ k, h1 + c1 = k := ⟨_, rfl⟩
  rw [hk2] at t1
  obtain ⟨s2, c2, e2, hc2, f2⟩ := adw_fact l2 k2 0 hl2 t1.2.2.1 (by omega)
  have t2 := Pl.times_word ha.2.2.1 hx t1.2.2.1 m2 hl2 e2
  obtain ⟨k3, hk3⟩ : ∃ k, h2 + c2 = k := ⟨_, rfl⟩
  rw [hk3] at t2
  obtain ⟨s3, c3, e3, hc3, f3⟩ := adw_fact l3 k3 0 hl3 t2.2.2.1 (by omega)
  have t3 := Pl.times_word ha.2.2.2 hx t2.2.2.1 m3 hl3 e3
  obtain ⟨k4, hk4⟩ : ∃ k, h3 + c3 = k := ⟨_, rfl⟩
  rw [hk4] at t3
  have g0 : IntKind.u64.wrap ((h0 : Int) + (c0 : Int)) = (k1 : Int) := by rw [IntKind.wrap_u64]; omega
  have g1 : IntKind.u64.wrap ((h1 : Int) + (c1 : Int)) = (k2 : Int) := by rw [IntKind.wrap_u64]; omega
  have g2 : IntKind.u64.wrap ((h2 : Int) + (c2 : Int)) = (k3 : Int) := by rw [IntKind.wrap_u64]; omega
  have g3 : IntKind.u64.wrap ((h3 : Int) + (c3 : Int)) = (k4 : Int) := by rw [IntKind.wrap_u64]; omega
  refine ⟨s0, s1, s2, s3, k4, ⟨⟨t0.1, t1.1, t2.1, t3.1⟩, t3.2.2.1, Pl.times_spec t0.2.2.2 t1.2.2.2 t2.2.2.2 t3.2.2.2⟩, fun w => ?_⟩
  have M0 := Lib.hid F0
  have M1 := Lib.hid F1
  have M2 := Lib.hid F2
  have M3 := Lib.hid F3
  clear F0 F1 F2 F3 t0 t1 t2 t3 e0 e1 e2 e3 m0 m1 m2 m3 hk1 hk2 hk3 hk4 ha hx hl0 hl1 hl2 hl3 hh0 hh1 hh2 hh3 hc0 hc1 hc2 hc3
  simp only [Int.natCast_zero] at f0 f1 f2 f3
  go_enter Try.func63, Try.ntmps63
  go_wp2
  refine wp_loop_rounds 5 ?_
  rw [rounds_succ]
  go_wp2_with (fail)
  go_at_call 68
  refine (M0.out _).mono ?_
  rintro e w1 ⟨rfl, rfl⟩
  go_wp2
  rw [rounds_succ]
  go_wp2_with (fail)
  go_at_call 68
  refine (M1.out _).mono ?_
  rintro e w2 ⟨rfl, rfl⟩
  go_wp2
  rw [rounds_succ]
  go_wp2_with (fail)
  go_at_call 68
  refine (M2.out _).mono ?_
  rintro e w3 ⟨rfl, rfl⟩
  go_wp2
  rw [rounds_succ]
  go_wp2_with (fail)
  go_at_call 68
  refine (M3.out _).mono ?_
  rintro e w4 ⟨rfl, rfl⟩
  go_wp2
  rw [rounds_succ]
  go_wp2
  go_outline
  refine bodyPost_ret (v := .tuple #[.agg #[.int .u64 s0, .int .u64 s1, .int .u64 s2, .int .u64 s3], .int .u64 k4]) (by simp [results, Try.results63, go_sem]) rfl ⟨rfl, ?_⟩
  go_grown
end Go.Proofs.Ytgeldhdijochdaa
/- @@NUM 26 The walk of residue's product of two numbers: eight words. Conditions: words are below 2^64. -/
namespace Go.Proofs.Ytgeldhdijochdaa
set_option linter.unusedVariables false
set_option linter.unusedSimpArgs false
open Go Go.RowKit
open Pl (V V8 W4 T256 pP adl adc lowW)

theorem index_num (x0 x1 x2 x3 : Value) : (∀ w, (Instr.index 26 (.agg #[x0, x1, x2, x3]) (.int .i64 0)).run Try.prog w = .ok x0 w) ∧ (∀ w, (Instr.index 26 (.agg #[x0, x1, x2, x3]) (.int .i64 1)).run Try.prog w = .ok x1 w) ∧ (∀ w, (Instr.index 26 (.agg #[x0, x1, x2, x3]) (.int .i64 2)).run Try.prog w = .ok x2 w) ∧ (∀ w, (Instr.index 26 (.agg #[x0, x1, x2, x3]) (.int .i64 3)).run Try.prog w = .ok x3 w) :=
  ⟨fun _ => by kernel_rfl, fun _ => by kernel_rfl, fun _ => by kernel_rfl, fun _ => by kernel_rfl⟩

/-- What stands in out behind i rounds. -/
structure PR (a0 a1 a2 a3 b0 b1 b2 b3 : Nat) (i : Nat) (o0 o1 o2 o3 o4 o5 o6 o7 : Nat) : Prop where
  lo : W4 o0 o1 o2 o3
  hi : W4 o4 o5 o6 o7
  val : V8 o0 o1 o2 o3 o4 o5 o6 o7 = V a0 a1 a2 a3 * lowW b0 b1 b2 b3 i
  z4 : i = 0 → o4 = 0
  z5 : i ≤ 1 → o5 = 0
  z6 : i ≤ 2 → o6 = 0
  z7 : i ≤ 3 → o7 = 0

set_option maxHeartbeats 8000000 in
theorem product_fact (a0 a1 a2 a3 b0 b1 b2 b3 : Nat) (ha : W4 a0 a1 a2 a3) (hb : W4 b0 b1 b2 b3) : ∃ r0 r1 r2 r3 r4 r5 r6 r7 : Nat, (W4 r0 r1 r2 r3 ∧ W4 r4 r5 r6 r7 ∧ V8 r0 r1 r2 r3 r4 r5 r6 r7 = V a0 a1 a2 a3 * V b0 b1 b2 b3) ∧ ∀ w : World,
    Calls Try.prog 52 #[.agg #[.int .u64 a0, .int .u64 a1, .int .u64 a2, .int .u64 a3], .agg #[.int .u64 b0, .int .u64 b1, .int .u64 b2, .int .u64 b3]] w fun e w' => e = .returned (.agg #[.int .u64 r0, .int .u64 r1, .int .u64 r2, .int .u64 r3, .int .u64 r4, .int .u64 r5, .int .u64 r6, .int .u64 r7]) ∧ Below w.heap.size w w' := by
  have hlt : V a0 a1 a2 a3 * V b0 b1 b2 b3 < T256 * T256 := Nat.mul_lt_mul'' (Pl.V_lt ha) (Pl.V_lt hb)
  obtain ⟨r0, r1, r2, r3, hrl, vl⟩ := Pl.words (V a0 a1 a2 a3 * V b0 b1 b2 b3 % T256) (Nat.mod_lt _ (by decide +kernel))
  obtain ⟨r4, r5, r6, r7, hrh, vh⟩ := Pl.words (V a0 a1 a2 a3 * V b0 b1 b2 b3 / T256) (Nat.div_lt_of_lt_mul hlt)
  have hrv : V8 r0 r1 r2 r3 r4 r5 r6 r7 = V a0 a1 a2 a3 * V b0 b1 b2 b3 := by
    unfold Pl.V8
    rw [vl, vh]
    exact Nat.mod_add_div _ _
  refine ⟨r0, r1, r2, r3, r4, r5, r6, r7, ⟨hrl, hrh, hrv⟩, fun w => ?_⟩
  have HRL := Lib.hid hrl
  have HRH := Lib.hid hrh
  have HRV := Lib.hid hrv
  have HA := Lib.hid ha
  have HB := Lib.hid hb
  clear hlt vl vh hrl hrh hrv ha hb
  obtain ⟨x0, x1, x2, x3⟩ := index_num (.int .u64 b0) (.int .u64 b1) (.int .u64 b2) (.int .u64 b3)
  go_enter Try.func52, Try.ntmps52
  go_wp2
  go_loopg [13] 4 (fun kq v13 wr => ∃ i : Nat, ∃ o0 o1 o2 o3 o4 o5 o6 o7 : Nat, v13 = .int .i64 i ∧ Hid (i + kq = 4) ∧ Hid (PR a0 a1 a2 a3 b0 b1 b2 b3 i o0 o1 o2 o3 o4 o5 o6 o7) ∧ Hid (wr.heap[w.heap.size]? = some (.cells #[.int .u64 a0, .int .u64 a1, .int .u64 a2, .int .u64 a3] 26 (0, 0)) ∧ wr.heap[w.heap.size + 1 + 1]? = some (.cells #[.int .u64 0, .int .u64 0, .int .u64 0, .int .u64 0, .int .u64 0, .int .u64 0, .int .u64 0, .int .u64 0] 74 (0, 0)) ∧ wr.heap[w.heap.size + 1 + 1 + 1]? = some (.cells #[.int .u64 o0, .int .u64 o1, .int .u64 o2, .int .u64 o3, .int .u64 o4, .int .u64 o5, .int .u64 o6, .int .u64 o7] 74 (0, 0))) ∧ Hid (Below w.heap.size w wr))
  case atStart =>
    refine ⟨0, 0, 0, 0, 0, 0, 0, 0, 0, rfl, rfl, ?_, ⟨heap_old (heap_old (heap_old (heap_new _ _) _) _) _, heap_old (heap_new' (by simp) _) _, heap_new' (by simp) _⟩, ?_⟩
    · show PR _ _ _ _ _ _ _ _ _ _ _ _ _ _ _ _ _
      refine ⟨by unfold W4; omega, by unfold W4; omega, by rw [show lowW b0 b1 b2 b3 0 = 0 from rfl, Nat.mul_zero]; decide +kernel, fun _ => rfl, fun _ => rfl, fun _ => rfl, fun _ => rfl⟩
    · show Below _ _ _
      go_grown
  case round =>
    obtain ⟨i, o0, o1, o2, o3, o4, o5, o6, o7, rfl, HK, HP, HH, HW⟩ := hrel
    have hi : i = 0 ∨ i = 1 ∨ i = 2 ∨ i = 3 ∨ i = 4 := by have := HK.out; omega
    rcases hi with rfl | rfl | rfl | rfl | rfl
    · -- the round of word 0
      obtain rfl : o4 = 0 := HP.out.z4 (by omega)
      obtain rfl : o5 = 0 := HP.out.z5 (by omega)
      obtain rfl : o6 = 0 := HP.out.z6 (by omega)
      obtain rfl : o7 = 0 := HP.out.z7 (by omega)
      obtain ⟨q0, q1, q2, q3, v, ⟨hq, hv, tq⟩, T⟩ := times_fact a0 a1 a2 a3 b0 HA.out (HB.out.1)
      obtain ⟨s0, c0, e0, hc0, f0⟩ := adw_fact o0 q0 0 (HP.out.lo.1) hq.1 (by omega)
      obtain ⟨s1, c1, e1, hc1, f1⟩ := adw_fact o1 q1 c0 (HP.out.lo.2.1) hq.2.1 hc0
      obtain ⟨s2, c2, e2, hc2, f2⟩ := adw_fact o2 q2 c1 (HP.out.lo.2.2.1) hq.2.2.1 hc1
      obtain ⟨s3, c3, e3, hc3, f3⟩ := adw_fact o3 q3 c2 (HP.out.lo.2.2.2) hq.2.2.2 hc2
      have P := Pl.plus_spec (show W4 o0 o1 o2 o3 from ⟨HP.out.lo.1, HP.out.lo.2.1, HP.out.lo.2.2.1, HP.out.lo.2.2.2⟩) hq e0 e1 e2 e3
      obtain ⟨ht, U⟩ := Pl.row_top HA.out (HB.out.1) (show W4 o0 o1 o2 o3 from ⟨HP.out.lo.1, HP.out.lo.2.1, HP.out.lo.2.2.1, HP.out.lo.2.2.2⟩) tq P
      obtain ⟨t, hk⟩ : ∃ k, v + c3 = k := ⟨_, rfl⟩
      rw [hk] at ht U
      have g : IntKind.u64.wrap ((v : Int) + (c3 : Int)) = (t : Int) := by rw [IntKind.wrap_u64]; omega
      have hval := Pl.prod0 (b0 := b0) (b1 := b1) (b2 := b2) (b3 := b3) HP.out.val U
      have HN : Hid (PR a0 a1 a2 a3 b0 b1 b2 b3 1 s0 s1 s2 s3 t 0 0 0) := ⟨⟨P.1.1, P.1.2.1, P.1.2.2.1, P.1.2.2.2⟩, ⟨ht, HP.out.hi.2.1, HP.out.hi.2.2.1, HP.out.hi.2.2.2⟩, hval, fun h => by omega, fun _ => rfl, fun _ => rfl, fun _ => rfl⟩
      have M := Lib.hid T
      have HK' : Hid (1 + (gk - 1) = 4 ∧ 0 < gk) := by have h := HK.out; exact ⟨by omega, by omega⟩
      have cA := cells4 HH.out.1; have zA := lt_of_heap HH.out.1
      clear T HP hq hv tq P U hk ht hval e0 e1 e2 e3 hc0 hc1 hc2 hc3 HK HRL HRH HRV HA HB
      simp only [Int.natCast_zero] at f0 f1 f2 f3
      go_wp2_with (fail)
      go_at_call 63
      refine (M.out _).mono ?_
      rintro e w1 ⟨rfl, hb⟩
      have hA' := heap_keep' hb HH.out.1
      have hR' := heap_keep' hb HH.out.2.1
      have hO' := heap_keep' hb HH.out.2.2
      have HW1 : Hid (Below w.heap.size w w1) := below_call HW.out HW.out.size hb
      clear HW HH cA zA hb M
      have cO := cells8 hO'; have fO := frozen_of hO'; have zO := lt_of_heap hO'
      have HHA := Lib.hid hA'; have HHR := Lib.hid hR'; have HHO := Lib.hid hO'
      clear hA' hR' hO'
      go_wp2
      refine wp_loop_rounds 5 ?_
      rw [rounds_succ]
      go_wp2
      go_region
      go_wp2
      rw [rounds_succ]
      go_wp2
      go_region
      go_wp2
      rw [rounds_succ]
      go_wp2
      go_region
      go_wp2
      rw [rounds_succ]
      go_wp2
      go_region
      go_wp2
      rw [rounds_succ]
      go_wp2
      go_roundg (gk - 1)
      case measure => have := HK'.out; omega
      case rel =>
        refine ⟨1, s0, s1, s2, s3, t, 0, 0, 0, rfl, HK'.out.1, HN, ⟨?_, ?_, ?_⟩, ?_⟩
        · (repeat (with_reducible refine heap_drew ?_)); with_reducible refine heap_old ?_ _; (repeat (with_reducible refine heap_set_ne ?_ (by simp <;> omega) _)); exact HHA.out
        · (repeat (with_reducible refine heap_drew ?_)); with_reducible refine heap_old ?_ _; (repeat (with_reducible refine heap_set_ne ?_ (by simp <;> omega) _)); exact HHR.out
        · (repeat (with_reducible refine heap_drew ?_)); with_reducible refine heap_old ?_ _; with_reducible refine heap_five' HHO.out ?_; simp
        · show Below _ _ _
          have hz := HW1.out.size
          have hb : Below w.heap.size w w1 := HW1.out
          go_grown
    · -- the round of word 1
      obtain rfl : o5 = 0 := HP.out.z5 (by omega)
      obtain rfl : o6 = 0 := HP.out.z6 (by omega)
      obtain rfl : o7 = 0 := HP.out.z7 (by omega)
      obtain ⟨q0, q1, q2, q3, v, ⟨hq, hv, tq⟩, T⟩ := times_fact a0 a1 a2 a3 b1 HA.out (HB.out.2.1)
      obtain ⟨s0, c0, e0, hc0, f0⟩ := adw_fact o1 q0 0 (HP.out.lo.2.1) hq.1 (by omega)
      obtain ⟨s1, c1, e1, hc1, f1⟩ := adw_fact o2 q1 c0 (HP.out.lo.2.2.1) hq.2.1 hc0
      obtain ⟨s2, c2, e2, hc2, f2⟩ := adw_fact o3 q2 c1 (HP.out.lo.2.2.2) hq.2.2.1 hc1
      obtain ⟨s3, c3, e3, hc3, f3⟩ := adw_fact o4 q3 c2 (HP.out.hi.1) hq.2.2.2 hc2
      have P := Pl.plus_spec (show W4 o1 o2 o3 o4 from ⟨HP.out.lo.2.1, HP.out.lo.2.2.1, HP.out.lo.2.2.2, HP.out.hi.1⟩) hq e0 e1 e2 e3
      obtain ⟨ht, U⟩ := Pl.row_top HA.out (HB.out.2.1) (show W4 o1 o2 o3 o4 from ⟨HP.out.lo.2.1, HP.out.lo.2.2.1, HP.out.lo.2.2.2, HP.out.hi.1⟩) tq P
      obtain ⟨t, hk⟩ : ∃ k, v + c3 = k := ⟨_, rfl⟩
      rw [hk] at ht U
      have g : IntKind.u64.wrap ((v : Int) + (c3 : Int)) = (t : Int) := by rw [IntKind.wrap_u64]; omega
      have hval := Pl.prod1 (b0 := b0) (b1 := b1) (b2 := b2) (b3 := b3) HP.out.val U
      have HN : Hid (PR a0 a1 a2 a3 b0 b1 b2 b3 2 o0 s0 s1 s2 s3 t 0 0) := ⟨⟨HP.out.lo.1, P.1.1, P.1.2.1, P.1.2.2.1⟩, ⟨P.1.2.2.2, ht, HP.out.hi.2.2.1, HP.out.hi.2.2.2⟩, hval, fun h => by omega, fun h => by omega, fun _ => rfl, fun _ => rfl⟩
      have M := Lib.hid T
      have HK' : Hid (2 + (gk - 1) = 4 ∧ 0 < gk) := by have h := HK.out; exact ⟨by omega, by omega⟩
      have cA := cells4 HH.out.1; have zA := lt_of_heap HH.out.1
      clear T HP hq hv tq P U hk ht hval e0 e1 e2 e3 hc0 hc1 hc2 hc3 HK HRL HRH HRV HA HB
      simp only [Int.natCast_zero] at f0 f1 f2 f3
      go_wp2_with (fail)
      go_at_call 63
      refine (M.out _).mono ?_
      rintro e w1 ⟨rfl, hb⟩
      have hA' := heap_keep' hb HH.out.1
      have hR' := heap_keep' hb HH.out.2.1
      have hO' := heap_keep' hb HH.out.2.2
      have HW1 : Hid (Below w.heap.size w w1) := below_call HW.out HW.out.size hb
      clear HW HH cA zA hb M
      have cO := cells8 hO'; have fO := frozen_of hO'; have zO := lt_of_heap hO'
      have HHA := Lib.hid hA'; have HHR := Lib.hid hR'; have HHO := Lib.hid hO'
      clear hA' hR' hO'
      go_wp2
      refine wp_loop_rounds 5 ?_
      rw [rounds_succ]
      go_wp2
      go_region
      go_wp2
      rw [rounds_succ]
      go_wp2
      go_region
      go_wp2
      rw [rounds_succ]
      go_wp2
      go_region
      go_wp2
      rw [rounds_succ]
      go_wp2
      go_region
      go_wp2
      rw [rounds_succ]
      go_wp2
      go_roundg (gk - 1)
      case measure => have := HK'.out; omega
      case rel =>
        refine ⟨2, o0, s0, s1, s2, s3, t, 0, 0, rfl, HK'.out.1, HN, ⟨?_, ?_, ?_⟩, ?_⟩
        · (repeat (with_reducible refine heap_drew ?_)); with_reducible refine heap_old ?_ _; (repeat (with_reducible refine heap_set_ne ?_ (by simp <;> omega) _)); exact HHA.out
        · (repeat (with_reducible refine heap_drew ?_)); with_reducible refine heap_old ?_ _; (repeat (with_reducible refine heap_set_ne ?_ (by simp <;> omega) _)); exact HHR.out
        · (repeat (with_reducible refine heap_drew ?_)); with_reducible refine heap_old ?_ _; with_reducible refine heap_five' HHO.out ?_; simp
        · show Below _ _ _
          have hz := HW1.out.size
          have hb : Below w.heap.size w w1 := HW1.out
          go_grown
    · -- the round of word 2
      obtain rfl : o6 = 0 := HP.out.z6 (by omega)
      obtain rfl : o7 = 0 := HP.out.z7 (by omega)
      obtain ⟨q0, q1, q2, q3, v, ⟨hq, hv, tq⟩, T⟩ := times_fact a0 a1 a2 a3 b2 HA.out (HB.out.2.2.1)
      obtain ⟨s0, c0, e0, hc0, f0⟩ := adw_fact o2 q0 0 (HP.out.lo.2.2.1) hq.1 (by omega)
      obtain ⟨s1, c1, e1, hc1, f1⟩ := adw_fact o3 q1 c0 (HP.out.lo.2.2.2) hq.2.1 hc0
      obtain ⟨s2, c2, e2, hc2, f2⟩ := adw_fact o4 q2 c1 (HP.out.hi.1) hq.2.2.1 hc1
      obtain ⟨s3, c3, e3, hc3, f3⟩ := adw_fact o5 q3 c2 (HP.out.hi.2.1) hq.2.2.2 hc2
      have P := Pl.plus_spec (show W4 o2 o3 o4 o5 from ⟨HP.out.lo.2.2.1, HP.out.lo.2.2.2, HP.out.hi.1, HP.out.hi.2.1⟩) hq e0 e1 e2 e3
      obtain ⟨ht, U⟩ := Pl.row_top HA.out (HB.out.2.2.1) (show W4 o2 o3 o4 o5 from ⟨HP.out.lo.2.2.1, HP.out.lo.2.2.2, HP.out.hi.1, HP.out.hi.2.1⟩) tq P
      obtain ⟨t, hk⟩ : ∃ k, v + c3 = k := ⟨_, rfl⟩
      rw [hk] at ht U
      have g : IntKind.u64.wrap ((v : Int) + (c3 : Int)) = (t : Int) := by rw [IntKind.wrap_u64]; omega
      have hval := Pl.prod2 (b0 := b0) (b1 := b1) (b2 := b2) (b3 := b3) HP.out.val U
      have HN : Hid (PR a0 a1 a2 a3 b0 b1 b2 b3 3 o0 o1 s0 s1 s2 s3 t 0) := ⟨⟨HP.out.lo.1, HP.out.lo.2.1, P.1.1, P.1.2.1⟩, ⟨P.1.2.2.1, P.1.2.2.2, ht, HP.out.hi.2.2.2⟩, hval, fun h => by omega, fun h => by omega, fun h => by omega, fun _ => rfl⟩
      have M := Lib.hid T
      have HK' : Hid (3 + (gk - 1) = 4 ∧ 0 < gk) := by have h := HK.out; exact ⟨by omega, by omega⟩
      have cA := cells4 HH.out.1; have zA := lt_of_heap HH.out.1
      clear T HP hq hv tq P U hk ht hval e0 e1 e2 e3 hc0 hc1 hc2 hc3 HK HRL HRH HRV HA HB
      simp only [Int.natCast_zero] at f0 f1 f2 f3
      go_wp2_with (fail)
      go_at_call 63
      refine (M.out _).mono ?_
      rintro e w1 ⟨rfl, hb⟩
      have hA' := heap_keep' hb HH.out.1
      have hR' := heap_keep' hb HH.out.2.1
      have hO' := heap_keep' hb HH.out.2.2
      have HW1 : Hid (Below w.heap.size w w1) := below_call HW.out HW.out.size hb
      clear HW HH cA zA hb M
      have cO := cells8 hO'; have fO := frozen_of hO'; have zO := lt_of_heap hO'
      have HHA := Lib.hid hA'; have HHR := Lib.hid hR'; have HHO := Lib.hid hO'
      clear hA' hR' hO'
      go_wp2
      refine wp_loop_rounds 5 ?_
      rw [rounds_succ]
      go_wp2
      go_region
      go_wp2
      rw [rounds_succ]
      go_wp2
      go_region
      go_wp2
      rw [rounds_succ]
      go_wp2
      go_region
      go_wp2
      rw [rounds_succ]
      go_wp2
      go_region
      go_wp2
      rw [rounds_succ]
      go_wp2
      go_roundg (gk - 1)
      case measure => have := HK'.out; omega
      case rel =>
        refine ⟨3, o0, o1, s0, s1, s2, s3, t, 0, rfl, HK'.out.1, HN, ⟨?_, ?_, ?_⟩, ?_⟩
        · (repeat (with_reducible refine heap_drew ?_)); with_reducible refine heap_old ?_ _; (repeat (with_reducible refine heap_set_ne ?_ (by simp <;> omega) _)); exact HHA.out
        · (repeat (with_reducible refine heap_drew ?_)); with_reducible refine heap_old ?_ _; (repeat (with_reducible refine heap_set_ne ?_ (by simp <;> omega) _)); exact HHR.out
        · (repeat (with_reducible refine heap_drew ?_)); with_reducible refine heap_old ?_ _; with_reducible refine heap_five' HHO.out ?_; simp
        · show Below _ _ _
          have hz := HW1.out.size
          have hb : Below w.heap.size w w1 := HW1.out
          go_grown
    · -- the round of word 3
      obtain rfl : o7 = 0 := HP.out.z7 (by omega)
      obtain ⟨q0, q1, q2, q3, v, ⟨hq, hv, tq⟩, T⟩ := times_fact a0 a1 a2 a3 b3 HA.out (HB.out.2.2.2)
      obtain ⟨s0, c0, e0, hc0, f0⟩ := adw_fact o3 q0 0 (HP.out.lo.2.2.2) hq.1 (by omega)
      obtain ⟨s1, c1, e1, hc1, f1⟩ := adw_fact o4 q1 c0 (HP.out.hi.1) hq.2.1 hc0
      obtain ⟨s2, c2, e2, hc2, f2⟩ := adw_fact o5 q2 c1 (HP.out.hi.2.1) hq.2.2.1 hc1
      obtain ⟨s3, c3, e3, hc3, f3⟩ := adw_fact o6 q3 c2 (HP.out.hi.2.2.1) hq.2.2.2 hc2
      have P := Pl.plus_spec (show W4 o3 o4 o5 o6 from ⟨HP.out.lo.2.2.2, HP.out.hi.1, HP.out.hi.2.1, HP.out.hi.2.2.1⟩) hq e0 e1 e2 e3
      obtain ⟨ht, U⟩ := Pl.row_top HA.out (HB.out.2.2.2) (show W4 o3 o4 o5 o6 from ⟨HP.out.lo.2.2.2, HP.out.hi.1, HP.out.hi.2.1, HP.out.hi.2.2.1⟩) tq P
      obtain ⟨t, hk⟩ : ∃ k, v + c3 = k := ⟨_, rfl⟩
      rw [hk] at ht U
      have g : IntKind.u64.wrap ((v : Int) + (c3 : Int)) = (t : Int) := by rw [IntKind.wrap_u64]; omega
      have hval := Pl.prod3 (b0 := b0) (b1 := b1) (b2 := b2) (b3 := b3) HP.out.val U
      have HN : Hid (PR a0 a1 a2 a3 b0 b1 b2 b3 4 o0 o1 o2 s0 s1 s2 s3 t) := ⟨⟨HP.out.lo.1, HP.out.lo.2.1, HP.out.lo.2.2.1, P.1.1⟩, ⟨P.1.2.1, P.1.2.2.1, P.1.2.2.2, ht⟩, hval, fun h => by omega, fun h => by omega, fun h => by omega, fun h => by omega⟩
      have M := Lib.hid T
      have HK' : Hid (4 + (gk - 1) = 4 ∧ 0 < gk) := by have h := HK.out; exact ⟨by omega, by omega⟩
      have cA := cells4 HH.out.1; have zA := lt_of_heap HH.out.1
      clear T HP hq hv tq P U hk ht hval e0 e1 e2 e3 hc0 hc1 hc2 hc3 HK HRL HRH HRV HA HB
      simp only [Int.natCast_zero] at f0 f1 f2 f3
      go_wp2_with (fail)
      go_at_call 63
      refine (M.out _).mono ?_
      rintro e w1 ⟨rfl, hb⟩
      have hA' := heap_keep' hb HH.out.1
      have hR' := heap_keep' hb HH.out.2.1
      have hO' := heap_keep' hb HH.out.2.2
      have HW1 : Hid (Below w.heap.size w w1) := below_call HW.out HW.out.size hb
      clear HW HH cA zA hb M
      have cO := cells8 hO'; have fO := frozen_of hO'; have zO := lt_of_heap hO'
      have HHA := Lib.hid hA'; have HHR := Lib.hid hR'; have HHO := Lib.hid hO'
      clear hA' hR' hO'
      go_wp2
      refine wp_loop_rounds 5 ?_
      rw [rounds_succ]
      go_wp2
      go_region
      go_wp2
      rw [rounds_succ]
      go_wp2
      go_region
      go_wp2
      rw [rounds_succ]
      go_wp2
      go_region
      go_wp2
      rw [rounds_succ]
      go_wp2
      go_region
      go_wp2
      rw [rounds_succ]
      go_wp2
      go_roundg (gk - 1)
      case measure => have := HK'.out; omega
      case rel =>
        refine ⟨4, o0, o1, o2, s0, s1, s2, s3, t, rfl, HK'.out.1, HN, ⟨?_, ?_, ?_⟩, ?_⟩
        · (repeat (with_reducible refine heap_drew ?_)); with_reducible refine heap_old ?_ _; (repeat (with_reducible refine heap_set_ne ?_ (by simp <;> omega) _)); exact HHA.out
        · (repeat (with_reducible refine heap_drew ?_)); with_reducible refine heap_old ?_ _; (repeat (with_reducible refine heap_set_ne ?_ (by simp <;> omega) _)); exact HHR.out
        · (repeat (with_reducible refine heap_drew ?_)); with_reducible refine heap_old ?_ _; with_reducible refine heap_five' HHO.out ?_; simp
        · show Below _ _ _
          have hz := HW1.out.size
          have hb : Below w.heap.size w w1 := HW1.out
          go_grown
    · -- behind the rounds
      have HQ := HP.out
      have hv : V8 o0 o1 o2 o3 o4 o5 o6 o7 = V8 r0 r1 r2 r3 r4 r5 r6 r7 := by rw [HRV.out, HQ.val]; rfl
      have HE : Hid (o0 = r0 ∧ o1 = r1 ∧ o2 = r2 ∧ o3 = r3 ∧ o4 = r4 ∧ o5 = r5 ∧ o6 = r6 ∧ o7 = r7) := by
        have h1 := HQ.lo; have h2 := HQ.hi; have h3 := HRL.out; have h4 := HRH.out
        unfold Pl.W4 at h1 h2 h3 h4
        unfold Pl.V8 Pl.T256 at hv
        unfold Pl.V at hv
        refine ⟨?_, ?_, ?_, ?_, ?_, ?_, ?_, ?_⟩ <;> omega
      have cO := cells8 HH.out.2.2
      have cR := cells8 HH.out.2.1
      have fR := frozen_of HH.out.2.1
      have qR := cells8 (heap_eight HH.out.2.1 (.int .u64 o0) (.int .u64 o1) (.int .u64 o2) (.int .u64 o3) (.int .u64 o4) (.int .u64 o5) (.int .u64 o6) (.int .u64 o7))
      clear HQ hv HRL HRH HRV HA HB HP
      go_wp2
      obtain ⟨rfl, rfl, rfl, rfl, rfl, rfl, rfl, rfl⟩ := HE.out
      refine bodyPost_ret (v := .agg #[.int .u64 o0, .int .u64 o1, .int .u64 o2, .int .u64 o3, .int .u64 o4, .int .u64 o5, .int .u64 o6, .int .u64 o7]) (by simp [results, Try.results52, go_sem, qR]) rfl ⟨rfl, ?_⟩
      have hb : Below w.heap.size w wr := HW.out
      go_grown
end Go.Proofs.Ytgeldhdijochdaa
/- @@NUM 26 The walks of residue's folded and mul: a product modulo the prime. Conditions: words are below 2^64. -/
namespace Go.Proofs.Ytgeldhdijochdaa
set_option linter.unusedVariables false
set_option linter.unusedSimpArgs false
open Go Go.RowKit
open Pl (V V8 W4 T256 pP adl adc lowW)

theorem T256_mod : T256 % pP = 38 := by decide +kernel
theorem fold_mod {l0 l1 l2 l3 h0 h1 h2 h3 r0 r1 r2 r3 c ov k : Nat} {s0 s1 s2 s3 : Nat} (hr : V r0 r1 r2 r3 + T256 * ov = V h0 h1 h2 h3 * 38) (hs : V s0 s1 s2 s3 + T256 * c = V l0 l1 l2 l3 + V r0 r1 r2 r3) (hk : ov + c = k) :
    V8 s0 s1 s2 s3 k 0 0 0 = V l0 l1 l2 l3 + V h0 h1 h2 h3 * 38 ∧ V8 s0 s1 s2 s3 k 0 0 0 % pP = V8 l0 l1 l2 l3 h0 h1 h2 h3 % pP := by
  have e1 : V8 s0 s1 s2 s3 k 0 0 0 = V l0 l1 l2 l3 + V h0 h1 h2 h3 * 38 := by
    have : V k 0 0 0 = k := by unfold Pl.V; omega
    unfold Pl.V8
    rw [this, ← hk, Nat.mul_add]
    omega
  refine ⟨e1, ?_⟩
  rw [e1]
  unfold Pl.V8
  rw [Nat.add_mod, Nat.add_mod (V l0 l1 l2 l3) (T256 * _), Nat.mul_mod T256, T256_mod, Nat.mul_comm (V h0 h1 h2 h3) 38, Nat.mul_mod 38]
  have : 38 % pP = 38 := by decide +kernel
  rw [this]

theorem array_at (b o c : Nat) (w : World) : (Instr.arrayAt 26 (.slice (some ⟨b, o, none⟩) 4 c)).run Try.prog w = .ok (.pointer (some ⟨b, o, none⟩)) w := by kernel_rfl
attribute [local go_sem] array_at
set_option maxHeartbeats 4000000 in
theorem folded_fact (a0 a1 a2 a3 a4 a5 a6 a7 : Nat) (hal : W4 a0 a1 a2 a3) (hah : W4 a4 a5 a6 a7) : ∃ r0 r1 r2 r3 : Nat, (W4 r0 r1 r2 r3 ∧ V r0 r1 r2 r3 = V8 a0 a1 a2 a3 a4 a5 a6 a7 % pP) ∧ ∀ w : World,
    Calls Try.prog 60 #[.agg #[.int .u64 a0, .int .u64 a1, .int .u64 a2, .int .u64 a3, .int .u64 a4, .int .u64 a5, .int .u64 a6, .int .u64 a7]] w fun e w' => e = .returned (.agg #[.int .u64 r0, .int .u64 r1, .int .u64 r2, .int .u64 r3]) ∧ Below w.heap.size w w' := by
  have hpl : pP < T256 := by decide +kernel
  obtain ⟨r0, r1, r2, r3, hr, hv⟩ := Pl.words (V8 a0 a1 a2 a3 a4 a5 a6 a7 % pP) (Nat.lt_trans (Nat.mod_lt _ (by decide +kernel)) hpl)
  refine ⟨r0, r1, r2, r3, ⟨hr, hv⟩, fun w => ?_⟩
  have HR := Lib.hid hr
  have HV := Lib.hid hv
  have HAL := Lib.hid hal
  have HAH := Lib.hid hah
  clear hr hv hal hah hpl
  go_enter Try.func60, Try.ntmps60
  go_upto_region 1 with (fail)
  go_cut [3, 4] (fun v3 v4 wc => ∃ bl bh : Nat, v3 = .pointer (some ⟨bl, 0, none⟩) ∧ v4 = .pointer (some ⟨bh, 0, none⟩) ∧ Hid (bl ≠ bh ∧ bl ≠ w.heap.size + 1 ∧ bh ≠ w.heap.size + 1 ∧ w.heap.size ≤ bl ∧ w.heap.size ≤ bh) ∧ Hid (wc.heap[bl]? = some (.cells #[.int .u64 a0, .int .u64 a1, .int .u64 a2, .int .u64 a3] 26 (0, 0)) ∧ wc.heap[bh]? = some (.cells #[.int .u64 a4, .int .u64 a5, .int .u64 a6, .int .u64 a7] 26 (0, 0)) ∧ wc.heap[w.heap.size + 1]? = some (.cells #[.int .u64 0, .int .u64 0, .int .u64 0, .int .u64 0] 26 (0, 0))) ∧ Hid (Below w.heap.size w wc))
  case first =>
    go_region
    all_goals
      go_wp2
      go_meet
      case rel =>
        refine ⟨_, _, rfl, rfl, ?_, ⟨?_, ?_, ?_⟩, ?_⟩
        · refine ⟨?_, ?_, ?_, ?_, ?_⟩ <;> omega
        · repeat (first | (with_reducible refine heap_new' ?_ _; simp; done) | (with_reducible refine heap_old ?_ _) | (with_reducible refine heap_drew ?_))
        · repeat (first | (with_reducible refine heap_new' ?_ _; simp; done) | (with_reducible refine heap_old ?_ _) | (with_reducible refine heap_drew ?_))
        · repeat (first | (with_reducible refine heap_new' ?_ _; simp; done) | (with_reducible refine heap_old ?_ _) | (with_reducible refine heap_drew ?_))
        · show Below _ _ _
          go_grown
  case rest =>
    obtain ⟨bl, bh, rfl, rfl, HNE, HH, HB⟩ := hcut
    go_wp2
    go_loopg [] (V8 a0 a1 a2 a3 a4 a5 a6 a7) (fun kq wr => ∃ l0 l1 l2 l3 h0 h1 h2 h3 : Nat, Hid ((W4 l0 l1 l2 l3 ∧ W4 h0 h1 h2 h3) ∧ V8 l0 l1 l2 l3 h0 h1 h2 h3 % pP = V8 a0 a1 a2 a3 a4 a5 a6 a7 % pP ∧ V8 l0 l1 l2 l3 h0 h1 h2 h3 ≤ kq) ∧ Hid (wr.heap[bl]? = some (.cells #[.int .u64 l0, .int .u64 l1, .int .u64 l2, .int .u64 l3] 26 (0, 0)) ∧ wr.heap[bh]? = some (.cells #[.int .u64 h0, .int .u64 h1, .int .u64 h2, .int .u64 h3] 26 (0, 0)) ∧ wr.heap[w.heap.size + 1]? = some (.cells #[.int .u64 0, .int .u64 0, .int .u64 0, .int .u64 0] 26 (0, 0))) ∧ Hid (Below w.heap.size w wr))
    case atStart => exact ⟨a0, a1, a2, a3, a4, a5, a6, a7, ⟨⟨HAL.out, HAH.out⟩, rfl, Nat.le_refl _⟩, HH, HB⟩
    case round =>
      clear HH HB
      obtain ⟨l0, l1, l2, l3, h0, h1, h2, h3, HP, HH, HB⟩ := hrel
      obtain ⟨z, hz, FZ⟩ := zero_fact h0 h1 h2 h3
      have HZ := Lib.hid FZ
      clear FZ
      have cH := cells4 HH.out.2.1
      by_cases hzero : V h0 h1 h2 h3 = 0
      · have hzt : z = true := hz.2 hzero
        subst hzt
        obtain ⟨q0, q1, q2, q3, ⟨hq, hqv⟩, FS⟩ := small_fact l0 l1 l2 l3 HP.out.1.1
        have HS := Lib.hid FS
        have HE : Hid (q0 = r0 ∧ q1 = r1 ∧ q2 = r2 ∧ q3 = r3) := Pl.V_inj hq HR.out (by
          rw [hqv, HV.out, ← HP.out.2.1]
          unfold Pl.V8
          rw [hzero, Nat.mul_zero, Nat.add_zero])
        clear FS hq hqv hz hzero HP
        go_wp2_with (fail)
        go_at_call 28
        refine (HZ.out _).mono ?_
        rintro e w1 ⟨rfl, hb⟩
        have hL := heap_keep' hb HH.out.1
        have hR0 := heap_keep' hb HH.out.2.2
        have HB1 : Hid (Below w.heap.size w w1) := below_call HB.out HB.out.size hb
        clear HB HH cH hb
        have cL := cells4 hL
        have zR := lt_of_heap hR0
        have HR0 := Lib.hid hR0
        clear hL hR0
        go_wp2_with (fail)
        go_at_call 48
        refine (HS.out _).mono ?_
        rintro e w2 ⟨rfl, hb⟩
        have hR1 := heap_keep' hb HR0.out
        have cR := cells4 hR1
        have fR := frozen_of hR1
        have hQ := cells4 (set4 hR1 (.int .u64 q0) (.int .u64 q1) (.int .u64 q2) (.int .u64 q3))
        have HB2 : Below w.heap.size w w2 := below_call HB1.out HB1.out.size hb
        clear hb
        go_wp2
        obtain ⟨rfl, rfl, rfl, rfl⟩ := HE.out
        refine bodyPost_ret (v := .agg #[.int .u64 q0, .int .u64 q1, .int .u64 q2, .int .u64 q3]) (by simp [results, Try.results60, go_sem, hQ]) rfl ⟨rfl, ?_⟩
        go_grown
      · have hzt : z = false := by
          cases z with
          | false => rfl
          | true => exact absurd (hz.1 rfl) hzero
        subst hzt
        obtain ⟨m0, m1, m2, m3, ov, ⟨hm, hov, hmv⟩, FT⟩ := times_fact h0 h1 h2 h3 38 HP.out.1.2 (by omega)
        obtain ⟨s0, s1, s2, s3, c, ⟨hs, hc1, hsv⟩, FP⟩ := plus_fact l0 l1 l2 l3 m0 m1 m2 m3 HP.out.1.1 hm
        have hov2 : ov ≤ 38 := by
          have y1 := Pl.V_lt HP.out.1.2
          have y2 := Pl.V_lt hm
          unfold T256 at *
          omega
        obtain ⟨k, hk⟩ : ∃ k, ov + c = k := ⟨_, rfl⟩
        have hf := fold_mod hmv hsv hk
        have g : IntKind.u64.wrap ((ov : Int) + (c : Int)) = (k : Int) := by rw [IntKind.wrap_u64]; omega
        have HN : Hid ((W4 s0 s1 s2 s3 ∧ W4 k 0 0 0) ∧ V8 s0 s1 s2 s3 k 0 0 0 % pP = V8 a0 a1 a2 a3 a4 a5 a6 a7 % pP ∧ V8 s0 s1 s2 s3 k 0 0 0 < gk) := by
          refine ⟨⟨hs, by unfold W4; omega⟩, by rw [hf.2, HP.out.2.1], ?_⟩
          have y1 := HP.out.2.2
          rw [hf.1]
          have y2 : V h0 h1 h2 h3 * 38 < T256 * V h0 h1 h2 h3 := by rw [Nat.mul_comm]; exact Nat.mul_lt_mul_of_pos_right (by decide +kernel) (Nat.pos_of_ne_zero hzero)
          have y3 : V8 l0 l1 l2 l3 h0 h1 h2 h3 = V l0 l1 l2 l3 + T256 * V h0 h1 h2 h3 := rfl
          omega
        have HT := Lib.hid FT
        have HPL := Lib.hid FP
        have N1 := Lib.hid HNE.out
        have zl1 : bl ≠ bh := HNE.out.1
        clear FT FP hm hov hmv hs hc1 hsv hov2 hk hf hz hzero HP HR HV HAL HAH
        go_wp2_with (fail)
        go_at_call 28
        refine (HZ.out _).mono ?_
        rintro e w1 ⟨rfl, hb⟩
        have HL := Lib.hid (heap_keep' hb HH.out.1)
        have hH := heap_keep' hb HH.out.2.1
        have HR0 := Lib.hid (heap_keep' hb HH.out.2.2)
        have HB1 : Hid (Below w.heap.size w w1) := below_call HB.out HB.out.size hb
        clear HB HH cH hb
        have cH := cells4 hH
        have HHH := Lib.hid hH
        clear hH
        go_wp2_with (fail)
        go_at_call 63
        refine (HT.out _).mono ?_
        rintro e w2 ⟨rfl, hb⟩
        have hL := heap_keep' hb HL.out
        have HH2 := Lib.hid (heap_keep' hb HHH.out)
        have HR2 := Lib.hid (heap_keep' hb HR0.out)
        have HB2 : Hid (Below w.heap.size w w2) := below_call HB1.out HB1.out.size hb
        clear HB1 HHH HR0 HL cH hb
        have cL := cells4 hL
        have zL := lt_of_heap hL
        have HL2 := Lib.hid hL
        clear hL
        go_wp2_with (fail)
        go_at_call 53
        refine (HPL.out _).mono ?_
        rintro e w3 ⟨rfl, hb⟩
        have hL := heap_keep' hb (heap_old HL2.out _)
        have hH := heap_keep' hb (heap_old HH2.out _)
        have HR3 := Lib.hid (heap_keep' hb (heap_old HR2.out _))
        have HB3 : Hid (Below w.heap.size w w3) := below_call (HB2.out.alloc HB2.out.size _) (Nat.le_trans HB2.out.size (by simp)) hb
        clear HB2 HL2 HH2 HR2 cL zL hb
        have cL := cells4 hL
        have fL := frozen_of hL
        have zL := lt_of_heap hL
        have cH := cells4 hH
        have fH := frozen_of hH
        have zH := lt_of_heap hH
        have HL3 := Lib.hid hL
        have HH3 := Lib.hid hH
        clear hL hH
        go_wp2
        go_roundg (V8 s0 s1 s2 s3 k 0 0 0)
        case measure => exact HN.out.2.2
        case rel =>
          refine ⟨s0, s1, s2, s3, k, 0, 0, 0, ⟨HN.out.1, HN.out.2.1, Nat.le_refl _⟩, ⟨?_, ?_, ?_⟩, ?_⟩
          · exact heap_old (keep4 (set4 HL3.out _ _ _ _) HNE.out.1 _ _ _ _) _
          · exact heap_old (set4 (keep4 HH3.out (Ne.symm HNE.out.1) _ _ _ _) _ _ _ _) _
          · exact heap_old (keep4 (keep4 HR3.out (Ne.symm HNE.out.2.1) _ _ _ _) (Ne.symm HNE.out.2.2.1) _ _ _ _) _
          · exact (set4_below (set4_below HB3.out HNE.out.2.2.2.1 _ _ _ _) HNE.out.2.2.2.2 _ _ _ _).alloc (by rw [size4, size4]; exact HB3.out.size) _

set_option maxHeartbeats 1000000 in
theorem mul_fact (a0 a1 a2 a3 b0 b1 b2 b3 : Nat) (ha : W4 a0 a1 a2 a3) (hb : W4 b0 b1 b2 b3) : ∃ r0 r1 r2 r3 : Nat, (W4 r0 r1 r2 r3 ∧ V r0 r1 r2 r3 = V a0 a1 a2 a3 * V b0 b1 b2 b3 % pP) ∧ ∀ w : World,
    Calls Try.prog 46 #[.agg #[.int .u64 a0, .int .u64 a1, .int .u64 a2, .int .u64 a3], .agg #[.int .u64 b0, .int .u64 b1, .int .u64 b2, .int .u64 b3]] w fun e w' => e = .returned (.agg #[.int .u64 r0, .int .u64 r1, .int .u64 r2, .int .u64 r3]) ∧ Below w.heap.size w w' := by
  obtain ⟨x0, x1, x2, x3, x4, x5, x6, x7, ⟨hl, hh, hv⟩, FP⟩ := product_fact a0 a1 a2 a3 b0 b1 b2 b3 ha hb
  obtain ⟨r0, r1, r2, r3, ⟨hr, hrv⟩, FF⟩ := folded_fact x0 x1 x2 x3 x4 x5 x6 x7 hl hh
  refine ⟨r0, r1, r2, r3, ⟨hr, by rw [hrv, hv]⟩, fun w => ?_⟩
  have HP := Lib.hid FP
  have HF := Lib.hid FF
  clear FP FF hrv hr hv hl hh ha hb
  go_enter Try.func46, Try.ntmps46
  go_wp2_with (fail)
  go_at_call 52
  refine (HP.out _).mono ?_
  rintro e w1 ⟨rfl, hb⟩
  have hR : w1.heap[w.heap.size + 1 + 1]? = some (.cells #[.int .u64 0, .int .u64 0, .int .u64 0, .int .u64 0] 26 (0, 0)) := heap_keep' hb (by repeat (first | (with_reducible refine heap_new' ?_ _; simp; done) | (with_reducible assumption) | (with_reducible refine heap_old ?_ _) | (with_reducible refine heap_drew ?_) | (with_reducible refine heap_set_ne ?_ (by simp <;> omega) _))); have cR := cells4 hR; have fR := frozen_of hR; have zR := lt_of_heap hR
  have HB : Below w.heap.size w w1 := below_call (by go_grown) (by simp; omega) hb
  clear hb cR fR zR
  go_wp2_with (fail)
  go_at_call 60
  refine (HF.out _).mono ?_
  rintro e w2 ⟨rfl, hb⟩
  have hR2 := heap_keep' hb hR
  have hz := HB.size
  have HB2 : Below w.heap.size w w2 := below_call HB HB.size hb
  have cR := cells4 hR2
  have fR := frozen_of hR2
  clear hb hR
  have hQ := cells4 (set4 hR2 (.int .u64 r0) (.int .u64 r1) (.int .u64 r2) (.int .u64 r3))
  go_wp2
  refine bodyPost_ret (v := .agg #[.int .u64 r0, .int .u64 r1, .int .u64 r2, .int .u64 r3]) (by simp [results, Try.results46, go_sem, hQ]) rfl ⟨rfl, ?_⟩
  go_grown
end Go.Proofs.Ytgeldhdijochdaa
/- @@NUM 26 The walks of residue's Sub, Add and Mul (of one, two, three numbers, and of none). Conditions: words are below 2^64. -/
set_option maxRecDepth 100000
namespace Go.Proofs.Ytgeldhdijochdaa
set_option linter.unusedVariables false
set_option linter.unusedSimpArgs false
open Go Go.RowKit
open Pl (V V8 W4 T256 pP)

theorem pP_pos : 0 < pP := by decide +kernel
theorem cells12 {w : World} {b : Nat} {c0 c1 c2 c3 c4 c5 c6 c7 c8 c9 c10 c11 : Value} {t : TypeId} {mk : Nat × Nat} (h : w.heap[b]? = some (.cells #[c0, c1, c2, c3, c4, c5, c6, c7, c8, c9, c10, c11] t mk)) :
    w.cell? ⟨b, 0, none⟩ = some c0 ∧ w.cell? ⟨b, 1, none⟩ = some c1 ∧ w.cell? ⟨b, 2, none⟩ = some c2 ∧ w.cell? ⟨b, 3, none⟩ = some c3 ∧ w.cell? ⟨b, 4, none⟩ = some c4 ∧ w.cell? ⟨b, 5, none⟩ = some c5 ∧ w.cell? ⟨b, 6, none⟩ = some c6 ∧ w.cell? ⟨b, 7, none⟩ = some c7
    ∧ w.cell? ⟨b, 8, none⟩ = some c8 ∧ w.cell? ⟨b, 9, none⟩ = some c9 ∧ w.cell? ⟨b, 10, none⟩ = some c10 ∧ w.cell? ⟨b, 11, none⟩ = some c11 := by
  simp [World.cell?, h]

set_option maxHeartbeats 2000000 in
theorem Sub_fact (a0 a1 a2 a3 b0 b1 b2 b3 : Nat) (ha : W4 a0 a1 a2 a3) (hb : W4 b0 b1 b2 b3) : ∃ r0 r1 r2 r3 : Nat, (W4 r0 r1 r2 r3 ∧ V r0 r1 r2 r3 = (V a0 a1 a2 a3 % pP + (pP - V b0 b1 b2 b3 % pP)) % pP) ∧ ∀ w : World,
    Calls Try.prog 23 #[.agg #[.int .u64 a0, .int .u64 a1, .int .u64 a2, .int .u64 a3], .agg #[.int .u64 b0, .int .u64 b1, .int .u64 b2, .int .u64 b3]] w fun e w' => e = .returned (.agg #[.int .u64 r0, .int .u64 r1, .int .u64 r2, .int .u64 r3]) ∧ Below w.heap.size w w' := by
  obtain ⟨p0, p1, p2, p3, hp, FP⟩ := prime_fact
  obtain ⟨s0, s1, s2, s3, ⟨hs, hsv⟩, FS⟩ := small_fact b0 b1 b2 b3 hb
  obtain ⟨m0, m1, m2, m3, c, ⟨hm, hc, hmv⟩, FM⟩ := minus_fact p0 p1 p2 p3 s0 s1 s2 s3 hp.1 hs
  obtain ⟨x0, x1, x2, x3, ⟨hx, hxv⟩, FX⟩ := small_fact a0 a1 a2 a3 ha
  obtain ⟨y0, y1, y2, y3, ⟨hy, hyv⟩, FY⟩ := small_fact m0 m1 m2 m3 hm
  obtain ⟨r0, r1, r2, r3, ⟨hr, hrv⟩, FA⟩ := add_fact x0 x1 x2 x3 y0 y1 y2 y3 hx hy
  have hmm : V m0 m1 m2 m3 = pP - V b0 b1 b2 b3 % pP := by
    have h1 := Nat.mod_lt (V b0 b1 b2 b3) pP_pos
    have h2 := Pl.V_lt hm
    rw [hp.2, hsv] at hmv
    have h3 : pP < T256 := by decide +kernel
    rcases (show c = 0 ∨ c = 1 by omega) with rfl | rfl <;> omega
  refine ⟨r0, r1, r2, r3, ⟨hr, ?_⟩, fun w => ?_⟩
  · have h1 := Nat.mod_lt (V a0 a1 a2 a3) pP_pos
    have h2 := Nat.mod_lt (V m0 m1 m2 m3) pP_pos
    rw [hrv (by rw [hxv]; exact h1) (by rw [hyv]; exact h2), hxv, hyv, hmm, Nat.add_mod_mod]
  have HP := Lib.hid FP
  have HS := Lib.hid FS
  have HM := Lib.hid FM
  have HX := Lib.hid FX
  have HY := Lib.hid FY
  have HA := Lib.hid FA
  clear FP FS FM FX FY FA hmm hrv hr hyv hy hxv hx hmv hc hm hsv hs hp ha hb
  go_enter Try.func23, Try.ntmps23
  go_wp2
  refine Rg.region_ (n := 19) [0, 0, 3, 7, 15, 31, 31, 0, 191, 511] [1, 1, 1, 1, 0, 0, 0, 1, 2, 2] [8, 9, 10, 11, 7, 12, 13, 5, 0, 6] [[], [(3, none)], [(9, some 1)], [(8, some 0), (10, some 2)], [(11, some 3)], [(7, some 4)], [(7, some 4)], [], [(5, some 7), (12, some 5)], [(13, some 6)]] 8 (by kernel_rfl) (by kernel_rfl) (by rfl) ?_
  intro W hW
  have hA : W.heap[w.heap.size]? = some (.cells #[.int .u64 a0, .int .u64 a1, .int .u64 a2, .int .u64 a3] 26 (0, 0)) := by rw [hW]; exact heap_drew (heap_old (heap_old (heap_new _ _) _) _)
  have hB : W.heap[w.heap.size + 1]? = some (.cells #[.int .u64 b0, .int .u64 b1, .int .u64 b2, .int .u64 b3] 26 (0, 0)) := by rw [hW]; exact heap_drew (heap_old (heap_new' (by simp) _) _)
  have hR : W.heap[w.heap.size + 1 + 1]? = some (.cells #[.int .u64 0, .int .u64 0, .int .u64 0, .int .u64 0] 26 (0, 0)) := by rw [hW]; exact heap_drew (heap_new' (by simp) _)
  have HB0 : Below w.heap.size w W := by rw [hW]; go_grown
  have HZ : W.heap.size = w.heap.size + 1 + 1 + 1 := by rw [hW]; simp
  change Rg.Chain' _ _ _ _ _ [(0, 1, 8, []), (1, 1, 9, [(3, none)]), (2, 1, 10, [(9, some 1)]), (3, 1, 11, [(8, some 0), (10, some 2)]), (4, 0, 7, [(11, some 3)]), (5, 0, 12, [(7, some 4)]), (6, 0, 13, [(7, some 4)]), (7, 1, 5, [])] [(0, 1, 8, []), (1, 1, 9, [(3, none)]), (2, 1, 10, [(9, some 1)]), (3, 1, 11, [(8, some 0), (10, some 2)]), (4, 0, 7, [(11, some 3)]), (5, 0, 12, [(7, some 4)]), (6, 0, 13, [(7, some 4)]), (7, 1, 5, [])] _
  apply Rg.ch_def (by rfl) (fun a w1 _ => Rg.wanted_none (by rfl))
  · rintro a w1 hb -
    apply Rg.gives_enter
    · exact run_call Try.func41 (by kernel_rfl) rfl #[] (by rfl) (by simp)
    · refine (HP.out _).mono ?_
      rintro e w2 ⟨rfl, hb2⟩
      exact ⟨_, rfl, rfl, hb2⟩
  apply Rg.ch_def (by rfl) (fun a w1 _ => Rg.wanted_none (by rfl))
  · rintro a w1 hb ⟨e3, -⟩
    conv at e3 => rhs; whnf
    have n3 := e3
    simp only [Act.eval, Array.getD_eq_getD_getElem?] at n3
    apply Rg.gives_value
    · conv => lhs; simp [go_sem, n3, cells4 (heap_keep' hb hB)]
    · exact ⟨rfl, Below.refl _ _⟩
  apply Rg.ch_def (by rfl) (fun a w1 _ => Rg.wanted_none (by rfl))
  · rintro a w1 hb ⟨e9, -⟩
    replace e9 : a.eval (.tmp 9) = _ := e9
    apply Rg.gives_enter
    · apply run_call Try.func48 (by kernel_rfl) rfl _ (by rfl)
      conv => lhs; simp only [List.map_toArray, List.map_cons, List.map_nil, eval_const_, eval_global_, e9]
    · refine (HS.out _).mono ?_
      rintro e w2 ⟨rfl, hb2⟩
      exact ⟨_, rfl, rfl, hb2⟩
  apply Rg.ch_def (by rfl) (fun a w1 _ => Rg.wanted_none (by rfl))
  · rintro a w1 hb ⟨e8, e10, -⟩
    replace e8 : a.eval (.tmp 8) = _ := e8
    replace e10 : a.eval (.tmp 10) = _ := e10
    apply Rg.gives_enter
    · apply run_call Try.func47 (by kernel_rfl) rfl _ (by rfl)
      conv => lhs; simp only [List.map_toArray, List.map_cons, List.map_nil, eval_const_, eval_global_, e8, e10]
    · refine (HM.out _).mono ?_
      rintro e w2 ⟨rfl, hb2⟩
      exact ⟨_, rfl, rfl, hb2⟩
  apply Rg.ch_pure (by rfl)
  · rintro a w1 ⟨e11, -⟩
    replace e11 : a.eval (.tmp 11) = _ := e11
    have n11 := e11
    simp only [Act.eval, Array.getD_eq_getD_getElem?] at n11
    apply Rg.yields_run (Rg.wanted_none (by rfl))
    intro w2
    conv => lhs; simp [go_sem, n11]
  apply Rg.ch_pure (by rfl)
  · rintro a w1 ⟨e7, -⟩
    replace e7 : a.eval (.tmp 7) = _ := e7
    have n7 := e7
    simp only [Act.eval, Array.getD_eq_getD_getElem?] at n7
    apply Rg.yields_run (Rg.wanted_none (by rfl))
    intro w2
    conv => lhs; simp [go_sem, n7]
  apply Rg.ch_pure (by rfl)
  · rintro a w1 ⟨e7, -⟩
    replace e7 : a.eval (.tmp 7) = _ := e7
    have n7 := e7
    simp only [Act.eval, Array.getD_eq_getD_getElem?] at n7
    apply Rg.yields_run (Rg.wanted_none (by rfl))
    intro w2
    conv => lhs; simp [go_sem, n7]
  apply Rg.ch_rel (Rg.Box W.heap.size 26 _) (Rg.stable_box _ _ _) (by rfl) (fun a w1 _ => Rg.wanted_none (by rfl))
  · rintro a w1 hb -
    apply Rg.gives_value
    · conv => lhs; simp [go_sem]
    · exact ⟨⟨_, rfl, hb.size, heap_new _ _⟩, ((Below.refl _ _).alloc (Nat.le_refl _) _)⟩
  intro w1 hb1
  rintro _ rfl _ rfl _ rfl _ rfl _ rfl _ rfl _ rfl v5 ⟨b5, rfl, ge5, hh5⟩
  change Go.wpList _ _ _ _ _ _
  simp only [List.drop_succ_cons, List.drop_zero, List.drop_nil, Act.put, List.setIfInBounds_toArray, List.set_cons_succ, List.set_cons_zero]
  have HA1 := Lib.hid (heap_keep' hb1 hA)
  have HR1 := Lib.hid (heap_keep' hb1 hR)
  have HB1 : Hid (Below w.heap.size w w1) := below_call HB0 HB0.size hb1
  have HG : Hid (w.heap.size + 1 + 1 + 1 ≤ b5) := by rw [← HZ]; exact ge5
  have H5 := Lib.hid hh5
  have c5 := cells4 hh5
  have f5 := frozen_of hh5
  clear hA hB hR HB0 HZ hb1 hW ge5 hh5
  go_wp2
  refine NoPanic.normal ?_
  go_wp2
  clear c5 f5
  refine Rg.region_ (n := 19) [0, 1, 0, 7, 15, 31] [1, 1, 1, 1, 1, 2] [14, 15, 16, 17, 18, 0] [[(2, none)], [(14, some 0)], [(5, none)], [(16, some 2)], [(15, some 1), (17, some 3)], [(4, none), (18, some 4)]] 5 (by kernel_rfl) (by kernel_rfl) (by rfl) ?_
  intro W hW
  have hA : W.heap[w.heap.size]? = some (.cells #[.int .u64 a0, .int .u64 a1, .int .u64 a2, .int .u64 a3] 26 (0, 0)) := by rw [hW]; exact heap_drew (keep4 HA1.out (by have := HG.out; omega) _ _ _ _)
  have hR : W.heap[w.heap.size + 1 + 1]? = some (.cells #[.int .u64 0, .int .u64 0, .int .u64 0, .int .u64 0] 26 (0, 0)) := by rw [hW]; exact heap_drew (keep4 HR1.out (by have := HG.out; omega) _ _ _ _)
  have h5 : W.heap[b5]? = some (.cells #[.int .u64 m0, .int .u64 m1, .int .u64 m2, .int .u64 m3] 26 (0, 0)) := by rw [hW]; exact heap_drew (set4 H5.out _ _ _ _)
  have HB0 : Below w.heap.size w W := by rw [hW]; exact (set4_below HB1.out (by have := HG.out; omega) _ _ _ _).drew
  change Rg.Chain' _ _ _ _ _ [(0, 1, 14, [(2, none)]), (1, 1, 15, [(14, some 0)]), (2, 1, 16, [(5, none)]), (3, 1, 17, [(16, some 2)]), (4, 1, 18, [(15, some 1), (17, some 3)])] [(0, 1, 14, [(2, none)]), (1, 1, 15, [(14, some 0)]), (2, 1, 16, [(5, none)]), (3, 1, 17, [(16, some 2)]), (4, 1, 18, [(15, some 1), (17, some 3)])] _
  apply Rg.ch_def (by rfl) (fun a w1 _ => Rg.wanted_none (by rfl))
  · rintro a w1 hb ⟨e2, -⟩
    conv at e2 => rhs; whnf
    have n2 := e2
    simp only [Act.eval, Array.getD_eq_getD_getElem?] at n2
    apply Rg.gives_value
    · conv => lhs; simp [go_sem, n2, cells4 (heap_keep' hb hA), cells4 (heap_keep' hb h5)]
    · exact ⟨rfl, Below.refl _ _⟩
  apply Rg.ch_def (by rfl) (fun a w1 _ => Rg.wanted_none (by rfl))
  · rintro a w1 hb ⟨e14, -⟩
    replace e14 : a.eval (.tmp 14) = _ := e14
    apply Rg.gives_enter
    · apply run_call Try.func48 (by kernel_rfl) rfl _ (by rfl)
      conv => lhs; simp only [List.map_toArray, List.map_cons, List.map_nil, eval_const_, eval_global_, e14]
    · refine (HX.out _).mono ?_
      rintro e w2 ⟨rfl, hb2⟩
      exact ⟨_, rfl, rfl, hb2⟩
  apply Rg.ch_def (by rfl) (fun a w1 _ => Rg.wanted_none (by rfl))
  · rintro a w1 hb ⟨e5, -⟩
    conv at e5 => rhs; whnf
    have n5 := e5
    simp only [Act.eval, Array.getD_eq_getD_getElem?] at n5
    apply Rg.gives_value
    · conv => lhs; simp [go_sem, n5, cells4 (heap_keep' hb hA), cells4 (heap_keep' hb h5)]
    · exact ⟨rfl, Below.refl _ _⟩
  apply Rg.ch_def (by rfl) (fun a w1 _ => Rg.wanted_none (by rfl))
  · rintro a w1 hb ⟨e16, -⟩
    replace e16 : a.eval (.tmp 16) = _ := e16
    apply Rg.gives_enter
    · apply run_call Try.func48 (by kernel_rfl) rfl _ (by rfl)
      conv => lhs; simp only [List.map_toArray, List.map_cons, List.map_nil, eval_const_, eval_global_, e16]
    · refine (HY.out _).mono ?_
      rintro e w2 ⟨rfl, hb2⟩
      exact ⟨_, rfl, rfl, hb2⟩
  apply Rg.ch_def (by rfl) (fun a w1 _ => Rg.wanted_none (by rfl))
  · rintro a w1 hb ⟨e15, e17, -⟩
    replace e15 : a.eval (.tmp 15) = _ := e15
    replace e17 : a.eval (.tmp 17) = _ := e17
    apply Rg.gives_enter
    · apply run_call Try.func49 (by kernel_rfl) rfl _ (by rfl)
      conv => lhs; simp only [List.map_toArray, List.map_cons, List.map_nil, eval_const_, eval_global_, e15, e17]
    · refine (HA.out _).mono ?_
      rintro e w2 ⟨rfl, hb2⟩
      exact ⟨_, rfl, rfl, hb2⟩
  intro w1 hb1
  rintro _ rfl _ rfl _ rfl _ rfl _ rfl
  change Go.wpList _ _ _ _ _ _
  simp only [List.drop_succ_cons, List.drop_zero, List.drop_nil, Act.put, List.setIfInBounds_toArray, List.set_cons_succ, List.set_cons_zero]
  have hR1 := heap_keep' hb1 hR
  have cR := cells4 hR1
  have fR := frozen_of hR1
  have hQ := cells4 (set4 hR1 (.int .u64 r0) (.int .u64 r1) (.int .u64 r2) (.int .u64 r3))
  have HB2 : Below w.heap.size w w1 := below_call HB0 HB0.size hb1
  clear hA hR h5 HB0 hb1 hW
  go_wp2
  refine NoPanic.normal ?_
  go_wp2
  refine bodyPost_ret (v := .agg #[.int .u64 r0, .int .u64 r1, .int .u64 r2, .int .u64 r3]) (by simp [results, Try.results23, go_sem, hQ]) rfl ⟨rfl, ?_⟩
  go_grown

end Go.Proofs.Ytgeldhdijochdaa
/- @@NUM 26 The walks of residue's Add (of one, two, three numbers, and of none). Conditions: words are below 2^64. -/
set_option maxRecDepth 100000
namespace Go.Proofs.Ytgeldhdijochdaa
set_option linter.unusedVariables false
set_option linter.unusedSimpArgs false
open Go Go.RowKit
open Pl (V V8 W4 T256 pP)

set_option maxHeartbeats 1000000 in
theorem Add0_fact : ∃ r0 r1 r2 r3 : Nat, (W4 r0 r1 r2 r3 ∧ V r0 r1 r2 r3 = 0) ∧ ∀ w : World,
    Calls Try.prog 43 #[.slice none 0 0] w fun e w' => e = .returned (.agg #[.int .u64 r0, .int .u64 r1, .int .u64 r2, .int .u64 r3]) ∧ Below w.heap.size w w' := by
  refine ⟨0, 0, 0, 0, ⟨by unfold W4; omega, by decide⟩, fun w => ?_⟩
  go_enter Try.func43, Try.ntmps43
  go_wp2
  refine wp_loop_rounds 1 ?_
  rw [rounds_succ]
  go_wp2
  refine bodyPost_ret (v := .agg #[.int .u64 0, .int .u64 0, .int .u64 0, .int .u64 0]) (by simp [results, Try.results43, go_sem]) rfl ⟨rfl, ?_⟩
  go_grown


set_option maxHeartbeats 4000000 in
theorem Add1_fact (a0 a1 a2 a3 : Nat) (ha : W4 a0 a1 a2 a3) : ∃ r0 r1 r2 r3 : Nat, (W4 r0 r1 r2 r3 ∧ V r0 r1 r2 r3 = (V a0 a1 a2 a3) % pP) ∧ ∀ (b : Nat) (w : World), w.heap[b]? = some (.cells #[.int .u64 a0, .int .u64 a1, .int .u64 a2, .int .u64 a3] 26 (0, 0)) →
    Calls Try.prog 43 #[.slice (some ⟨b, 0, none⟩) 1 1] w fun e w' => e = .returned (.agg #[.int .u64 r0, .int .u64 r1, .int .u64 r2, .int .u64 r3]) ∧ Below w.heap.size w w' := by
  have hz : W4 0 0 0 0 := by unfold W4; omega
  have hzv : V 0 0 0 0 < pP := by decide +kernel
  obtain ⟨s00, s01, s02, s03, ⟨hs0, hsv0⟩, FS0⟩ := small_fact a0 a1 a2 a3 ha
  obtain ⟨o00, o01, o02, o03, ⟨ho0, hov0'⟩, FO0⟩ := add_fact 0 0 0 0 s00 s01 s02 s03 hz hs0
  have hov0 := hov0' hzv (by rw [hsv0]; exact Nat.mod_lt _ pP_pos)
  clear hov0'
  have hol0 : V o00 o01 o02 o03 < pP := by rw [hov0]; exact Nat.mod_lt _ pP_pos
  refine ⟨o00, o01, o02, o03, ⟨ho0, ?_⟩, fun b w hL0 => ?_⟩
  · rw [hov0, hsv0]
    simp only [Nat.mod_add_mod, Nat.add_mod_mod, Nat.mod_mod, show V 0 0 0 0 = 0 from by decide, Nat.zero_add]
  have HO0 := Lib.hid FO0
  have HS0 := Lib.hid FS0
  clear FO0 FS0 hsv0 hol0 hov0 ho0 hs0 hz hzv ha
  have HL := Lib.hid hL0
  have zl : b < w.heap.size := lt_of_heap hL0
  clear hL0
  go_enter Try.func43, Try.ntmps43
  have cL0 := cells4 HL.out
  go_wp2
  refine wp_loop_rounds 2 ?_
  rw [rounds_succ]
  go_wp2
  refine Rg.region_ (n := 18) [0, 0, 2, 7, 15] [1, 1, 1, 1, 2] [12, 13, 14, 15, 0] [[(3, none)], [(5, none)], [(13, some 1)], [(12, some 0), (14, some 2)], [(3, none), (15, some 3)]] 4 (by kernel_rfl) (by kernel_rfl) (by rfl) ?_
  intro W hW
  have hO : W.heap[w.heap.size + 1]? = some (.cells #[.int .u64 0, .int .u64 0, .int .u64 0, .int .u64 0] 26 (0, 0)) := by rw [hW]; exact heap_drew (heap_old (heap_new' (by simp) _) _)
  have hE : W.heap[w.heap.size + 1 + 1]? = some (.cells #[.int .u64 a0, .int .u64 a1, .int .u64 a2, .int .u64 a3] 26 (0, 0)) := by rw [hW]; exact heap_drew (heap_new' (by simp) _)
  have hR : W.heap[w.heap.size]? = some (.cells #[.int .u64 0, .int .u64 0, .int .u64 0, .int .u64 0] 26 (0, 0)) := by rw [hW]; exact heap_drew (heap_old (heap_old (heap_new _ _) _) _)
  have hL : W.heap[b]? = some (.cells #[.int .u64 a0, .int .u64 a1, .int .u64 a2, .int .u64 a3] 26 (0, 0)) := by rw [hW]; exact heap_drew (heap_old (heap_old (heap_old HL.out _) _) _)
  have HB0 : Below w.heap.size w W := by rw [hW]; go_grown
  change Rg.Chain' _ _ _ _ _ [(0, 1, 12, [(3, none)]), (1, 1, 13, [(5, none)]), (2, 1, 14, [(13, some 1)]), (3, 1, 15, [(12, some 0), (14, some 2)])] [(0, 1, 12, [(3, none)]), (1, 1, 13, [(5, none)]), (2, 1, 14, [(13, some 1)]), (3, 1, 15, [(12, some 0), (14, some 2)])] _
  apply Rg.ch_def (by rfl) (fun a w1 _ => Rg.wanted_none (by rfl))
  · rintro a w1 hb ⟨e3, -⟩
    conv at e3 => rhs; whnf
    have n3 := e3
    simp only [Act.eval, Array.getD_eq_getD_getElem?] at n3
    apply Rg.gives_value
    · conv => lhs; simp [go_sem, n3, cells4 (heap_keep' hb hO), cells4 (heap_keep' hb hE)]
    · exact ⟨rfl, Below.refl _ _⟩
  apply Rg.ch_def (by rfl) (fun a w1 _ => Rg.wanted_none (by rfl))
  · rintro a w1 hb ⟨e5, -⟩
    conv at e5 => rhs; whnf
    have n5 := e5
    simp only [Act.eval, Array.getD_eq_getD_getElem?] at n5
    apply Rg.gives_value
    · conv => lhs; simp [go_sem, n5, cells4 (heap_keep' hb hO), cells4 (heap_keep' hb hE)]
    · exact ⟨rfl, Below.refl _ _⟩
  apply Rg.ch_def (by rfl) (fun a w1 _ => Rg.wanted_none (by rfl))
  · rintro a w1 hb ⟨e13, -⟩
    replace e13 : a.eval (.tmp 13) = _ := e13
    apply Rg.gives_enter
    · apply run_call Try.func48 (by kernel_rfl) rfl _ (by rfl)
      conv => lhs; simp only [List.map_toArray, List.map_cons, List.map_nil, eval_const_, eval_global_, e13]
    · refine (HS0.out _).mono ?_
      rintro e w2 ⟨rfl, hb2⟩
      exact ⟨_, rfl, rfl, hb2⟩
  apply Rg.ch_def (by rfl) (fun a w1 _ => Rg.wanted_none (by rfl))
  · rintro a w1 hb ⟨e12, e14, -⟩
    replace e12 : a.eval (.tmp 12) = _ := e12
    replace e14 : a.eval (.tmp 14) = _ := e14
    apply Rg.gives_enter
    · apply run_call Try.func49 (by kernel_rfl) rfl _ (by rfl)
      conv => lhs; simp only [List.map_toArray, List.map_cons, List.map_nil, eval_const_, eval_global_, e12, e14]
    · refine (HO0.out _).mono ?_
      rintro e w2 ⟨rfl, hb2⟩
      exact ⟨_, rfl, rfl, hb2⟩
  intro w1 hb1
  rintro _ rfl _ rfl _ rfl _ rfl
  change Go.wpList _ _ _ _ _ _
  simp only [List.drop_succ_cons, List.drop_zero, List.drop_nil, Act.put, List.setIfInBounds_toArray, List.set_cons_succ, List.set_cons_zero]
  obtain ⟨wk1, rfl⟩ : ∃ x : World, x = w1 := ⟨_, rfl⟩
  have hO1 := heap_keep' hb1 hO; have cO := cells4 hO1; have fO := frozen_of hO1
  have HOc := Lib.hid hO1; have HRc := Lib.hid (heap_keep' hb1 hR); have HLc := Lib.hid (heap_keep' hb1 hL)
  have HBc : Hid (Below w.heap.size w wk1) := below_call HB0 HB0.size hb1
  clear cL0
  clear hO hE hR hL HB0 hb1 hW hO1
  go_wp2
  refine NoPanic.normal ?_
  clear cO fO
  have hQ := cells4 (set4 (keep4 (b' := w.heap.size + 1) HRc.out (by omega) (.int .u64 o00) (.int .u64 o01) (.int .u64 o02) (.int .u64 o03)) (.int .u64 o00) (.int .u64 o01) (.int .u64 o02) (.int .u64 o03))
  have cO := cells4 (set4 HOc.out (.int .u64 o00) (.int .u64 o01) (.int .u64 o02) (.int .u64 o03))
  have cR := cells4 HRc.out; have fR := frozen_of HRc.out
  go_wp2
  rw [rounds_succ]
  go_wp2
  refine bodyPost_ret (v := .agg #[.int .u64 o00, .int .u64 o01, .int .u64 o02, .int .u64 o03]) (by simp [results, Try.results43, go_sem, hQ]) rfl ⟨rfl, ?_⟩
  have hb : Below w.heap.size w _ := HBc.out
  go_grown

set_option maxHeartbeats 4000000 in
theorem Add2_fact (a0 a1 a2 a3 b0 b1 b2 b3 : Nat) (ha : W4 a0 a1 a2 a3) (hb : W4 b0 b1 b2 b3) : ∃ r0 r1 r2 r3 : Nat, (W4 r0 r1 r2 r3 ∧ V r0 r1 r2 r3 = (V a0 a1 a2 a3 + V b0 b1 b2 b3) % pP) ∧ ∀ (b : Nat) (w : World), w.heap[b]? = some (.cells #[.int .u64 a0, .int .u64 a1, .int .u64 a2, .int .u64 a3, .int .u64 b0, .int .u64 b1, .int .u64 b2, .int .u64 b3] 26 (0, 0)) →
    Calls Try.prog 43 #[.slice (some ⟨b, 0, none⟩) 2 2] w fun e w' => e = .returned (.agg #[.int .u64 r0, .int .u64 r1, .int .u64 r2, .int .u64 r3]) ∧ Below w.heap.size w w' := by
  have hz : W4 0 0 0 0 := by unfold W4; omega
  have hzv : V 0 0 0 0 < pP := by decide +kernel
  obtain ⟨s00, s01, s02, s03, ⟨hs0, hsv0⟩, FS0⟩ := small_fact a0 a1 a2 a3 ha
  obtain ⟨o00, o01, o02, o03, ⟨ho0, hov0'⟩, FO0⟩ := add_fact 0 0 0 0 s00 s01 s02 s03 hz hs0
  have hov0 := hov0' hzv (by rw [hsv0]; exact Nat.mod_lt _ pP_pos)
  clear hov0'
  have hol0 : V o00 o01 o02 o03 < pP := by rw [hov0]; exact Nat.mod_lt _ pP_pos
  obtain ⟨s10, s11, s12, s13, ⟨hs1, hsv1⟩, FS1⟩ := small_fact b0 b1 b2 b3 hb
  obtain ⟨o10, o11, o12, o13, ⟨ho1, hov1'⟩, FO1⟩ := add_fact o00 o01 o02 o03 s10 s11 s12 s13 ho0 hs1
  have hov1 := hov1' hol0 (by rw [hsv1]; exact Nat.mod_lt _ pP_pos)
  clear hov1'
  have hol1 : V o10 o11 o12 o13 < pP := by rw [hov1]; exact Nat.mod_lt _ pP_pos
  refine ⟨o10, o11, o12, o13, ⟨ho1, ?_⟩, fun b w hL0 => ?_⟩
  · rw [hov1, hsv1, hov0, hsv0]
    simp only [Nat.mod_add_mod, Nat.add_mod_mod, Nat.mod_mod, show V 0 0 0 0 = 0 from by decide, Nat.zero_add]
  have HO0 := Lib.hid FO0
  have HS0 := Lib.hid FS0
  have HO1 := Lib.hid FO1
  have HS1 := Lib.hid FS1
  clear FO0 FS0 hsv0 hol0 FO1 FS1 hsv1 hol1 hov1 ho1 hov0 ho0 hs1 hs0 hz hzv ha hb
  have HL := Lib.hid hL0
  have zl : b < w.heap.size := lt_of_heap hL0
  clear hL0
  go_enter Try.func43, Try.ntmps43
  have cL0 := cells8 HL.out
  go_wp2
  refine wp_loop_rounds 3 ?_
  rw [rounds_succ]
  go_wp2
  refine Rg.region_ (n := 18) [0, 0, 2, 7, 15] [1, 1, 1, 1, 2] [12, 13, 14, 15, 0] [[(3, none)], [(5, none)], [(13, some 1)], [(12, some 0), (14, some 2)], [(3, none), (15, some 3)]] 4 (by kernel_rfl) (by kernel_rfl) (by rfl) ?_
  intro W hW
  have hO : W.heap[w.heap.size + 1]? = some (.cells #[.int .u64 0, .int .u64 0, .int .u64 0, .int .u64 0] 26 (0, 0)) := by rw [hW]; exact heap_drew (heap_old (heap_new' (by simp) _) _)
  have hE : W.heap[w.heap.size + 1 + 1]? = some (.cells #[.int .u64 a0, .int .u64 a1, .int .u64 a2, .int .u64 a3] 26 (0, 0)) := by rw [hW]; exact heap_drew (heap_new' (by simp) _)
  have hR : W.heap[w.heap.size]? = some (.cells #[.int .u64 0, .int .u64 0, .int .u64 0, .int .u64 0] 26 (0, 0)) := by rw [hW]; exact heap_drew (heap_old (heap_old (heap_new _ _) _) _)
  have hL : W.heap[b]? = some (.cells #[.int .u64 a0, .int .u64 a1, .int .u64 a2, .int .u64 a3, .int .u64 b0, .int .u64 b1, .int .u64 b2, .int .u64 b3] 26 (0, 0)) := by rw [hW]; exact heap_drew (heap_old (heap_old (heap_old HL.out _) _) _)
  have HB0 : Below w.heap.size w W := by rw [hW]; go_grown
  change Rg.Chain' _ _ _ _ _ [(0, 1, 12, [(3, none)]), (1, 1, 13, [(5, none)]), (2, 1, 14, [(13, some 1)]), (3, 1, 15, [(12, some 0), (14, some 2)])] [(0, 1, 12, [(3, none)]), (1, 1, 13, [(5, none)]), (2, 1, 14, [(13, some 1)]), (3, 1, 15, [(12, some 0), (14, some 2)])] _
  apply Rg.ch_def (by rfl) (fun a w1 _ => Rg.wanted_none (by rfl))
  · rintro a w1 hb ⟨e3, -⟩
    conv at e3 => rhs; whnf
    have n3 := e3
    simp only [Act.eval, Array.getD_eq_getD_getElem?] at n3
    apply Rg.gives_value
    · conv => lhs; simp [go_sem, n3, cells4 (heap_keep' hb hO), cells4 (heap_keep' hb hE)]
    · exact ⟨rfl, Below.refl _ _⟩
  apply Rg.ch_def (by rfl) (fun a w1 _ => Rg.wanted_none (by rfl))
  · rintro a w1 hb ⟨e5, -⟩
    conv at e5 => rhs; whnf
    have n5 := e5
    simp only [Act.eval, Array.getD_eq_getD_getElem?] at n5
    apply Rg.gives_value
    · conv => lhs; simp [go_sem, n5, cells4 (heap_keep' hb hO), cells4 (heap_keep' hb hE)]
    · exact ⟨rfl, Below.refl _ _⟩
  apply Rg.ch_def (by rfl) (fun a w1 _ => Rg.wanted_none (by rfl))
  · rintro a w1 hb ⟨e13, -⟩
    replace e13 : a.eval (.tmp 13) = _ := e13
    apply Rg.gives_enter
    · apply run_call Try.func48 (by kernel_rfl) rfl _ (by rfl)
      conv => lhs; simp only [List.map_toArray, List.map_cons, List.map_nil, eval_const_, eval_global_, e13]
    · refine (HS0.out _).mono ?_
      rintro e w2 ⟨rfl, hb2⟩
      exact ⟨_, rfl, rfl, hb2⟩
  apply Rg.ch_def (by rfl) (fun a w1 _ => Rg.wanted_none (by rfl))
  · rintro a w1 hb ⟨e12, e14, -⟩
    replace e12 : a.eval (.tmp 12) = _ := e12
    replace e14 : a.eval (.tmp 14) = _ := e14
    apply Rg.gives_enter
    · apply run_call Try.func49 (by kernel_rfl) rfl _ (by rfl)
      conv => lhs; simp only [List.map_toArray, List.map_cons, List.map_nil, eval_const_, eval_global_, e12, e14]
    · refine (HO0.out _).mono ?_
      rintro e w2 ⟨rfl, hb2⟩
      exact ⟨_, rfl, rfl, hb2⟩
  intro w1 hb1
  rintro _ rfl _ rfl _ rfl _ rfl
  change Go.wpList _ _ _ _ _ _
  simp only [List.drop_succ_cons, List.drop_zero, List.drop_nil, Act.put, List.setIfInBounds_toArray, List.set_cons_succ, List.set_cons_zero]
  obtain ⟨wk1, rfl⟩ : ∃ x : World, x = w1 := ⟨_, rfl⟩
  have hO1 := heap_keep' hb1 hO; have cO := cells4 hO1; have fO := frozen_of hO1
  have HOc := Lib.hid hO1; have HRc := Lib.hid (heap_keep' hb1 hR); have HLc := Lib.hid (heap_keep' hb1 hL)
  have HBc : Hid (Below w.heap.size w wk1) := below_call HB0 HB0.size hb1
  clear cL0
  clear hO hE hR hL HB0 hb1 hW hO1
  go_wp2
  refine NoPanic.normal ?_
  clear cO fO
  have cL := cells8 HLc.out; have zL := lt_of_heap HLc.out
  go_wp2
  skip
  rw [rounds_succ]
  go_wp2
  refine Rg.region_ (n := 18) [0, 0, 2, 7, 15] [1, 1, 1, 1, 2] [12, 13, 14, 15, 0] [[(3, none)], [(5, none)], [(13, some 1)], [(12, some 0), (14, some 2)], [(3, none), (15, some 3)]] 4 (by kernel_rfl) (by kernel_rfl) (by rfl) ?_
  intro W hW
  have hO : W.heap[w.heap.size + 1]? = some (.cells #[.int .u64 o00, .int .u64 o01, .int .u64 o02, .int .u64 o03] 26 (0, 0)) := by rw [hW]; exact heap_drew (heap_old (set4 HOc.out _ _ _ _) _)
  have hE : W.heap[wk1.heap.size]? = some (.cells #[.int .u64 b0, .int .u64 b1, .int .u64 b2, .int .u64 b3] 26 (0, 0)) := by rw [hW]; exact heap_drew (heap_new' (by rw [size4]) _)
  have hR : W.heap[w.heap.size]? = some (.cells #[.int .u64 0, .int .u64 0, .int .u64 0, .int .u64 0] 26 (0, 0)) := by rw [hW]; exact heap_drew (heap_old (keep4 HRc.out (by omega) _ _ _ _) _)
  have hL : W.heap[b]? = some (.cells #[.int .u64 a0, .int .u64 a1, .int .u64 a2, .int .u64 a3, .int .u64 b0, .int .u64 b1, .int .u64 b2, .int .u64 b3] 26 (0, 0)) := by rw [hW]; exact heap_drew (heap_old (keep4 HLc.out (by omega) _ _ _ _) _)
  have HB0 : Below w.heap.size w W := by rw [hW]; exact (((set4_below HBc.out (by omega) _ _ _ _).alloc (by rw [size4]; exact HBc.out.size) _)).drew
  change Rg.Chain' _ _ _ _ _ [(0, 1, 12, [(3, none)]), (1, 1, 13, [(5, none)]), (2, 1, 14, [(13, some 1)]), (3, 1, 15, [(12, some 0), (14, some 2)])] [(0, 1, 12, [(3, none)]), (1, 1, 13, [(5, none)]), (2, 1, 14, [(13, some 1)]), (3, 1, 15, [(12, some 0), (14, some 2)])] _
  apply Rg.ch_def (by rfl) (fun a w1 _ => Rg.wanted_none (by rfl))
  · rintro a w1 hb ⟨e3, -⟩
    conv at e3 => rhs; whnf
    have n3 := e3
    simp only [Act.eval, Array.getD_eq_getD_getElem?] at n3
    apply Rg.gives_value
    · conv => lhs; simp [go_sem, n3, cells4 (heap_keep' hb hO), cells4 (heap_keep' hb hE)]
    · exact ⟨rfl, Below.refl _ _⟩
  apply Rg.ch_def (by rfl) (fun a w1 _ => Rg.wanted_none (by rfl))
  · rintro a w1 hb ⟨e5, -⟩
    conv at e5 => rhs; whnf
    have n5 := e5
    simp only [Act.eval, Array.getD_eq_getD_getElem?] at n5
    apply Rg.gives_value
    · conv => lhs; simp [go_sem, n5, cells4 (heap_keep' hb hO), cells4 (heap_keep' hb hE)]
    · exact ⟨rfl, Below.refl _ _⟩
  apply Rg.ch_def (by rfl) (fun a w1 _ => Rg.wanted_none (by rfl))
  · rintro a w1 hb ⟨e13, -⟩
    replace e13 : a.eval (.tmp 13) = _ := e13
    apply Rg.gives_enter
    · apply run_call Try.func48 (by kernel_rfl) rfl _ (by rfl)
      conv => lhs; simp only [List.map_toArray, List.map_cons, List.map_nil, eval_const_, eval_global_, e13]
    · refine (HS1.out _).mono ?_
      rintro e w2 ⟨rfl, hb2⟩
      exact ⟨_, rfl, rfl, hb2⟩
  apply Rg.ch_def (by rfl) (fun a w1 _ => Rg.wanted_none (by rfl))
  · rintro a w1 hb ⟨e12, e14, -⟩
    replace e12 : a.eval (.tmp 12) = _ := e12
    replace e14 : a.eval (.tmp 14) = _ := e14
    apply Rg.gives_enter
    · apply run_call Try.func49 (by kernel_rfl) rfl _ (by rfl)
      conv => lhs; simp only [List.map_toArray, List.map_cons, List.map_nil, eval_const_, eval_global_, e12, e14]
    · refine (HO1.out _).mono ?_
      rintro e w2 ⟨rfl, hb2⟩
      exact ⟨_, rfl, rfl, hb2⟩
  intro w1 hb1
  rintro _ rfl _ rfl _ rfl _ rfl
  change Go.wpList _ _ _ _ _ _
  simp only [List.drop_succ_cons, List.drop_zero, List.drop_nil, Act.put, List.setIfInBounds_toArray, List.set_cons_succ, List.set_cons_zero]
  obtain ⟨wk2, rfl⟩ : ∃ x : World, x = w1 := ⟨_, rfl⟩
  have hO1 := heap_keep' hb1 hO; have cO := cells4 hO1; have fO := frozen_of hO1
  clear HOc HRc HLc HBc
  have HOc := Lib.hid hO1; have HRc := Lib.hid (heap_keep' hb1 hR); have HLc := Lib.hid (heap_keep' hb1 hL)
  have HBc : Hid (Below w.heap.size w wk2) := below_call HB0 HB0.size hb1
  clear hO hE hR hL HB0 hb1 hW hO1
  go_wp2
  refine NoPanic.normal ?_
  clear cO fO
  have hQ := cells4 (set4 (keep4 (b' := w.heap.size + 1) HRc.out (by omega) (.int .u64 o10) (.int .u64 o11) (.int .u64 o12) (.int .u64 o13)) (.int .u64 o10) (.int .u64 o11) (.int .u64 o12) (.int .u64 o13))
  have cO := cells4 (set4 HOc.out (.int .u64 o10) (.int .u64 o11) (.int .u64 o12) (.int .u64 o13))
  have cR := cells4 HRc.out; have fR := frozen_of HRc.out
  go_wp2
  rw [rounds_succ]
  go_wp2
  refine bodyPost_ret (v := .agg #[.int .u64 o10, .int .u64 o11, .int .u64 o12, .int .u64 o13]) (by simp [results, Try.results43, go_sem, hQ]) rfl ⟨rfl, ?_⟩
  have hb : Below w.heap.size w _ := HBc.out
  go_grown

set_option maxHeartbeats 4000000 in
theorem Add3_fact (a0 a1 a2 a3 b0 b1 b2 b3 c0 c1 c2 c3 : Nat) (ha : W4 a0 a1 a2 a3) (hb : W4 b0 b1 b2 b3) (hc : W4 c0 c1 c2 c3) : ∃ r0 r1 r2 r3 : Nat, (W4 r0 r1 r2 r3 ∧ V r0 r1 r2 r3 = (V a0 a1 a2 a3 + V b0 b1 b2 b3 + V c0 c1 c2 c3) % pP) ∧ ∀ (b : Nat) (w : World), w.heap[b]? = some (.cells #[.int .u64 a0, .int .u64 a1, .int .u64 a2, .int .u64 a3, .int .u64 b0, .int .u64 b1, .int .u64 b2, .int .u64 b3, .int .u64 c0, .int .u64 c1, .int .u64 c2, .int .u64 c3] 26 (0, 0)) →
    Calls Try.prog 43 #[.slice (some ⟨b, 0, none⟩) 3 3] w fun e w' => e = .returned (.agg #[.int .u64 r0, .int .u64 r1, .int .u64 r2, .int .u64 r3]) ∧ Below w.heap.size w w' := by
  have hz : W4 0 0 0 0 := by unfold W4; omega
  have hzv : V 0 0 0 0 < pP := by decide +kernel
  obtain ⟨s00, s01, s02, s03, ⟨hs0, hsv0⟩, FS0⟩ := small_fact a0 a1 a2 a3 ha
  obtain ⟨o00, o01, o02, o03, ⟨ho0, hov0'⟩, FO0⟩ := add_fact 0 0 0 0 s00 s01 s02 s03 hz hs0
  have hov0 := hov0' hzv (by rw [hsv0]; exact Nat.mod_lt _ pP_pos)
  clear hov0'
  have hol0 : V o00 o01 o02 o03 < pP := by rw [hov0]; exact Nat.mod_lt _ pP_pos
  obtain ⟨s10, s11, s12, s13, ⟨hs1, hsv1⟩, FS1⟩ := small_fact b0 b1 b2 b3 hb
  obtain ⟨o10, o11, o12, o13, ⟨ho1, hov1'⟩, FO1⟩ := add_fact o00 o01 o02 o03 s10 s11 s12 s13 ho0 hs1
  have hov1 := hov1' hol0 (by rw [hsv1]; exact Nat.mod_lt _ pP_pos)
  clear hov1'
  have hol1 : V o10 o11 o12 o13 < pP := by rw [hov1]; exact Nat.mod_lt _ pP_pos
  obtain ⟨s20, s21, s22, s23, ⟨hs2, hsv2⟩, FS2⟩ := small_fact c0 c1 c2 c3 hc
  obtain ⟨o20, o21, o22, o23, ⟨ho2, hov2'⟩, FO2⟩ := add_fact o10 o11 o12 o13 s20 s21 s22 s23 ho1 hs2
  have hov2 := hov2' hol1 (by rw [hsv2]; exact Nat.mod_lt _ pP_pos)
  clear hov2'
  have hol2 : V o20 o21 o22 o23 < pP := by rw [hov2]; exact Nat.mod_lt _ pP_pos
  refine ⟨o20, o21, o22, o23, ⟨ho2, ?_⟩, fun b w hL0 => ?_⟩
  · rw [hov2, hsv2, hov1, hsv1, hov0, hsv0]
    simp only [Nat.mod_add_mod, Nat.add_mod_mod, Nat.mod_mod, show V 0 0 0 0 = 0 from by decide, Nat.zero_add]
  have HO0 := Lib.hid FO0
  have HS0 := Lib.hid FS0
  have HO1 := Lib.hid FO1
  have HS1 := Lib.hid FS1
  have HO2 := Lib.hid FO2
  have HS2 := Lib.hid FS2
  clear FO0 FS0 hsv0 hol0 FO1 FS1 hsv1 hol1 FO2 FS2 hsv2 hol2 hov2 ho2 hov1 ho1 hov0 ho0 hs2 hs1 hs0 hz hzv ha hb hc
  have HL := Lib.hid hL0
  have zl : b < w.heap.size := lt_of_heap hL0
  clear hL0
  go_enter Try.func43, Try.ntmps43
  have cL0 := cells12 HL.out
  go_wp2
  refine wp_loop_rounds 4 ?_
  rw [rounds_succ]
  go_wp2
  refine Rg.region_ (n := 18) [0, 0, 2, 7, 15] [1, 1, 1, 1, 2] [12, 13, 14, 15, 0] [[(3, none)], [(5, none)], [(13, some 1)], [(12, some 0), (14, some 2)], [(3, none), (15, some 3)]] 4 (by kernel_rfl) (by kernel_rfl) (by rfl) ?_
  intro W hW
  have hO : W.heap[w.heap.size + 1]? = some (.cells #[.int .u64 0, .int .u64 0, .int .u64 0, .int .u64 0] 26 (0, 0)) := by rw [hW]; exact heap_drew (heap_old (heap_new' (by simp) _) _)
  have hE : W.heap[w.heap.size + 1 + 1]? = some (.cells #[.int .u64 a0, .int .u64 a1, .int .u64 a2, .int .u64 a3] 26 (0, 0)) := by rw [hW]; exact heap_drew (heap_new' (by simp) _)
  have hR : W.heap[w.heap.size]? = some (.cells #[.int .u64 0, .int .u64 0, .int .u64 0, .int .u64 0] 26 (0, 0)) := by rw [hW]; exact heap_drew (heap_old (heap_old (heap_new _ _) _) _)
  have hL : W.heap[b]? = some (.cells #[.int .u64 a0, .int .u64 a1, .int .u64 a2, .int .u64 a3, .int .u64 b0, .int .u64 b1, .int .u64 b2, .int .u64 b3, .int .u64 c0, .int .u64 c1, .int .u64 c2, .int .u64 c3] 26 (0, 0)) := by rw [hW]; exact heap_drew (heap_old (heap_old (heap_old HL.out _) _) _)
  have HB0 : Below w.heap.size w W := by rw [hW]; go_grown
  change Rg.Chain' _ _ _ _ _ [(0, 1, 12, [(3, none)]), (1, 1, 13, [(5, none)]), (2, 1, 14, [(13, some 1)]), (3, 1, 15, [(12, some 0), (14, some 2)])] [(0, 1, 12, [(3, none)]), (1, 1, 13, [(5, none)]), (2, 1, 14, [(13, some 1)]), (3, 1, 15, [(12, some 0), (14, some 2)])] _
  apply Rg.ch_def (by rfl) (fun a w1 _ => Rg.wanted_none (by rfl))
  · rintro a w1 hb ⟨e3, -⟩
    conv at e3 => rhs; whnf
    have n3 := e3
    simp only [Act.eval, Array.getD_eq_getD_getElem?] at n3
    apply Rg.gives_value
    · conv => lhs; simp [go_sem, n3, cells4 (heap_keep' hb hO), cells4 (heap_keep' hb hE)]
    · exact ⟨rfl, Below.refl _ _⟩
  apply Rg.ch_def (by rfl) (fun a w1 _ => Rg.wanted_none (by rfl))
  · rintro a w1 hb ⟨e5, -⟩
    conv at e5 => rhs; whnf
    have n5 := e5
    simp only [Act.eval, Array.getD_eq_getD_getElem?] at n5
    apply Rg.gives_value
    · conv => lhs; simp [go_sem, n5, cells4 (heap_keep' hb hO), cells4 (heap_keep' hb hE)]
    · exact ⟨rfl, Below.refl _ _⟩
  apply Rg.ch_def (by rfl) (fun a w1 _ => Rg.wanted_none (by rfl))
  · rintro a w1 hb ⟨e13, -⟩
    replace e13 : a.eval (.tmp 13) = _ := e13
    apply Rg.gives_enter
    · apply run_call Try.func48 (by kernel_rfl) rfl _ (by rfl)
      conv => lhs; simp only [List.map_toArray, List.map_cons, List.map_nil, eval_const_, eval_global_, e13]
    · refine (HS0.out _).mono ?_
      rintro e w2 ⟨rfl, hb2⟩
      exact ⟨_, rfl, rfl, hb2⟩
  apply Rg.ch_def (by rfl) (fun a w1 _ => Rg.wanted_none (by rfl))
  · rintro a w1 hb ⟨e12, e14, -⟩
    replace e12 : a.eval (.tmp 12) = _ := e12
    replace e14 : a.eval (.tmp 14) = _ := e14
    apply Rg.gives_enter
    · apply run_call Try.func49 (by kernel_rfl) rfl _ (by rfl)
      conv => lhs; simp only [List.map_toArray, List.map_cons, List.map_nil, eval_const_, eval_global_, e12, e14]
    · refine (HO0.out _).mono ?_
      rintro e w2 ⟨rfl, hb2⟩
      exact ⟨_, rfl, rfl, hb2⟩
  intro w1 hb1
  rintro _ rfl _ rfl _ rfl _ rfl
  change Go.wpList _ _ _ _ _ _
  simp only [List.drop_succ_cons, List.drop_zero, List.drop_nil, Act.put, List.setIfInBounds_toArray, List.set_cons_succ, List.set_cons_zero]
  obtain ⟨wk1, rfl⟩ : ∃ x : World, x = w1 := ⟨_, rfl⟩
  have hO1 := heap_keep' hb1 hO; have cO := cells4 hO1; have fO := frozen_of hO1
  have HOc := Lib.hid hO1; have HRc := Lib.hid (heap_keep' hb1 hR); have HLc := Lib.hid (heap_keep' hb1 hL)
  have HBc : Hid (Below w.heap.size w wk1) := below_call HB0 HB0.size hb1
  clear cL0
  clear hO hE hR hL HB0 hb1 hW hO1
  go_wp2
  refine NoPanic.normal ?_
  clear cO fO
  have cL := cells12 HLc.out; have zL := lt_of_heap HLc.out
  go_wp2
  skip
  rw [rounds_succ]
  go_wp2
  refine Rg.region_ (n := 18) [0, 0, 2, 7, 15] [1, 1, 1, 1, 2] [12, 13, 14, 15, 0] [[(3, none)], [(5, none)], [(13, some 1)], [(12, some 0), (14, some 2)], [(3, none), (15, some 3)]] 4 (by kernel_rfl) (by kernel_rfl) (by rfl) ?_
  intro W hW
  have hO : W.heap[w.heap.size + 1]? = some (.cells #[.int .u64 o00, .int .u64 o01, .int .u64 o02, .int .u64 o03] 26 (0, 0)) := by rw [hW]; exact heap_drew (heap_old (set4 HOc.out _ _ _ _) _)
  have hE : W.heap[wk1.heap.size]? = some (.cells #[.int .u64 b0, .int .u64 b1, .int .u64 b2, .int .u64 b3] 26 (0, 0)) := by rw [hW]; exact heap_drew (heap_new' (by rw [size4]) _)
  have hR : W.heap[w.heap.size]? = some (.cells #[.int .u64 0, .int .u64 0, .int .u64 0, .int .u64 0] 26 (0, 0)) := by rw [hW]; exact heap_drew (heap_old (keep4 HRc.out (by omega) _ _ _ _) _)
  have hL : W.heap[b]? = some (.cells #[.int .u64 a0, .int .u64 a1, .int .u64 a2, .int .u64 a3, .int .u64 b0, .int .u64 b1, .int .u64 b2, .int .u64 b3, .int .u64 c0, .int .u64 c1, .int .u64 c2, .int .u64 c3] 26 (0, 0)) := by rw [hW]; exact heap_drew (heap_old (keep4 HLc.out (by omega) _ _ _ _) _)
  have HB0 : Below w.heap.size w W := by rw [hW]; exact (((set4_below HBc.out (by omega) _ _ _ _).alloc (by rw [size4]; exact HBc.out.size) _)).drew
  change Rg.Chain' _ _ _ _ _ [(0, 1, 12, [(3, none)]), (1, 1, 13, [(5, none)]), (2, 1, 14, [(13, some 1)]), (3, 1, 15, [(12, some 0), (14, some 2)])] [(0, 1, 12, [(3, none)]), (1, 1, 13, [(5, none)]), (2, 1, 14, [(13, some 1)]), (3, 1, 15, [(12, some 0), (14, some 2)])] _
  apply Rg.ch_def (by rfl) (fun a w1 _ => Rg.wanted_none (by rfl))
  · rintro a w1 hb ⟨e3, -⟩
    conv at e3 => rhs; whnf
    have n3 := e3
    simp only [Act.eval, Array.getD_eq_getD_getElem?] at n3
    apply Rg.gives_value
    · conv => lhs; simp [go_sem, n3, cells4 (heap_keep' hb hO), cells4 (heap_keep' hb hE)]
    · exact ⟨rfl, Below.refl _ _⟩
  apply Rg.ch_def (by rfl) (fun a w1 _ => Rg.wanted_none (by rfl))
  · rintro a w1 hb ⟨e5, -⟩
    conv at e5 => rhs; whnf
    have n5 := e5
    simp only [Act.eval, Array.getD_eq_getD_getElem?] at n5
    apply Rg.gives_value
    · conv => lhs; simp [go_sem, n5, cells4 (heap_keep' hb hO), cells4 (heap_keep' hb hE)]
    · exact ⟨rfl, Below.refl _ _⟩
  apply Rg.ch_def (by rfl) (fun a w1 _ => Rg.wanted_none (by rfl))
  · rintro a w1 hb ⟨e13, -⟩
    replace e13 : a.eval (.tmp 13) = _ := e13
    apply Rg.gives_enter
    · apply run_call Try.func48 (by kernel_rfl) rfl _ (by rfl)
      conv => lhs; simp only [List.map_toArray, List.map_cons, List.map_nil, eval_const_, eval_global_, e13]
    · refine (HS1.out _).mono ?_
      rintro e w2 ⟨rfl, hb2⟩
      exact ⟨_, rfl, rfl, hb2⟩
  apply Rg.ch_def (by rfl) (fun a w1 _ => Rg.wanted_none (by rfl))
  · rintro a w1 hb ⟨e12, e14, -⟩
    replace e12 : a.eval (.tmp 12) = _ := e12
    replace e14 : a.eval (.tmp 14) = _ := e14
    apply Rg.gives_enter
    · apply run_call Try.func49 (by kernel_rfl) rfl _ (by rfl)
      conv => lhs; simp only [List.map_toArray, List.map_cons, List.map_nil, eval_const_, eval_global_, e12, e14]
    · refine (HO1.out _).mono ?_
      rintro e w2 ⟨rfl, hb2⟩
      exact ⟨_, rfl, rfl, hb2⟩
  intro w1 hb1
  rintro _ rfl _ rfl _ rfl _ rfl
  change Go.wpList _ _ _ _ _ _
  simp only [List.drop_succ_cons, List.drop_zero, List.drop_nil, Act.put, List.setIfInBounds_toArray, List.set_cons_succ, List.set_cons_zero]
  obtain ⟨wk2, rfl⟩ : ∃ x : World, x = w1 := ⟨_, rfl⟩
  have hO1 := heap_keep' hb1 hO; have cO := cells4 hO1; have fO := frozen_of hO1
  clear HOc HRc HLc HBc
  have HOc := Lib.hid hO1; have HRc := Lib.hid (heap_keep' hb1 hR); have HLc := Lib.hid (heap_keep' hb1 hL)
  have HBc : Hid (Below w.heap.size w wk2) := below_call HB0 HB0.size hb1
  clear hO hE hR hL HB0 hb1 hW hO1
  go_wp2
  refine NoPanic.normal ?_
  clear cO fO
  have cL := cells12 HLc.out; have zL := lt_of_heap HLc.out
  go_wp2
  skip
  rw [rounds_succ]
  go_wp2
  refine Rg.region_ (n := 18) [0, 0, 2, 7, 15] [1, 1, 1, 1, 2] [12, 13, 14, 15, 0] [[(3, none)], [(5, none)], [(13, some 1)], [(12, some 0), (14, some 2)], [(3, none), (15, some 3)]] 4 (by kernel_rfl) (by kernel_rfl) (by rfl) ?_
  intro W hW
  have hO : W.heap[w.heap.size + 1]? = some (.cells #[.int .u64 o10, .int .u64 o11, .int .u64 o12, .int .u64 o13] 26 (0, 0)) := by rw [hW]; exact heap_drew (heap_old (set4 HOc.out _ _ _ _) _)
  have hE : W.heap[wk2.heap.size]? = some (.cells #[.int .u64 c0, .int .u64 c1, .int .u64 c2, .int .u64 c3] 26 (0, 0)) := by rw [hW]; exact heap_drew (heap_new' (by rw [size4]) _)
  have hR : W.heap[w.heap.size]? = some (.cells #[.int .u64 0, .int .u64 0, .int .u64 0, .int .u64 0] 26 (0, 0)) := by rw [hW]; exact heap_drew (heap_old (keep4 HRc.out (by omega) _ _ _ _) _)
  have hL : W.heap[b]? = some (.cells #[.int .u64 a0, .int .u64 a1, .int .u64 a2, .int .u64 a3, .int .u64 b0, .int .u64 b1, .int .u64 b2, .int .u64 b3, .int .u64 c0, .int .u64 c1, .int .u64 c2, .int .u64 c3] 26 (0, 0)) := by rw [hW]; exact heap_drew (heap_old (keep4 HLc.out (by omega) _ _ _ _) _)
  have HB0 : Below w.heap.size w W := by rw [hW]; exact (((set4_below HBc.out (by omega) _ _ _ _).alloc (by rw [size4]; exact HBc.out.size) _)).drew
  change Rg.Chain' _ _ _ _ _ [(0, 1, 12, [(3, none)]), (1, 1, 13, [(5, none)]), (2, 1, 14, [(13, some 1)]), (3, 1, 15, [(12, some 0), (14, some 2)])] [(0, 1, 12, [(3, none)]), (1, 1, 13, [(5, none)]), (2, 1, 14, [(13, some 1)]), (3, 1, 15, [(12, some 0), (14, some 2)])] _
  apply Rg.ch_def (by rfl) (fun a w1 _ => Rg.wanted_none (by rfl))
  · rintro a w1 hb ⟨e3, -⟩
    conv at e3 => rhs; whnf
    have n3 := e3
    simp only [Act.eval, Array.getD_eq_getD_getElem?] at n3
    apply Rg.gives_value
    · conv => lhs; simp [go_sem, n3, cells4 (heap_keep' hb hO), cells4 (heap_keep' hb hE)]
    · exact ⟨rfl, Below.refl _ _⟩
  apply Rg.ch_def (by rfl) (fun a w1 _ => Rg.wanted_none (by rfl))
  · rintro a w1 hb ⟨e5, -⟩
    conv at e5 => rhs; whnf
    have n5 := e5
    simp only [Act.eval, Array.getD_eq_getD_getElem?] at n5
    apply Rg.gives_value
    · conv => lhs; simp [go_sem, n5, cells4 (heap_keep' hb hO), cells4 (heap_keep' hb hE)]
    · exact ⟨rfl, Below.refl _ _⟩
  apply Rg.ch_def (by rfl) (fun a w1 _ => Rg.wanted_none (by rfl))
  · rintro a w1 hb ⟨e13, -⟩
    replace e13 : a.eval (.tmp 13) = _ := e13
    apply Rg.gives_enter
    · apply run_call Try.func48 (by kernel_rfl) rfl _ (by rfl)
      conv => lhs; simp only [List.map_toArray, List.map_cons, List.map_nil, eval_const_, eval_global_, e13]
    · refine (HS2.out _).mono ?_
      rintro e w2 ⟨rfl, hb2⟩
      exact ⟨_, rfl, rfl, hb2⟩
  apply Rg.ch_def (by rfl) (fun a w1 _ => Rg.wanted_none (by rfl))
  · rintro a w1 hb ⟨e12, e14, -⟩
    replace e12 : a.eval (.tmp 12) = _ := e12
    replace e14 : a.eval (.tmp 14) = _ := e14
    apply Rg.gives_enter
    · apply run_call Try.func49 (by kernel_rfl) rfl _ (by rfl)
      conv => lhs; simp only [List.map_toArray, List.map_cons, List.map_nil, eval_const_, eval_global_, e12, e14]
    · refine (HO2.out _).mono ?_
      rintro e w2 ⟨rfl, hb2⟩
      exact ⟨_, rfl, rfl, hb2⟩
  intro w1 hb1
  rintro _ rfl _ rfl _ rfl _ rfl
  change Go.wpList _ _ _ _ _ _
  simp only [List.drop_succ_cons, List.drop_zero, List.drop_nil, Act.put, List.setIfInBounds_toArray, List.set_cons_succ, List.set_cons_zero]
  obtain ⟨wk3, rfl⟩ : ∃ x : World, x = w1 := ⟨_, rfl⟩
  have hO1 := heap_keep' hb1 hO; have cO := cells4 hO1; have fO := frozen_of hO1
  clear HOc HRc HLc HBc
  have HOc := Lib.hid hO1; have HRc := Lib.hid (heap_keep' hb1 hR); have HLc := Lib.hid (heap_keep' hb1 hL)
  have HBc : Hid (Below w.heap.size w wk3) := below_call HB0 HB0.size hb1
  clear hO hE hR hL HB0 hb1 hW hO1
  go_wp2
  refine NoPanic.normal ?_
  clear cO fO
  have hQ := cells4 (set4 (keep4 (b' := w.heap.size + 1) HRc.out (by omega) (.int .u64 o20) (.int .u64 o21) (.int .u64 o22) (.int .u64 o23)) (.int .u64 o20) (.int .u64 o21) (.int .u64 o22) (.int .u64 o23))
  have cO := cells4 (set4 HOc.out (.int .u64 o20) (.int .u64 o21) (.int .u64 o22) (.int .u64 o23))
  have cR := cells4 HRc.out; have fR := frozen_of HRc.out
  go_wp2
  rw [rounds_succ]
  go_wp2
  refine bodyPost_ret (v := .agg #[.int .u64 o20, .int .u64 o21, .int .u64 o22, .int .u64 o23]) (by simp [results, Try.results43, go_sem, hQ]) rfl ⟨rfl, ?_⟩
  have hb : Below w.heap.size w _ := HBc.out
  go_grown
end Go.Proofs.Ytgeldhdijochdaa
