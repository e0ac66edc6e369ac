/- @@NUM 25 The walks of residue's first functions: the prime, differences, sums, the lesser one, the small one. Conditions: words are below 2^64. -/
import Derived.Test.YtldnjbpcdojffaaProg
import Derived.Test.YtldnjbpcdojffaaAid
import Derived.Test.YtldnjbpcdojffaaV
import Derived.Test.YtldnjbpcdojffaaField
import Derived.RegionTactic
import Derived.BigRegion
import Derived.Shelf.Spec.BitsCarry
namespace Go.Proofs.Ytldnjbpcdojffaa
set_option linter.unusedVariables false
set_option linter.unusedSimpArgs false
open Go Go.RowKit
open Pl (V W4 T256 pP sbl sbb adl adc)

theorem x_sub64 (x y b : Nat) (hb : b ≤ 1) (w : World) :
    (callFunc 55 #[.int .u64 x, .int .u64 y, .int .u64 b]).run Try.prog w = .ok (.value (.tuple #[.int .u64 (sbl x y b), .int .u64 (sbb x y b)])) w := by
  rw [run_callFunc_extern Try.func55 (by kernel_rfl) (by kernel_rfl) (by kernel_rfl) (e := sub64Entry) (by kernel_rfl), run_sub64 x y b hb]
  rfl
theorem sub_fact (x y b : Nat) (hb : b ≤ 1) : ∃ r c : Nat, (sbl x y b = r ∧ sbb x y b = c) ∧ c ≤ 1 ∧ ∀ w : World, (callFunc 55 #[.int .u64 x, .int .u64 y, .int .u64 b]).run Try.prog w = .ok (.value (.tuple #[.int .u64 r, .int .u64 c])) w := ⟨_, _, ⟨rfl, rfl⟩, Pl.sbb_le _ _ _, fun w => x_sub64 x y b hb w⟩
theorem sub_factz (x y : Nat) : ∃ r c : Nat, (sbl x y 0 = r ∧ sbb x y 0 = c) ∧ c ≤ 1 ∧ ∀ w : World, (callFunc 55 #[.int .u64 x, .int .u64 y, .int .u64 0]).run Try.prog w = .ok (.value (.tuple #[.int .u64 r, .int .u64 c])) w := ⟨_, _, ⟨rfl, rfl⟩, Pl.sbb_le _ _ _, fun w => x_sub64 x y 0 (by omega) w⟩
theorem x_add64 (x y b : Nat) (hb : b ≤ 1) (w : World) :
    (callFunc 58 #[.int .u64 x, .int .u64 y, .int .u64 b]).run Try.prog w = .ok (.value (.tuple #[.int .u64 (adl x y b), .int .u64 (adc x y b)])) w := by
  rw [run_callFunc_extern Try.func58 (by kernel_rfl) (by kernel_rfl) (by kernel_rfl) (e := add64Entry) (by kernel_rfl), run_add64 x y b (by omega) (by omega) (by omega) (by omega)]
  rfl
theorem adw_fact (x y b : Nat) (hx : x < 18446744073709551616) (hy : y < 18446744073709551616) (hb : b ≤ 1) : ∃ r c : Nat, (adl x y b = r ∧ adc x y b = c) ∧ c ≤ 1 ∧ ∀ w : World, (callFunc 58 #[.int .u64 x, .int .u64 y, .int .u64 b]).run Try.prog w = .ok (.value (.tuple #[.int .u64 r, .int .u64 c])) w := ⟨_, _, ⟨rfl, rfl⟩, Pl.adc_le hx hy hb, fun w => x_add64 x y b hb w⟩
theorem add_factz (x y : Nat) (hx : x < 18446744073709551616) (hy : y < 18446744073709551616) : ∃ r c : Nat, (adl x y 0 = r ∧ adc x y 0 = c) ∧ c ≤ 1 ∧ ∀ w : World, (callFunc 58 #[.int .u64 x, .int .u64 y, .int .u64 0]).run Try.prog w = .ok (.value (.tuple #[.int .u64 r, .int .u64 c])) w := ⟨_, _, ⟨rfl, rfl⟩, Pl.adc_le hx hy (by omega), fun w => x_add64 x y 0 (by omega) w⟩

set_option maxHeartbeats 1000000 in
theorem minus_fact (a0 a1 a2 a3 b0 b1 b2 b3 : Nat) (ha : W4 a0 a1 a2 a3) (hb : W4 b0 b1 b2 b3) : ∃ r0 r1 r2 r3 c : Nat, (W4 r0 r1 r2 r3 ∧ c ≤ 1 ∧ V r0 r1 r2 r3 + V b0 b1 b2 b3 = V a0 a1 a2 a3 + T256 * c) ∧ ∀ w : World,
    Calls Try.prog 45 #[.agg #[.int .u64 a0, .int .u64 a1, .int .u64 a2, .int .u64 a3], .agg #[.int .u64 b0, .int .u64 b1, .int .u64 b2, .int .u64 b3]] w fun e w' => e = .returned (.tuple #[.agg #[.int .u64 r0, .int .u64 r1, .int .u64 r2, .int .u64 r3], .int .u64 c]) ∧ Below w.heap.size w w' := by
  obtain ⟨r0, c0, h0, hc0, f0⟩ := sub_factz a0 b0
  obtain ⟨r1, c1, h1, hc1, f1⟩ := sub_fact a1 b1 c0 hc0
  obtain ⟨r2, c2, h2, hc2, f2⟩ := sub_fact a2 b2 c1 hc1
  obtain ⟨r3, c3, h3, hc3, f3⟩ := sub_fact a3 b3 c2 hc2
  refine ⟨r0, r1, r2, r3, c3, Pl.minus_spec ha hb h0 h1 h2 h3, fun w => ?_⟩
  clear h0 h1 h2 h3 ha hb hc0 hc1 hc2 hc3
  go_enter Try.func45, Try.ntmps45
  go_wp2
  refine wp_loop_rounds 5 ?_
  rw [rounds_succ]
  go_wp2
  go_region
  go_wp2
  rw [rounds_succ]
  go_wp2
  go_region
  go_wp2
  rw [rounds_succ]
  go_wp2
  go_region
  go_wp2
  rw [rounds_succ]
  go_wp2
  go_region
  go_wp2
  rw [rounds_succ]
  go_wp2
  refine bodyPost_ret (v := .tuple #[.agg #[.int .u64 r0, .int .u64 r1, .int .u64 r2, .int .u64 r3], .int .u64 c3]) (by simp [results, Try.results45, go_sem]) rfl ⟨rfl, ?_⟩
  go_grown

set_option maxHeartbeats 1000000 in
theorem plus_fact (a0 a1 a2 a3 b0 b1 b2 b3 : Nat) (ha : W4 a0 a1 a2 a3) (hb : W4 b0 b1 b2 b3) : ∃ r0 r1 r2 r3 c : Nat, (W4 r0 r1 r2 r3 ∧ c ≤ 1 ∧ V r0 r1 r2 r3 + T256 * c = V a0 a1 a2 a3 + V b0 b1 b2 b3) ∧ ∀ w : World,
    Calls Try.prog 53 #[.agg #[.int .u64 a0, .int .u64 a1, .int .u64 a2, .int .u64 a3], .agg #[.int .u64 b0, .int .u64 b1, .int .u64 b2, .int .u64 b3]] w fun e w' => e = .returned (.tuple #[.agg #[.int .u64 r0, .int .u64 r1, .int .u64 r2, .int .u64 r3], .int .u64 c]) ∧ Below w.heap.size w w' := by
  obtain ⟨r0, c0, h0, hc0, f0⟩ := add_factz a0 b0 ha.1 hb.1
  obtain ⟨r1, c1, h1, hc1, f1⟩ := adw_fact a1 b1 c0 ha.2.1 hb.2.1 hc0
  obtain ⟨r2, c2, h2, hc2, f2⟩ := adw_fact a2 b2 c1 ha.2.2.1 hb.2.2.1 hc1
  obtain ⟨r3, c3, h3, hc3, f3⟩ := adw_fact a3 b3 c2 ha.2.2.2 hb.2.2.2 hc2
  refine ⟨r0, r1, r2, r3, c3, Pl.plus_spec ha hb h0 h1 h2 h3, fun w => ?_⟩
  clear h0 h1 h2 h3 ha hb hc0 hc1 hc2 hc3
  go_enter Try.func53, Try.ntmps53
  go_wp2
  refine wp_loop_rounds 5 ?_
  rw [rounds_succ]
  go_wp2
  go_region
  go_wp2
  rw [rounds_succ]
  go_wp2
  go_region
  go_wp2
  rw [rounds_succ]
  go_wp2
  go_region
  go_wp2
  rw [rounds_succ]
  go_wp2
  go_region
  go_wp2
  rw [rounds_succ]
  go_wp2
  refine bodyPost_ret (v := .tuple #[.agg #[.int .u64 r0, .int .u64 r1, .int .u64 r2, .int .u64 r3], .int .u64 c3]) (by simp [results, Try.results53, go_sem]) rfl ⟨rfl, ?_⟩
  go_grown

theorem prime_fact : ∃ p0 p1 p2 p3 : Nat, (W4 p0 p1 p2 p3 ∧ V p0 p1 p2 p3 = pP) ∧ ∀ w : World, Calls Try.prog 24 #[] w fun e w' => e = .returned (.agg #[.int .u64 p0, .int .u64 p1, .int .u64 p2, .int .u64 p3]) ∧ Below w.heap.size w w' := by
  refine ⟨18446744073709551597, 18446744073709551615, 18446744073709551615, 9223372036854775807, ⟨by unfold W4; decide, by decide +kernel⟩, fun w => ?_⟩
  go_enter Try.func24, Try.ntmps24
  go_wp2
  refine bodyPost_ret (v := .agg #[.int .u64 18446744073709551597, .int .u64 18446744073709551615, .int .u64 18446744073709551615, .int .u64 9223372036854775807]) (by simp [results, Try.results24, go_sem]) rfl ⟨rfl, ?_⟩
  go_grown

theorem info_u64 : (Try.prog.info? 23).map (·.size) = some 1 := by kernel_rfl
theorem key_u64 : Try.prog.plainKey 23 = true := by kernel_rfl
theorem eql_num (a0 a1 a2 a3 b0 b1 b2 b3 : Int) (w : World) : (binOp .eql 25 (.agg #[.int .u64 a0, .int .u64 a1, .int .u64 a2, .int .u64 a3]) (.agg #[.int .u64 b0, .int .u64 b1, .int .u64 b2, .int .u64 b3])).run Try.prog w = .ok (.bool (eqL [a0, a1, a2, a3] [b0, b1, b2, b3])) w := by
  obtain ⟨i, hi, hs⟩ := Option.map_eq_some_iff.1 info_u64
  exact run_eql_arr w 25 23 4 .u64 [a0, a1, a2, a3] [b0, b1, b2, b3] Try.underlying25 Try.underlying23 key_u64 hi hs rfl rfl
theorem neq_num (a0 a1 a2 a3 b0 b1 b2 b3 : Int) (w : World) : (binOp .neq 25 (.agg #[.int .u64 a0, .int .u64 a1, .int .u64 a2, .int .u64 a3]) (.agg #[.int .u64 b0, .int .u64 b1, .int .u64 b2, .int .u64 b3])).run Try.prog w = .ok (.bool (!eqL [a0, a1, a2, a3] [b0, b1, b2, b3])) w := by
  obtain ⟨i, hi, hs⟩ := Option.map_eq_some_iff.1 info_u64
  exact run_neq_arr w 25 23 4 .u64 [a0, a1, a2, a3] [b0, b1, b2, b3] Try.underlying25 Try.underlying23 key_u64 hi hs rfl rfl
attribute [local go_sem ↓] eql_num neq_num
theorem eqL_V {a0 a1 a2 a3 b0 b1 b2 b3 : Nat} (ha : W4 a0 a1 a2 a3) (hb : W4 b0 b1 b2 b3) : eqL [(a0 : Int), a1, a2, a3] [(b0 : Int), b1, b2, b3] = true ↔ V a0 a1 a2 a3 = V b0 b1 b2 b3 := by
  rw [eqL_iff]
  constructor
  · intro h
    simp only [List.cons.injEq, Int.natCast_inj, and_true] at h
    obtain ⟨rfl, rfl, rfl, rfl⟩ := h
    rfl
  · intro h
    obtain ⟨rfl, rfl, rfl, rfl⟩ := Pl.V_inj ha hb h
    rfl
theorem eqL_zero {a0 a1 a2 a3 : Nat} : eqL [(a0 : Int), a1, a2, a3] [(0 : Int), 0, 0, 0] = true ↔ V a0 a1 a2 a3 = 0 := by
  rw [eqL_iff, Pl.V_zero]
  simp only [List.cons.injEq, and_true]
  omega

/-- Whether all words are 0. -/
theorem zero_fact (a0 a1 a2 a3 : Nat) : ∃ z : Bool, (z = true ↔ V a0 a1 a2 a3 = 0) ∧ ∀ w : World, Calls Try.prog 15 #[.agg #[.int .u64 a0, .int .u64 a1, .int .u64 a2, .int .u64 a3]] w fun e w' => e = .returned (.bool z) ∧ Below w.heap.size w w' := by
  refine ⟨eqL [(a0 : Int), a1, a2, a3] [(0 : Int), 0, 0, 0], eqL_zero, fun w => ?_⟩
  go_enter Try.func15, Try.ntmps15
  go_wp2
  go_ret
  refine ⟨rfl, ?_⟩
  go_grown

set_option maxHeartbeats 1000000 in
theorem less_fact (a0 a1 a2 a3 b0 b1 b2 b3 : Nat) (ha : W4 a0 a1 a2 a3) (hb : W4 b0 b1 b2 b3) : ∃ z : Bool, (z = true ↔ V a0 a1 a2 a3 < V b0 b1 b2 b3) ∧ ∀ w : World, Calls Try.prog 21 #[.agg #[.int .u64 a0, .int .u64 a1, .int .u64 a2, .int .u64 a3], .agg #[.int .u64 b0, .int .u64 b1, .int .u64 b2, .int .u64 b3]] w fun e w' => e = .returned (.bool z) ∧ Below w.heap.size w w' := by
  obtain ⟨r0, r1, r2, r3, c, ⟨hr, hc1, hv⟩, F⟩ := minus_fact a0 a1 a2 a3 b0 b1 b2 b3 ha hb
  have hlt := Pl.V_lt hr
  obtain ⟨z, hz⟩ : ∃ z : Bool, ((c : Int) == 1) = z := ⟨_, rfl⟩
  have hzc : z = true ↔ c = 1 := by rw [← hz, beq_iff_eq]; omega
  refine ⟨z, ?_, fun w => ?_⟩
  · rw [hzc]
    have hla := Pl.V_lt ha
    have hlb := Pl.V_lt hb
    rcases (show c = 0 ∨ c = 1 by omega) with rfl | rfl
    · omega
    · omega
  have HF := Lib.hid F
  clear F hzc hlt hv hc1 hr ha hb
  go_enter Try.func21, Try.ntmps21
  go_wp2_with (first | (go_at_call 45; refine (HF.out _).mono ?_; rintro e w1 ⟨rfl, hb⟩; have HB : Below w.heap.size w w1 := below_call (by go_grown) (by simp; omega) hb; obtain ⟨hc, hf⟩ := bcell hb; have hz := hb.size; clear hb))
  go_returns
  refine ⟨rfl, ?_⟩
  have hz' := HB.size
  go_grown

end Go.Proofs.Ytldnjbpcdojffaa
