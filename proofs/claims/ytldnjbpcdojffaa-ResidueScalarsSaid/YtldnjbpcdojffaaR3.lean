/- @@NUM 25 The walks of residue's add, of bits.Mul64, of a number's product with a word. Conditions: words are below 2^64. -/
import Derived.Test.YtldnjbpcdojffaaR2
import Derived.Lib.Mul64
import Derived.Shelf.Bits.Mul64
import Derived.Laws.Bits64b
namespace Go.Proofs.Ytldnjbpcdojffaa
set_option linter.unusedVariables false
set_option linter.unusedSimpArgs false
open Go Go.RowKit
open Pl (V W4 T256 pP adl adc)

set_option maxHeartbeats 1000000 in
theorem mul64_fact (x y : Nat) (hx : x < 18446744073709551616) (hy : y < 18446744073709551616) : ∃ h l : Nat, (l < 18446744073709551616 ∧ h < 18446744073709551616 ∧ l + 18446744073709551616 * h = x * y) ∧ ∀ w : World,
    Calls Try.prog 60 #[.int .u64 x, .int .u64 y] w fun e w' => e = .returned (.tuple #[.int .u64 h, .int .u64 l]) ∧ w = w' := by
  refine ⟨x * y / 18446744073709551616, x * y % 18446744073709551616, ⟨Nat.mod_lt _ (by omega), ?_, by omega⟩, fun w => ?_⟩
  · have := Pl.mulw_le hx hy
    omega
  obtain ⟨bd, bt, bw, hhi⟩ := Lib.mul64_hi x y hx hy
  have ba := Lib.half_mul_le (a := x / 4294967296) (b := y / 4294967296) (by omega) (by omega)
  have bb := Lib.half_mul_le (a := x / 4294967296) (b := y % 4294967296) (by omega) (by omega)
  have bc := Lib.half_mul_le (a := x % 4294967296) (b := y / 4294967296) (by omega) (by omega)
  have ba' : x / 4294967296 * (y / 4294967296) < 18446744073709551616 := by omega
  have bb' : x / 4294967296 * (y % 4294967296) < 18446744073709551616 := by omega
  have bc' : x % 4294967296 * (y / 4294967296) < 18446744073709551616 := by omega
  have bh1 : x / 4294967296 * (y / 4294967296) + (x / 4294967296 * (y % 4294967296) + x % 4294967296 * (y % 4294967296) / 4294967296) / 4294967296 < 18446744073709551616 := by omega
  have bh : x / 4294967296 * (y / 4294967296) + (x / 4294967296 * (y % 4294967296) + x % 4294967296 * (y % 4294967296) / 4294967296) / 4294967296 + ((x / 4294967296 * (y % 4294967296) + x % 4294967296 * (y % 4294967296) / 4294967296) % 4294967296 + x % 4294967296 * (y / 4294967296)) / 4294967296 < 18446744073709551616 := by omega
  go_enter Try.func60, Try.ntmps60
  go_wp2
  simp only [Mul64.maskN x hx, Mul64.maskN y hy, Mul64.divN, Mul64.mulN, Mul64.addN, Mul64.wrapN _ bd, Mul64.wrapN _ bb', Mul64.wrapN _ bt, Mul64.maskN _ bt, Mul64.wrapN _ bc', Mul64.wrapN _ bw, Mul64.wrapN _ ba', Mul64.wrapN _ bh1, Mul64.wrapN _ bh, Mul64.wrapM (x * y)]
  rw [hhi]
  go_ret2
  exact ⟨rfl, rfl⟩

set_option maxHeartbeats 1000000 in
theorem add_fact (a0 a1 a2 a3 b0 b1 b2 b3 : Nat) (ha : W4 a0 a1 a2 a3) (hb : W4 b0 b1 b2 b3) : ∃ r0 r1 r2 r3 : Nat, (W4 r0 r1 r2 r3 ∧ (V a0 a1 a2 a3 < pP → V b0 b1 b2 b3 < pP → V r0 r1 r2 r3 = (V a0 a1 a2 a3 + V b0 b1 b2 b3) % pP)) ∧ ∀ w : World,
    Calls Try.prog 46 #[.agg #[.int .u64 a0, .int .u64 a1, .int .u64 a2, .int .u64 a3], .agg #[.int .u64 b0, .int .u64 b1, .int .u64 b2, .int .u64 b3]] w fun e w' => e = .returned (.agg #[.int .u64 r0, .int .u64 r1, .int .u64 r2, .int .u64 r3]) ∧ Below w.heap.size w w' := by
  obtain ⟨s0, s1, s2, s3, c, ⟨hs, hc1, hv⟩, F⟩ := plus_fact a0 a1 a2 a3 b0 b1 b2 b3 ha hb
  obtain ⟨r0, r1, r2, r3, ⟨hr, hrv⟩, FS⟩ := small_fact s0 s1 s2 s3 hs
  refine ⟨r0, r1, r2, r3, ⟨hr, fun h1 h2 => ?_⟩, fun w => ?_⟩
  · have := Pl.pP_lt
    have h3 : 2 ^ 255 + 2 ^ 255 = T256 := by decide +kernel
    have h4 := Pl.V_lt hs
    rw [hrv]
    congr 1
    rcases (show c = 0 ∨ c = 1 by omega) with rfl | rfl <;> omega
  have HF := Lib.hid F
  have HS := Lib.hid FS
  clear F FS hrv hr hv hc1 hs ha hb
  go_enter Try.func46, Try.ntmps46
  go_wp2_with (fail)
  go_at_call 53
  refine (HF.out _).mono ?_
  rintro e w1 ⟨rfl, hb⟩
  have hR : w1.heap[w.heap.size + 2]? = some (.cells #[.int .u64 0, .int .u64 0, .int .u64 0, .int .u64 0] 25 (0, 0)) := heap_keep' hb (by repeat (first | (with_reducible refine heap_new' ?_ _; simp; done) | (with_reducible assumption) | (with_reducible refine heap_old ?_ _) | (with_reducible refine heap_drew ?_) | (with_reducible refine heap_set_ne ?_ (by simp <;> omega) _))); have cR := cells4 hR; have fR := frozen_of hR; have zR := lt_of_heap hR
  have HB : Below w.heap.size w w1 := below_call (by go_grown) (by simp; omega) hb
  clear hb
  go_wp2_with (fail)
  go_at_call 47
  refine (HS.out _).mono ?_
  rintro e w2 ⟨rfl, hb⟩
  have hR : w2.heap[w.heap.size + 2]? = some (.cells #[.int .u64 0, .int .u64 0, .int .u64 0, .int .u64 0] 25 (0, 0)) := heap_keep' hb (by repeat (first | (with_reducible refine heap_new' ?_ _; simp; done) | (with_reducible assumption) | (with_reducible refine heap_old ?_ _) | (with_reducible refine heap_drew ?_) | (with_reducible refine heap_set_ne ?_ (by simp <;> omega) _))); have cR := cells4 hR; have fR := frozen_of hR; have zR := lt_of_heap hR
  have hz := HB.size
  have HB2 : Below w.heap.size w w2 := below_call (by go_grown) (by simp; omega) hb
  clear hb
  have hQ := cells4 (set4 hR (.int .u64 r0) (.int .u64 r1) (.int .u64 r2) (.int .u64 r3))
  go_wp2
  refine bodyPost_ret (v := .agg #[.int .u64 r0, .int .u64 r1, .int .u64 r2, .int .u64 r3]) (by simp [results, Try.results46, go_sem, hQ]) rfl ⟨rfl, ?_⟩
  go_grown

set_option maxHeartbeats 2000000 in
theorem times_fact (a0 a1 a2 a3 x : Nat) (ha : W4 a0 a1 a2 a3) (hx : x < 18446744073709551616) : ∃ r0 r1 r2 r3 c : Nat, (W4 r0 r1 r2 r3 ∧ c < 18446744073709551616 ∧ V r0 r1 r2 r3 + T256 * c = V a0 a1 a2 a3 * x) ∧ ∀ w : World,
    Calls Try.prog 59 #[.agg #[.int .u64 a0, .int .u64 a1, .int .u64 a2, .int .u64 a3], .int .u64 x] w fun e w' => e = .returned (.tuple #[.agg #[.int .u64 r0, .int .u64 r1, .int .u64 r2, .int .u64 r3], .int .u64 c]) ∧ Below w.heap.size w w' := by
  obtain ⟨h0, l0, ⟨hl0, hh0, m0⟩, F0⟩ := mul64_fact a0 x ha.1 hx
  obtain ⟨h1, l1, ⟨hl1, hh1, m1⟩, F1⟩ := mul64_fact a1 x ha.2.1 hx
  obtain ⟨h2, l2, ⟨hl2, hh2, m2⟩, F2⟩ := mul64_fact a2 x ha.2.2.1 hx
  obtain ⟨h3, l3, ⟨hl3, hh3, m3⟩, F3⟩ := mul64_fact a3 x ha.2.2.2 hx
  obtain ⟨s0, c0, e0, hc0, f0⟩ := adw_fact l0 0 0 hl0 (by omega) (by omega)
  have t0 := Pl.times_word ha.1 hx (by omega) m0 hl0 e0
  obtain ⟨k1, hk1⟩ : ∃ k, h0 + c0 = k := ⟨_, rfl⟩
  rw [hk1] at t0
  obtain ⟨s1, c1, e1, hc1, f1⟩ := adw_fact l1 k1 0 hl1 t0.2.2.1 (by omega)
  have t1 := Pl.times_word ha.2.1 hx t0.2.2.1 m1 hl1 e1
  obtain ⟨k2, hk2⟩ : ∃ k, h1 + c1 = k := ⟨_, rfl⟩
  rw [hk2] at t1
  obtain ⟨s2, c2, e2, hc2, f2⟩ := adw_fact l2 k2 0 hl2 t1.2.2.1 (by omega)
  have t2 := Pl.times_word ha.2.2.1 hx t1.2.2.1 m2 hl2 e2
  obtain ⟨k3, hk3⟩ : ∃ k, h2 + c2 = k := ⟨_, rfl⟩
  rw [hk3] at t2
  obtain ⟨s3, c3, e3, hc3, f3⟩ := adw_fact l3 k3 0 hl3 t2.2.2.1 (by omega)
  have t3 := Pl.times_word ha.2.2.2 hx t2.2.2.1 m3 hl3 e3
  obtain ⟨k4, hk4⟩ : ∃ k, h3 + c3 = k := ⟨_, rfl⟩
  rw [hk4] at t3
  have g0 : IntKind.u64.wrap ((h0 : Int) + (c0 : Int)) = (k1 : Int) := by rw [IntKind.wrap_u64]; omega
  have g1 : IntKind.u64.wrap ((h1 : Int) + (c1 : Int)) = (k2 : Int) := by rw [IntKind.wrap_u64]; omega
  have g2 : IntKind.u64.wrap ((h2 : Int) + (c2 : Int)) = (k3 : Int) := by rw [IntKind.wrap_u64]; omega
  have g3 : IntKind.u64.wrap ((h3 : Int) + (c3 : Int)) = (k4 : Int) := by rw [IntKind.wrap_u64]; omega
  refine ⟨s0, s1, s2, s3, k4, ⟨⟨t0.1, t1.1, t2.1, t3.1⟩, t3.2.2.1, Pl.times_spec t0.2.2.2 t1.2.2.2 t2.2.2.2 t3.2.2.2⟩, fun w => ?_⟩
  have M0 := Lib.hid F0
  have M1 := Lib.hid F1
  have M2 := Lib.hid F2
  have M3 := Lib.hid F3
  clear F0 F1 F2 F3 t0 t1 t2 t3 e0 e1 e2 e3 m0 m1 m2 m3 hk1 hk2 hk3 hk4 ha hx hl0 hl1 hl2 hl3 hh0 hh1 hh2 hh3 hc0 hc1 hc2 hc3
  simp only [Int.natCast_zero] at f0 f1 f2 f3
  go_enter Try.func59, Try.ntmps59
  go_wp2
  refine wp_loop_rounds 5 ?_
  rw [rounds_succ]
  go_wp2_with (fail)
  go_at_call 60
  refine (M0.out _).mono ?_
  rintro e w1 ⟨rfl, rfl⟩
  go_wp2
  rw [rounds_succ]
  go_wp2_with (fail)
  go_at_call 60
  refine (M1.out _).mono ?_
  rintro e w2 ⟨rfl, rfl⟩
  go_wp2
  rw [rounds_succ]
  go_wp2_with (fail)
  go_at_call 60
  refine (M2.out _).mono ?_
  rintro e w3 ⟨rfl, rfl⟩
  go_wp2
  rw [rounds_succ]
  go_wp2_with (fail)
  go_at_call 60
  refine (M3.out _).mono ?_
  rintro e w4 ⟨rfl, rfl⟩
  go_wp2
  rw [rounds_succ]
  go_wp2
  go_outline
  refine bodyPost_ret (v := .tuple #[.agg #[.int .u64 s0, .int .u64 s1, .int .u64 s2, .int .u64 s3], .int .u64 k4]) (by simp [results, Try.results59, go_sem]) rfl ⟨rfl, ?_⟩
  go_grown
end Go.Proofs.Ytldnjbpcdojffaa
