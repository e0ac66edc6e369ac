/- @@NUM 25 The walk of residue's product of two numbers: eight words. Conditions: words are below 2^64. -/
import Derived.Test.YtldnjbpcdojffaaR3
namespace Go.Proofs.Ytldnjbpcdojffaa
set_option linter.unusedVariables false
set_option linter.unusedSimpArgs false
open Go Go.RowKit
open Pl (V V8 W4 T256 pP adl adc lowW)

theorem index_num (x0 x1 x2 x3 : Value) : (∀ w, (Instr.index 25 (.agg #[x0, x1, x2, x3]) (.int .i64 0)).run Try.prog w = .ok x0 w) ∧ (∀ w, (Instr.index 25 (.agg #[x0, x1, x2, x3]) (.int .i64 1)).run Try.prog w = .ok x1 w) ∧ (∀ w, (Instr.index 25 (.agg #[x0, x1, x2, x3]) (.int .i64 2)).run Try.prog w = .ok x2 w) ∧ (∀ w, (Instr.index 25 (.agg #[x0, x1, x2, x3]) (.int .i64 3)).run Try.prog w = .ok x3 w) :=
  ⟨fun _ => by kernel_rfl, fun _ => by kernel_rfl, fun _ => by kernel_rfl, fun _ => by kernel_rfl⟩

/-- What stands in out behind i rounds. -/
structure PR (a0 a1 a2 a3 b0 b1 b2 b3 : Nat) (i : Nat) (o0 o1 o2 o3 o4 o5 o6 o7 : Nat) : Prop where
  lo : W4 o0 o1 o2 o3
  hi : W4 o4 o5 o6 o7
  val : V8 o0 o1 o2 o3 o4 o5 o6 o7 = V a0 a1 a2 a3 * lowW b0 b1 b2 b3 i
  z4 : i = 0 → o4 = 0
  z5 : i ≤ 1 → o5 = 0
  z6 : i ≤ 2 → o6 = 0
  z7 : i ≤ 3 → o7 = 0

set_option maxHeartbeats 8000000 in
theorem product_fact (a0 a1 a2 a3 b0 b1 b2 b3 : Nat) (ha : W4 a0 a1 a2 a3) (hb : W4 b0 b1 b2 b3) : ∃ r0 r1 r2 r3 r4 r5 r6 r7 : Nat, (W4 r0 r1 r2 r3 ∧ W4 r4 r5 r6 r7 ∧ V8 r0 r1 r2 r3 r4 r5 r6 r7 = V a0 a1 a2 a3 * V b0 b1 b2 b3) ∧ ∀ w : World,
    Calls Try.prog 54 #[.agg #[.int .u64 a0, .int .u64 a1, .int .u64 a2, .int .u64 a3], .agg #[.int .u64 b0, .int .u64 b1, .int .u64 b2, .int .u64 b3]] w fun e w' => e = .returned (.agg #[.int .u64 r0, .int .u64 r1, .int .u64 r2, .int .u64 r3, .int .u64 r4, .int .u64 r5, .int .u64 r6, .int .u64 r7]) ∧ Below w.heap.size w w' := by
  have hlt : V a0 a1 a2 a3 * V b0 b1 b2 b3 < T256 * T256 := Nat.mul_lt_mul'' (Pl.V_lt ha) (Pl.V_lt hb)
  obtain ⟨r0, r1, r2, r3, hrl, vl⟩ := Pl.words (V a0 a1 a2 a3 * V b0 b1 b2 b3 % T256) (Nat.mod_lt _ (by decide +kernel))
  obtain ⟨r4, r5, r6, r7, hrh, vh⟩ := Pl.words (V a0 a1 a2 a3 * V b0 b1 b2 b3 / T256) (Nat.div_lt_of_lt_mul hlt)
  have hrv : V8 r0 r1 r2 r3 r4 r5 r6 r7 = V a0 a1 a2 a3 * V b0 b1 b2 b3 := by
    unfold Pl.V8
    rw [vl, vh]
    exact Nat.mod_add_div _ _
  refine ⟨r0, r1, r2, r3, r4, r5, r6, r7, ⟨hrl, hrh, hrv⟩, fun w => ?_⟩
  have HRL := Lib.hid hrl
  have HRH := Lib.hid hrh
  have HRV := Lib.hid hrv
  have HA := Lib.hid ha
  have HB := Lib.hid hb
  clear hlt vl vh hrl hrh hrv ha hb
  obtain ⟨x0, x1, x2, x3⟩ := index_num (.int .u64 b0) (.int .u64 b1) (.int .u64 b2) (.int .u64 b3)
  go_enter Try.func54, Try.ntmps54
  go_wp2
  go_loopg [13] 4 (fun kq v13 wr => ∃ i : Nat, ∃ o0 o1 o2 o3 o4 o5 o6 o7 : Nat, v13 = .int .i64 i ∧ Hid (i + kq = 4) ∧ Hid (PR a0 a1 a2 a3 b0 b1 b2 b3 i o0 o1 o2 o3 o4 o5 o6 o7) ∧ Hid (wr.heap[w.heap.size]? = some (.cells #[.int .u64 a0, .int .u64 a1, .int .u64 a2, .int .u64 a3] 25 (0, 0)) ∧ wr.heap[w.heap.size + 1 + 1]? = some (.cells #[.int .u64 0, .int .u64 0, .int .u64 0, .int .u64 0, .int .u64 0, .int .u64 0, .int .u64 0, .int .u64 0] 62 (0, 0)) ∧ wr.heap[w.heap.size + 1 + 1 + 1]? = some (.cells #[.int .u64 o0, .int .u64 o1, .int .u64 o2, .int .u64 o3, .int .u64 o4, .int .u64 o5, .int .u64 o6, .int .u64 o7] 62 (0, 0))) ∧ Hid (Below w.heap.size w wr))
  case atStart =>
    refine ⟨0, 0, 0, 0, 0, 0, 0, 0, 0, rfl, rfl, ?_, ⟨heap_old (heap_old (heap_old (heap_new _ _) _) _) _, heap_old (heap_new' (by simp) _) _, heap_new' (by simp) _⟩, ?_⟩
    · show PR _ _ _ _ _ _ _ _ _ _ _ _ _ _ _ _ _
      refine ⟨by unfold W4; omega, by unfold W4; omega, by rw [show lowW b0 b1 b2 b3 0 = 0 from rfl, Nat.mul_zero]; decide +kernel, fun _ => rfl, fun _ => rfl, fun _ => rfl, fun _ => rfl⟩
    · show Below _ _ _
      go_grown
  case round =>
    obtain ⟨i, o0, o1, o2, o3, o4, o5, o6, o7, rfl, HK, HP, HH, HW⟩ := hrel
    have hi : i = 0 ∨ i = 1 ∨ i = 2 ∨ i = 3 ∨ i = 4 := by have := HK.out; omega
    rcases hi with rfl | rfl | rfl | rfl | rfl
    · -- the round of word 0
      obtain rfl : o4 = 0 := HP.out.z4 (by omega)
      obtain rfl : o5 = 0 := HP.out.z5 (by omega)
      obtain rfl : o6 = 0 := HP.out.z6 (by omega)
      obtain rfl : o7 = 0 := HP.out.z7 (by omega)
      obtain ⟨q0, q1, q2, q3, v, ⟨hq, hv, tq⟩, T⟩ := times_fact a0 a1 a2 a3 b0 HA.out (HB.out.1)
      obtain ⟨s0, c0, e0, hc0, f0⟩ := adw_fact o0 q0 0 (HP.out.lo.1) hq.1 (by omega)
      obtain ⟨s1, c1, e1, hc1, f1⟩ := adw_fact o1 q1 c0 (HP.out.lo.2.1) hq.2.1 hc0
      obtain ⟨s2, c2, e2, hc2, f2⟩ := adw_fact o2 q2 c1 (HP.out.lo.2.2.1) hq.2.2.1 hc1
      obtain ⟨s3, c3, e3, hc3, f3⟩ := adw_fact o3 q3 c2 (HP.out.lo.2.2.2) hq.2.2.2 hc2
      have P := Pl.plus_spec (show W4 o0 o1 o2 o3 from ⟨HP.out.lo.1, HP.out.lo.2.1, HP.out.lo.2.2.1, HP.out.lo.2.2.2⟩) hq e0 e1 e2 e3
      obtain ⟨ht, U⟩ := Pl.row_top HA.out (HB.out.1) (show W4 o0 o1 o2 o3 from ⟨HP.out.lo.1, HP.out.lo.2.1, HP.out.lo.2.2.1, HP.out.lo.2.2.2⟩) tq P
      obtain ⟨t, hk⟩ : ∃ k, v + c3 = k := ⟨_, rfl⟩
      rw [hk] at ht U
      have g : IntKind.u64.wrap ((v : Int) + (c3 : Int)) = (t : Int) := by rw [IntKind.wrap_u64]; omega
      have hval := Pl.prod0 (b0 := b0) (b1 := b1) (b2 := b2) (b3 := b3) HP.out.val U
      have HN : Hid (PR a0 a1 a2 a3 b0 b1 b2 b3 1 s0 s1 s2 s3 t 0 0 0) := ⟨⟨P.1.1, P.1.2.1, P.1.2.2.1, P.1.2.2.2⟩, ⟨ht, HP.out.hi.2.1, HP.out.hi.2.2.1, HP.out.hi.2.2.2⟩, hval, fun h => by omega, fun _ => rfl, fun _ => rfl, fun _ => rfl⟩
      have M := Lib.hid T
      have HK' : Hid (1 + (gk - 1) = 4 ∧ 0 < gk) := by have h := HK.out; exact ⟨by omega, by omega⟩
      have cA := cells4 HH.out.1; have zA := lt_of_heap HH.out.1
      clear T HP hq hv tq P U hk ht hval e0 e1 e2 e3 hc0 hc1 hc2 hc3 HK HRL HRH HRV HA HB
      simp only [Int.natCast_zero] at f0 f1 f2 f3
      go_wp2_with (fail)
      go_at_call 59
      refine (M.out _).mono ?_
      rintro e w1 ⟨rfl, hb⟩
      have hA' := heap_keep' hb HH.out.1
      have hR' := heap_keep' hb HH.out.2.1
      have hO' := heap_keep' hb HH.out.2.2
      have HW1 : Hid (Below w.heap.size w w1) := below_call HW.out HW.out.size hb
      clear HW HH cA zA hb M
      have cO := cells8 hO'; have fO := frozen_of hO'; have zO := lt_of_heap hO'
      have HHA := Lib.hid hA'; have HHR := Lib.hid hR'; have HHO := Lib.hid hO'
      clear hA' hR' hO'
      go_wp2
      refine wp_loop_rounds 5 ?_
      rw [rounds_succ]
      go_wp2
      go_region
      go_wp2
      rw [rounds_succ]
      go_wp2
      go_region
      go_wp2
      rw [rounds_succ]
      go_wp2
      go_region
      go_wp2
      rw [rounds_succ]
      go_wp2
      go_region
      go_wp2
      rw [rounds_succ]
      go_wp2
      go_roundg (gk - 1)
      case measure => have := HK'.out; omega
      case rel =>
        refine ⟨1, s0, s1, s2, s3, t, 0, 0, 0, rfl, HK'.out.1, HN, ⟨?_, ?_, ?_⟩, ?_⟩
        · (repeat (with_reducible refine heap_drew ?_)); with_reducible refine heap_old ?_ _; (repeat (with_reducible refine heap_set_ne ?_ (by simp <;> omega) _)); exact HHA.out
        · (repeat (with_reducible refine heap_drew ?_)); with_reducible refine heap_old ?_ _; (repeat (with_reducible refine heap_set_ne ?_ (by simp <;> omega) _)); exact HHR.out
        · (repeat (with_reducible refine heap_drew ?_)); with_reducible refine heap_old ?_ _; with_reducible refine heap_five' HHO.out ?_; simp
        · show Below _ _ _
          have hz := HW1.out.size
          have hb : Below w.heap.size w w1 := HW1.out
          go_grown
    · -- the round of word 1
      obtain rfl : o5 = 0 := HP.out.z5 (by omega)
      obtain rfl : o6 = 0 := HP.out.z6 (by omega)
      obtain rfl : o7 = 0 := HP.out.z7 (by omega)
      obtain ⟨q0, q1, q2, q3, v, ⟨hq, hv, tq⟩, T⟩ := times_fact a0 a1 a2 a3 b1 HA.out (HB.out.2.1)
      obtain ⟨s0, c0, e0, hc0, f0⟩ := adw_fact o1 q0 0 (HP.out.lo.2.1) hq.1 (by omega)
      obtain ⟨s1, c1, e1, hc1, f1⟩ := adw_fact o2 q1 c0 (HP.out.lo.2.2.1) hq.2.1 hc0
      obtain ⟨s2, c2, e2, hc2, f2⟩ := adw_fact o3 q2 c1 (HP.out.lo.2.2.2) hq.2.2.1 hc1
      obtain ⟨s3, c3, e3, hc3, f3⟩ := adw_fact o4 q3 c2 (HP.out.hi.1) hq.2.2.2 hc2
      have P := Pl.plus_spec (show W4 o1 o2 o3 o4 from ⟨HP.out.lo.2.1, HP.out.lo.2.2.1, HP.out.lo.2.2.2, HP.out.hi.1⟩) hq e0 e1 e2 e3
      obtain ⟨ht, U⟩ := Pl.row_top HA.out (HB.out.2.1) (show W4 o1 o2 o3 o4 from ⟨HP.out.lo.2.1, HP.out.lo.2.2.1, HP.out.lo.2.2.2, HP.out.hi.1⟩) tq P
      obtain ⟨t, hk⟩ : ∃ k, v + c3 = k := ⟨_, rfl⟩
      rw [hk] at ht U
      have g : IntKind.u64.wrap ((v : Int) + (c3 : Int)) = (t : Int) := by rw [IntKind.wrap_u64]; omega
      have hval := Pl.prod1 (b0 := b0) (b1 := b1) (b2 := b2) (b3 := b3) HP.out.val U
      have HN : Hid (PR a0 a1 a2 a3 b0 b1 b2 b3 2 o0 s0 s1 s2 s3 t 0 0) := ⟨⟨HP.out.lo.1, P.1.1, P.1.2.1, P.1.2.2.1⟩, ⟨P.1.2.2.2, ht, HP.out.hi.2.2.1, HP.out.hi.2.2.2⟩, hval, fun h => by omega, fun h => by omega, fun _ => rfl, fun _ => rfl⟩
      have M := Lib.hid T
      have HK' : Hid (2 + (gk - 1) = 4 ∧ 0 < gk) := by have h := HK.out; exact ⟨by omega, by omega⟩
      have cA := cells4 HH.out.1; have zA := lt_of_heap HH.out.1
      clear T HP hq hv tq P U hk ht hval e0 e1 e2 e3 hc0 hc1 hc2 hc3 HK HRL HRH HRV HA HB
      simp only [Int.natCast_zero] at f0 f1 f2 f3
      go_wp2_with (fail)
      go_at_call 59
      refine (M.out _).mono ?_
      rintro e w1 ⟨rfl, hb⟩
      have hA' := heap_keep' hb HH.out.1
      have hR' := heap_keep' hb HH.out.2.1
      have hO' := heap_keep' hb HH.out.2.2
      have HW1 : Hid (Below w.heap.size w w1) := below_call HW.out HW.out.size hb
      clear HW HH cA zA hb M
      have cO := cells8 hO'; have fO := frozen_of hO'; have zO := lt_of_heap hO'
      have HHA := Lib.hid hA'; have HHR := Lib.hid hR'; have HHO := Lib.hid hO'
      clear hA' hR' hO'
      go_wp2
      refine wp_loop_rounds 5 ?_
      rw [rounds_succ]
      go_wp2
      go_region
      go_wp2
      rw [rounds_succ]
      go_wp2
      go_region
      go_wp2
      rw [rounds_succ]
      go_wp2
      go_region
      go_wp2
      rw [rounds_succ]
      go_wp2
      go_region
      go_wp2
      rw [rounds_succ]
      go_wp2
      go_roundg (gk - 1)
      case measure => have := HK'.out; omega
      case rel =>
        refine ⟨2, o0, s0, s1, s2, s3, t, 0, 0, rfl, HK'.out.1, HN, ⟨?_, ?_, ?_⟩, ?_⟩
        · (repeat (with_reducible refine heap_drew ?_)); with_reducible refine heap_old ?_ _; (repeat (with_reducible refine heap_set_ne ?_ (by simp <;> omega) _)); exact HHA.out
        · (repeat (with_reducible refine heap_drew ?_)); with_reducible refine heap_old ?_ _; (repeat (with_reducible refine heap_set_ne ?_ (by simp <;> omega) _)); exact HHR.out
        · (repeat (with_reducible refine heap_drew ?_)); with_reducible refine heap_old ?_ _; with_reducible refine heap_five' HHO.out ?_; simp
        · show Below _ _ _
          have hz := HW1.out.size
          have hb : Below w.heap.size w w1 := HW1.out
          go_grown
    · -- the round of word 2
      obtain rfl : o6 = 0 := HP.out.z6 (by omega)
      obtain rfl : o7 = 0 := HP.out.z7 (by omega)
      obtain ⟨q0, q1, q2, q3, v, ⟨hq, hv, tq⟩, T⟩ := times_fact a0 a1 a2 a3 b2 HA.out (HB.out.2.2.1)
      obtain ⟨s0, c0, e0, hc0, f0⟩ := adw_fact o2 q0 0 (HP.out.lo.2.2.1) hq.1 (by omega)
      obtain ⟨s1, c1, e1, hc1, f1⟩ := adw_fact o3 q1 c0 (HP.out.lo.2.2.2) hq.2.1 hc0
      obtain ⟨s2, c2, e2, hc2, f2⟩ := adw_fact o4 q2 c1 (HP.out.hi.1) hq.2.2.1 hc1
      obtain ⟨s3, c3, e3, hc3, f3⟩ := adw_fact o5 q3 c2 (HP.out.hi.2.1) hq.2.2.2 hc2
      have P := Pl.plus_spec (show W4 o2 o3 o4 o5 from ⟨HP.out.lo.2.2.1, HP.out.lo.2.2.2, HP.out.hi.1, HP.out.hi.2.1⟩) hq e0 e1 e2 e3
      obtain ⟨ht, U⟩ := Pl.row_top HA.out (HB.out.2.2.1) (show W4 o2 o3 o4 o5 from ⟨HP.out.lo.2.2.1, HP.out.lo.2.2.2, HP.out.hi.1, HP.out.hi.2.1⟩) tq P
      obtain ⟨t, hk⟩ : ∃ k, v + c3 = k := ⟨_, rfl⟩
      rw [hk] at ht U
      have g : IntKind.u64.wrap ((v : Int) + (c3 : Int)) = (t : Int) := by rw [IntKind.wrap_u64]; omega
      have hval := Pl.prod2 (b0 := b0) (b1 := b1) (b2 := b2) (b3 := b3) HP.out.val U
      have HN : Hid (PR a0 a1 a2 a3 b0 b1 b2 b3 3 o0 o1 s0 s1 s2 s3 t 0) := ⟨⟨HP.out.lo.1, HP.out.lo.2.1, P.1.1, P.1.2.1⟩, ⟨P.1.2.2.1, P.1.2.2.2, ht, HP.out.hi.2.2.2⟩, hval, fun h => by omega, fun h => by omega, fun h => by omega, fun _ => rfl⟩
      have M := Lib.hid T
      have HK' : Hid (3 + (gk - 1) = 4 ∧ 0 < gk) := by have h := HK.out; exact ⟨by omega, by omega⟩
      have cA := cells4 HH.out.1; have zA := lt_of_heap HH.out.1
      clear T HP hq hv tq P U hk ht hval e0 e1 e2 e3 hc0 hc1 hc2 hc3 HK HRL HRH HRV HA HB
      simp only [Int.natCast_zero] at f0 f1 f2 f3
      go_wp2_with (fail)
      go_at_call 59
      refine (M.out _).mono ?_
      rintro e w1 ⟨rfl, hb⟩
      have hA' := heap_keep' hb HH.out.1
      have hR' := heap_keep' hb HH.out.2.1
      have hO' := heap_keep' hb HH.out.2.2
      have HW1 : Hid (Below w.heap.size w w1) := below_call HW.out HW.out.size hb
      clear HW HH cA zA hb M
      have cO := cells8 hO'; have fO := frozen_of hO'; have zO := lt_of_heap hO'
      have HHA := Lib.hid hA'; have HHR := Lib.hid hR'; have HHO := Lib.hid hO'
      clear hA' hR' hO'
      go_wp2
      refine wp_loop_rounds 5 ?_
      rw [rounds_succ]
      go_wp2
      go_region
      go_wp2
      rw [rounds_succ]
      go_wp2
      go_region
      go_wp2
      rw [rounds_succ]
      go_wp2
      go_region
      go_wp2
      rw [rounds_succ]
      go_wp2
      go_region
      go_wp2
      rw [rounds_succ]
      go_wp2
      go_roundg (gk - 1)
      case measure => have := HK'.out; omega
      case rel =>
        refine ⟨3, o0, o1, s0, s1, s2, s3, t, 0, rfl, HK'.out.1, HN, ⟨?_, ?_, ?_⟩, ?_⟩
        · (repeat (with_reducible refine heap_drew ?_)); with_reducible refine heap_old ?_ _; (repeat (with_reducible refine heap_set_ne ?_ (by simp <;> omega) _)); exact HHA.out
        · (repeat (with_reducible refine heap_drew ?_)); with_reducible refine heap_old ?_ _; (repeat (with_reducible refine heap_set_ne ?_ (by simp <;> omega) _)); exact HHR.out
        · (repeat (with_reducible refine heap_drew ?_)); with_reducible refine heap_old ?_ _; with_reducible refine heap_five' HHO.out ?_; simp
        · show Below _ _ _
          have hz := HW1.out.size
          have hb : Below w.heap.size w w1 := HW1.out
          go_grown
    · -- the round of word 3
      obtain rfl : o7 = 0 := HP.out.z7 (by omega)
      obtain ⟨q0, q1, q2, q3, v, ⟨hq, hv, tq⟩, T⟩ := times_fact a0 a1 a2 a3 b3 HA.out (HB.out.2.2.2)
      obtain ⟨s0, c0, e0, hc0, f0⟩ := adw_fact o3 q0 0 (HP.out.lo.2.2.2) hq.1 (by omega)
      obtain ⟨s1, c1, e1, hc1, f1⟩ := adw_fact o4 q1 c0 (HP.out.hi.1) hq.2.1 hc0
      obtain ⟨s2, c2, e2, hc2, f2⟩ := adw_fact o5 q2 c1 (HP.out.hi.2.1) hq.2.2.1 hc1
      obtain ⟨s3, c3, e3, hc3, f3⟩ := adw_fact o6 q3 c2 (HP.out.hi.2.2.1) hq.2.2.2 hc2
      have P := Pl.plus_spec (show W4 o3 o4 o5 o6 from ⟨HP.out.lo.2.2.2, HP.out.hi.1, HP.out.hi.2.1, HP.out.hi.2.2.1⟩) hq e0 e1 e2 e3
      obtain ⟨ht, U⟩ := Pl.row_top HA.out (HB.out.2.2.2) (show W4 o3 o4 o5 o6 from ⟨HP.out.lo.2.2.2, HP.out.hi.1, HP.out.hi.2.1, HP.out.hi.2.2.1⟩) tq P
      obtain ⟨t, hk⟩ : ∃ k, v + c3 = k := ⟨_, rfl⟩
      rw [hk] at ht U
      have g : IntKind.u64.wrap ((v : Int) + (c3 : Int)) = (t : Int) := by rw [IntKind.wrap_u64]; omega
      have hval := Pl.prod3 (b0 := b0) (b1 := b1) (b2 := b2) (b3 := b3) HP.out.val U
      have HN : Hid (PR a0 a1 a2 a3 b0 b1 b2 b3 4 o0 o1 o2 s0 s1 s2 s3 t) := ⟨⟨HP.out.lo.1, HP.out.lo.2.1, HP.out.lo.2.2.1, P.1.1⟩, ⟨P.1.2.1, P.1.2.2.1, P.1.2.2.2, ht⟩, hval, fun h => by omega, fun h => by omega, fun h => by omega, fun h => by omega⟩
      have M := Lib.hid T
      have HK' : Hid (4 + (gk - 1) = 4 ∧ 0 < gk) := by have h := HK.out; exact ⟨by omega, by omega⟩
      have cA := cells4 HH.out.1; have zA := lt_of_heap HH.out.1
      clear T HP hq hv tq P U hk ht hval e0 e1 e2 e3 hc0 hc1 hc2 hc3 HK HRL HRH HRV HA HB
      simp only [Int.natCast_zero] at f0 f1 f2 f3
      go_wp2_with (fail)
      go_at_call 59
      refine (M.out _).mono ?_
      rintro e w1 ⟨rfl, hb⟩
      have hA' := heap_keep' hb HH.out.1
      have hR' := heap_keep' hb HH.out.2.1
      have hO' := heap_keep' hb HH.out.2.2
      have HW1 : Hid (Below w.heap.size w w1) := below_call HW.out HW.out.size hb
      clear HW HH cA zA hb M
      have cO := cells8 hO'; have fO := frozen_of hO'; have zO := lt_of_heap hO'
      have HHA := Lib.hid hA'; have HHR := Lib.hid hR'; have HHO := Lib.hid hO'
      clear hA' hR' hO'
      go_wp2
      refine wp_loop_rounds 5 ?_
      rw [rounds_succ]
      go_wp2
      go_region
      go_wp2
      rw [rounds_succ]
      go_wp2
      go_region
      go_wp2
      rw [rounds_succ]
      go_wp2
      go_region
      go_wp2
      rw [rounds_succ]
      go_wp2
      go_region
      go_wp2
      rw [rounds_succ]
      go_wp2
      go_roundg (gk - 1)
      case measure => have := HK'.out; omega
      case rel =>
        refine ⟨4, o0, o1, o2, s0, s1, s2, s3, t, rfl, HK'.out.1, HN, ⟨?_, ?_, ?_⟩, ?_⟩
        · (repeat (with_reducible refine heap_drew ?_)); with_reducible refine heap_old ?_ _; (repeat (with_reducible refine heap_set_ne ?_ (by simp <;> omega) _)); exact HHA.out
        · (repeat (with_reducible refine heap_drew ?_)); with_reducible refine heap_old ?_ _; (repeat (with_reducible refine heap_set_ne ?_ (by simp <;> omega) _)); exact HHR.out
        · (repeat (with_reducible refine heap_drew ?_)); with_reducible refine heap_old ?_ _; with_reducible refine heap_five' HHO.out ?_; simp
        · show Below _ _ _
          have hz := HW1.out.size
          have hb : Below w.heap.size w w1 := HW1.out
          go_grown
    · -- behind the rounds
      have HQ := HP.out
      have hv : V8 o0 o1 o2 o3 o4 o5 o6 o7 = V8 r0 r1 r2 r3 r4 r5 r6 r7 := by rw [HRV.out, HQ.val]; rfl
      have HE : Hid (o0 = r0 ∧ o1 = r1 ∧ o2 = r2 ∧ o3 = r3 ∧ o4 = r4 ∧ o5 = r5 ∧ o6 = r6 ∧ o7 = r7) := by
        have h1 := HQ.lo; have h2 := HQ.hi; have h3 := HRL.out; have h4 := HRH.out
        unfold Pl.W4 at h1 h2 h3 h4
        unfold Pl.V8 Pl.T256 at hv
        unfold Pl.V at hv
        refine ⟨?_, ?_, ?_, ?_, ?_, ?_, ?_, ?_⟩ <;> omega
      have cO := cells8 HH.out.2.2
      have cR := cells8 HH.out.2.1
      have fR := frozen_of HH.out.2.1
      have qR := cells8 (heap_eight HH.out.2.1 (.int .u64 o0) (.int .u64 o1) (.int .u64 o2) (.int .u64 o3) (.int .u64 o4) (.int .u64 o5) (.int .u64 o6) (.int .u64 o7))
      clear HQ hv HRL HRH HRV HA HB HP
      go_wp2
      obtain ⟨rfl, rfl, rfl, rfl, rfl, rfl, rfl, rfl⟩ := HE.out
      refine bodyPost_ret (v := .agg #[.int .u64 o0, .int .u64 o1, .int .u64 o2, .int .u64 o3, .int .u64 o4, .int .u64 o5, .int .u64 o6, .int .u64 o7]) (by simp [results, Try.results54, go_sem, qR]) rfl ⟨rfl, ?_⟩
      have hb : Below w.heap.size w wr := HW.out
      go_grown
end Go.Proofs.Ytldnjbpcdojffaa
