/- @@NUM 25 The walks of residue's folded and mul: a product modulo the prime. Conditions: words are below 2^64. -/
import Derived.Test.YtldnjbpcdojffaaR4
import Derived.Deep.DeepCutAuto
import Derived.Deep.CutBlock
namespace Go.Proofs.Ytldnjbpcdojffaa
set_option linter.unusedVariables false
set_option linter.unusedSimpArgs false
open Go Go.RowKit
open Pl (V V8 W4 T256 pP adl adc lowW)

theorem T256_mod : T256 % pP = 38 := by decide +kernel
theorem fold_mod {l0 l1 l2 l3 h0 h1 h2 h3 r0 r1 r2 r3 c ov k : Nat} {s0 s1 s2 s3 : Nat} (hr : V r0 r1 r2 r3 + T256 * ov = V h0 h1 h2 h3 * 38) (hs : V s0 s1 s2 s3 + T256 * c = V l0 l1 l2 l3 + V r0 r1 r2 r3) (hk : ov + c = k) :
    V8 s0 s1 s2 s3 k 0 0 0 = V l0 l1 l2 l3 + V h0 h1 h2 h3 * 38 ∧ V8 s0 s1 s2 s3 k 0 0 0 % pP = V8 l0 l1 l2 l3 h0 h1 h2 h3 % pP := by
  have e1 : V8 s0 s1 s2 s3 k 0 0 0 = V l0 l1 l2 l3 + V h0 h1 h2 h3 * 38 := by
    have : V k 0 0 0 = k := by unfold Pl.V; omega
    unfold Pl.V8
    rw [this, ← hk, Nat.mul_add]
    omega
  refine ⟨e1, ?_⟩
  rw [e1]
  unfold Pl.V8
  rw [Nat.add_mod, Nat.add_mod (V l0 l1 l2 l3) (T256 * _), Nat.mul_mod T256, T256_mod, Nat.mul_comm (V h0 h1 h2 h3) 38, Nat.mul_mod 38]
  have : 38 % pP = 38 := by decide +kernel
  rw [this]

theorem array_at (b o c : Nat) (w : World) : (Instr.arrayAt 25 (.slice (some ⟨b, o, none⟩) 4 c)).run Try.prog w = .ok (.pointer (some ⟨b, o, none⟩)) w := by kernel_rfl
attribute [local go_sem] array_at
set_option maxHeartbeats 4000000 in
theorem folded_fact (a0 a1 a2 a3 a4 a5 a6 a7 : Nat) (hal : W4 a0 a1 a2 a3) (hah : W4 a4 a5 a6 a7) : ∃ r0 r1 r2 r3 : Nat, (W4 r0 r1 r2 r3 ∧ V r0 r1 r2 r3 = V8 a0 a1 a2 a3 a4 a5 a6 a7 % pP) ∧ ∀ w : World,
    Calls Try.prog 56 #[.agg #[.int .u64 a0, .int .u64 a1, .int .u64 a2, .int .u64 a3, .int .u64 a4, .int .u64 a5, .int .u64 a6, .int .u64 a7]] w fun e w' => e = .returned (.agg #[.int .u64 r0, .int .u64 r1, .int .u64 r2, .int .u64 r3]) ∧ Below w.heap.size w w' := by
  have hpl : pP < T256 := by decide +kernel
  obtain ⟨r0, r1, r2, r3, hr, hv⟩ := Pl.words (V8 a0 a1 a2 a3 a4 a5 a6 a7 % pP) (Nat.lt_trans (Nat.mod_lt _ (by decide +kernel)) hpl)
  refine ⟨r0, r1, r2, r3, ⟨hr, hv⟩, fun w => ?_⟩
  have HR := Lib.hid hr
  have HV := Lib.hid hv
  have HAL := Lib.hid hal
  have HAH := Lib.hid hah
  clear hr hv hal hah hpl
  go_enter Try.func56, Try.ntmps56
  go_upto_region 1 with (fail)
  go_cut [3, 4] (fun v3 v4 wc => ∃ bl bh : Nat, v3 = .pointer (some ⟨bl, 0, none⟩) ∧ v4 = .pointer (some ⟨bh, 0, none⟩) ∧ Hid (bl ≠ bh ∧ bl ≠ w.heap.size + 1 ∧ bh ≠ w.heap.size + 1 ∧ w.heap.size ≤ bl ∧ w.heap.size ≤ bh) ∧ Hid (wc.heap[bl]? = some (.cells #[.int .u64 a0, .int .u64 a1, .int .u64 a2, .int .u64 a3] 25 (0, 0)) ∧ wc.heap[bh]? = some (.cells #[.int .u64 a4, .int .u64 a5, .int .u64 a6, .int .u64 a7] 25 (0, 0)) ∧ wc.heap[w.heap.size + 1]? = some (.cells #[.int .u64 0, .int .u64 0, .int .u64 0, .int .u64 0] 25 (0, 0))) ∧ Hid (Below w.heap.size w wc))
  case first =>
    go_region
    all_goals
      go_wp2
      go_meet
      case rel =>
        refine ⟨_, _, rfl, rfl, ?_, ⟨?_, ?_, ?_⟩, ?_⟩
        · refine ⟨?_, ?_, ?_, ?_, ?_⟩ <;> omega
        · repeat (first | (with_reducible refine heap_new' ?_ _; simp; done) | (with_reducible refine heap_old ?_ _) | (with_reducible refine heap_drew ?_))
        · repeat (first | (with_reducible refine heap_new' ?_ _; simp; done) | (with_reducible refine heap_old ?_ _) | (with_reducible refine heap_drew ?_))
        · repeat (first | (with_reducible refine heap_new' ?_ _; simp; done) | (with_reducible refine heap_old ?_ _) | (with_reducible refine heap_drew ?_))
        · show Below _ _ _
          go_grown
  case rest =>
    obtain ⟨bl, bh, rfl, rfl, HNE, HH, HB⟩ := hcut
    go_wp2
    go_loopg [] (V8 a0 a1 a2 a3 a4 a5 a6 a7) (fun kq wr => ∃ l0 l1 l2 l3 h0 h1 h2 h3 : Nat, Hid ((W4 l0 l1 l2 l3 ∧ W4 h0 h1 h2 h3) ∧ V8 l0 l1 l2 l3 h0 h1 h2 h3 % pP = V8 a0 a1 a2 a3 a4 a5 a6 a7 % pP ∧ V8 l0 l1 l2 l3 h0 h1 h2 h3 ≤ kq) ∧ Hid (wr.heap[bl]? = some (.cells #[.int .u64 l0, .int .u64 l1, .int .u64 l2, .int .u64 l3] 25 (0, 0)) ∧ wr.heap[bh]? = some (.cells #[.int .u64 h0, .int .u64 h1, .int .u64 h2, .int .u64 h3] 25 (0, 0)) ∧ wr.heap[w.heap.size + 1]? = some (.cells #[.int .u64 0, .int .u64 0, .int .u64 0, .int .u64 0] 25 (0, 0))) ∧ Hid (Below w.heap.size w wr))
    case atStart => exact ⟨a0, a1, a2, a3, a4, a5, a6, a7, ⟨⟨HAL.out, HAH.out⟩, rfl, Nat.le_refl _⟩, HH, HB⟩
    case round =>
      clear HH HB
      obtain ⟨l0, l1, l2, l3, h0, h1, h2, h3, HP, HH, HB⟩ := hrel
      obtain ⟨z, hz, FZ⟩ := zero_fact h0 h1 h2 h3
      have HZ := Lib.hid FZ
      clear FZ
      have cH := cells4 HH.out.2.1
      by_cases hzero : V h0 h1 h2 h3 = 0
      · have hzt : z = true := hz.2 hzero
        subst hzt
        obtain ⟨q0, q1, q2, q3, ⟨hq, hqv⟩, FS⟩ := small_fact l0 l1 l2 l3 HP.out.1.1
        have HS := Lib.hid FS
        have HE : Hid (q0 = r0 ∧ q1 = r1 ∧ q2 = r2 ∧ q3 = r3) := Pl.V_inj hq HR.out (by
          rw [hqv, HV.out, ← HP.out.2.1]
          unfold Pl.V8
          rw [hzero, Nat.mul_zero, Nat.add_zero])
        clear FS hq hqv hz hzero HP
        go_wp2_with (fail)
        go_at_call 15
        refine (HZ.out _).mono ?_
        rintro e w1 ⟨rfl, hb⟩
        have hL := heap_keep' hb HH.out.1
        have hR0 := heap_keep' hb HH.out.2.2
        have HB1 : Hid (Below w.heap.size w w1) := below_call HB.out HB.out.size hb
        clear HB HH cH hb
        have cL := cells4 hL
        have zR := lt_of_heap hR0
        have HR0 := Lib.hid hR0
        clear hL hR0
        go_wp2_with (fail)
        go_at_call 47
        refine (HS.out _).mono ?_
        rintro e w2 ⟨rfl, hb⟩
        have hR1 := heap_keep' hb HR0.out
        have cR := cells4 hR1
        have fR := frozen_of hR1
        have hQ := cells4 (set4 hR1 (.int .u64 q0) (.int .u64 q1) (.int .u64 q2) (.int .u64 q3))
        have HB2 : Below w.heap.size w w2 := below_call HB1.out HB1.out.size hb
        clear hb
        go_wp2
        obtain ⟨rfl, rfl, rfl, rfl⟩ := HE.out
        refine bodyPost_ret (v := .agg #[.int .u64 q0, .int .u64 q1, .int .u64 q2, .int .u64 q3]) (by simp [results, Try.results56, go_sem, hQ]) rfl ⟨rfl, ?_⟩
        go_grown
      · have hzt : z = false := by
          cases z with
          | false => rfl
          | true => exact absurd (hz.1 rfl) hzero
        subst hzt
        obtain ⟨m0, m1, m2, m3, ov, ⟨hm, hov, hmv⟩, FT⟩ := times_fact h0 h1 h2 h3 38 HP.out.1.2 (by omega)
        obtain ⟨s0, s1, s2, s3, c, ⟨hs, hc1, hsv⟩, FP⟩ := plus_fact l0 l1 l2 l3 m0 m1 m2 m3 HP.out.1.1 hm
        have hov2 : ov ≤ 38 := by
          have y1 := Pl.V_lt HP.out.1.2
          have y2 := Pl.V_lt hm
          unfold T256 at *
          omega
        obtain ⟨k, hk⟩ : ∃ k, ov + c = k := ⟨_, rfl⟩
        have hf := fold_mod hmv hsv hk
        have g : IntKind.u64.wrap ((ov : Int) + (c : Int)) = (k : Int) := by rw [IntKind.wrap_u64]; omega
        have HN : Hid ((W4 s0 s1 s2 s3 ∧ W4 k 0 0 0) ∧ V8 s0 s1 s2 s3 k 0 0 0 % pP = V8 a0 a1 a2 a3 a4 a5 a6 a7 % pP ∧ V8 s0 s1 s2 s3 k 0 0 0 < gk) := by
          refine ⟨⟨hs, by unfold W4; omega⟩, by rw [hf.2, HP.out.2.1], ?_⟩
          have y1 := HP.out.2.2
          rw [hf.1]
          have y2 : V h0 h1 h2 h3 * 38 < T256 * V h0 h1 h2 h3 := by rw [Nat.mul_comm]; exact Nat.mul_lt_mul_of_pos_right (by decide +kernel) (Nat.pos_of_ne_zero hzero)
          have y3 : V8 l0 l1 l2 l3 h0 h1 h2 h3 = V l0 l1 l2 l3 + T256 * V h0 h1 h2 h3 := rfl
          omega
        have HT := Lib.hid FT
        have HPL := Lib.hid FP
        have N1 := Lib.hid HNE.out
        have zl1 : bl ≠ bh := HNE.out.1
        clear FT FP hm hov hmv hs hc1 hsv hov2 hk hf hz hzero HP HR HV HAL HAH
        go_wp2_with (fail)
        go_at_call 15
        refine (HZ.out _).mono ?_
        rintro e w1 ⟨rfl, hb⟩
        have HL := Lib.hid (heap_keep' hb HH.out.1)
        have hH := heap_keep' hb HH.out.2.1
        have HR0 := Lib.hid (heap_keep' hb HH.out.2.2)
        have HB1 : Hid (Below w.heap.size w w1) := below_call HB.out HB.out.size hb
        clear HB HH cH hb
        have cH := cells4 hH
        have HHH := Lib.hid hH
        clear hH
        go_wp2_with (fail)
        go_at_call 59
        refine (HT.out _).mono ?_
        rintro e w2 ⟨rfl, hb⟩
        have hL := heap_keep' hb HL.out
        have HH2 := Lib.hid (heap_keep' hb HHH.out)
        have HR2 := Lib.hid (heap_keep' hb HR0.out)
        have HB2 : Hid (Below w.heap.size w w2) := below_call HB1.out HB1.out.size hb
        clear HB1 HHH HR0 HL cH hb
        have cL := cells4 hL
        have zL := lt_of_heap hL
        have HL2 := Lib.hid hL
        clear hL
        go_wp2_with (fail)
        go_at_call 53
        refine (HPL.out _).mono ?_
        rintro e w3 ⟨rfl, hb⟩
        have hL := heap_keep' hb (heap_old HL2.out _)
        have hH := heap_keep' hb (heap_old HH2.out _)
        have HR3 := Lib.hid (heap_keep' hb (heap_old HR2.out _))
        have HB3 : Hid (Below w.heap.size w w3) := below_call (HB2.out.alloc HB2.out.size _) (Nat.le_trans HB2.out.size (by simp)) hb
        clear HB2 HL2 HH2 HR2 cL zL hb
        have cL := cells4 hL
        have fL := frozen_of hL
        have zL := lt_of_heap hL
        have cH := cells4 hH
        have fH := frozen_of hH
        have zH := lt_of_heap hH
        have HL3 := Lib.hid hL
        have HH3 := Lib.hid hH
        clear hL hH
        go_wp2
        go_roundg (V8 s0 s1 s2 s3 k 0 0 0)
        case measure => exact HN.out.2.2
        case rel =>
          refine ⟨s0, s1, s2, s3, k, 0, 0, 0, ⟨HN.out.1, HN.out.2.1, Nat.le_refl _⟩, ⟨?_, ?_, ?_⟩, ?_⟩
          · exact heap_old (keep4 (set4 HL3.out _ _ _ _) HNE.out.1 _ _ _ _) _
          · exact heap_old (set4 (keep4 HH3.out (Ne.symm HNE.out.1) _ _ _ _) _ _ _ _) _
          · exact heap_old (keep4 (keep4 HR3.out (Ne.symm HNE.out.2.1) _ _ _ _) (Ne.symm HNE.out.2.2.1) _ _ _ _) _
          · exact (set4_below (set4_below HB3.out HNE.out.2.2.2.1 _ _ _ _) HNE.out.2.2.2.2 _ _ _ _).alloc (by rw [size4, size4]; exact HB3.out.size) _

set_option maxHeartbeats 1000000 in
theorem mul_fact (a0 a1 a2 a3 b0 b1 b2 b3 : Nat) (ha : W4 a0 a1 a2 a3) (hb : W4 b0 b1 b2 b3) : ∃ r0 r1 r2 r3 : Nat, (W4 r0 r1 r2 r3 ∧ V r0 r1 r2 r3 = V a0 a1 a2 a3 * V b0 b1 b2 b3 % pP) ∧ ∀ w : World,
    Calls Try.prog 48 #[.agg #[.int .u64 a0, .int .u64 a1, .int .u64 a2, .int .u64 a3], .agg #[.int .u64 b0, .int .u64 b1, .int .u64 b2, .int .u64 b3]] w fun e w' => e = .returned (.agg #[.int .u64 r0, .int .u64 r1, .int .u64 r2, .int .u64 r3]) ∧ Below w.heap.size w w' := by
  obtain ⟨x0, x1, x2, x3, x4, x5, x6, x7, ⟨hl, hh, hv⟩, FP⟩ := product_fact a0 a1 a2 a3 b0 b1 b2 b3 ha hb
  obtain ⟨r0, r1, r2, r3, ⟨hr, hrv⟩, FF⟩ := folded_fact x0 x1 x2 x3 x4 x5 x6 x7 hl hh
  refine ⟨r0, r1, r2, r3, ⟨hr, by rw [hrv, hv]⟩, fun w => ?_⟩
  have HP := Lib.hid FP
  have HF := Lib.hid FF
  clear FP FF hrv hr hv hl hh ha hb
  go_enter Try.func48, Try.ntmps48
  go_wp2_with (fail)
  go_at_call 54
  refine (HP.out _).mono ?_
  rintro e w1 ⟨rfl, hb⟩
  have hR : w1.heap[w.heap.size + 1 + 1]? = some (.cells #[.int .u64 0, .int .u64 0, .int .u64 0, .int .u64 0] 25 (0, 0)) := heap_keep' hb (by repeat (first | (with_reducible refine heap_new' ?_ _; simp; done) | (with_reducible assumption) | (with_reducible refine heap_old ?_ _) | (with_reducible refine heap_drew ?_) | (with_reducible refine heap_set_ne ?_ (by simp <;> omega) _))); have cR := cells4 hR; have fR := frozen_of hR; have zR := lt_of_heap hR
  have HB : Below w.heap.size w w1 := below_call (by go_grown) (by simp; omega) hb
  clear hb cR fR zR
  go_wp2_with (fail)
  go_at_call 56
  refine (HF.out _).mono ?_
  rintro e w2 ⟨rfl, hb⟩
  have hR2 := heap_keep' hb hR
  have hz := HB.size
  have HB2 : Below w.heap.size w w2 := below_call HB HB.size hb
  have cR := cells4 hR2
  have fR := frozen_of hR2
  clear hb hR
  have hQ := cells4 (set4 hR2 (.int .u64 r0) (.int .u64 r1) (.int .u64 r2) (.int .u64 r3))
  go_wp2
  refine bodyPost_ret (v := .agg #[.int .u64 r0, .int .u64 r1, .int .u64 r2, .int .u64 r3]) (by simp [results, Try.results48, go_sem, hQ]) rfl ⟨rfl, ?_⟩
  go_grown
end Go.Proofs.Ytldnjbpcdojffaa
