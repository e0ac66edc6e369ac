/- @@NUM 25 The walk of residue's Power and Inverse. Conditions: words are below 2^64. -/
import Derived.Test.YtldnjbpcdojffaaR11
namespace Go.Proofs.Ytldnjbpcdojffaa
set_option linter.unusedVariables false
set_option linter.unusedSimpArgs false
open Go Go.RowKit
open Pl (V V8 W4 T256 pP)

/-- What has been reckoned when k of the exponent's bits are left. -/
def PW (a n k o : Nat) : Prop := o = a ^ (n / 2 ^ k) % pP
theorem PW_start {a n : Nat} (hn : n < T256) : PW a n 256 1 := by
  have h : n / 2 ^ 256 = 0 := Nat.div_eq_of_lt (by have h1 : T256 = 2 ^ 256 := by decide +kernel
                                                   omega)
  unfold PW
  rw [h, Nat.pow_zero]
  decide +kernel
theorem PW_half (n k : Nat) : n / 2 ^ k = n / 2 ^ (k + 1) + n / 2 ^ (k + 1) + n / 2 ^ k % 2 := by
  rw [Nat.pow_succ, ← Nat.div_div_eq_div_mul]
  omega
theorem PW_zero {a n k o p : Nat} (h : PW a n (k + 1) o) (hb : n / 2 ^ k % 2 = 0) (hp : p = o * o % pP) : PW a n k p := by
  have e := PW_half n k
  unfold PW at h ⊢
  rw [hb, Nat.add_zero] at e
  rw [e, hp, h]
  generalize n / 2 ^ (k + 1) = q
  rw [← Nat.mul_mod, ← Nat.pow_add]
theorem PW_one {a n k o p q : Nat} (h : PW a n (k + 1) o) (hb : n / 2 ^ k % 2 = 1) (hp : p = o * o % pP) (hq : q = p * a % pP) : PW a n k q := by
  have e := PW_half n k
  unfold PW at h ⊢
  rw [hb] at e
  rw [e, hq, hp, h]
  generalize n / 2 ^ (k + 1) = r
  rw [← Nat.mul_mod, Nat.mod_mul_mod, ← Nat.pow_add, ← Nat.pow_succ]
theorem PW_end {a n o : Nat} (h : PW a n 0 o) : o = a ^ n % pP := by
  unfold PW at h
  rw [h, Nat.pow_zero, Nat.div_one]

theorem k_less {k : Nat} (h : k < 1000) : wrap64 ((k : Int) - 1) = (k : Int) - 1 := by
  unfold wrap64; omega

set_option maxHeartbeats 4000000 in
theorem Power_fact (a0 a1 a2 a3 n0 n1 n2 n3 : Nat) (ha : W4 a0 a1 a2 a3) (hn : W4 n0 n1 n2 n3) : ∃ r0 r1 r2 r3 : Nat, (W4 r0 r1 r2 r3 ∧ V r0 r1 r2 r3 = V a0 a1 a2 a3 ^ V n0 n1 n2 n3 % pP) ∧ ∀ w : World,
    Calls Try.prog 34 #[.agg #[.int .u64 a0, .int .u64 a1, .int .u64 a2, .int .u64 a3], .agg #[.int .u64 n0, .int .u64 n1, .int .u64 n2, .int .u64 n3]] w fun e w' => e = .returned (.agg #[.int .u64 r0, .int .u64 r1, .int .u64 r2, .int .u64 r3]) ∧ Below w.heap.size w w' := by
  obtain ⟨r0, r1, r2, r3, hr, hrv⟩ := Pl.words (V a0 a1 a2 a3 ^ V n0 n1 n2 n3 % pP) (Nat.lt_trans (Nat.mod_lt _ pP_pos) (by decide +kernel))
  refine ⟨r0, r1, r2, r3, ⟨hr, hrv⟩, fun w => ?_⟩
  obtain ⟨A, hA⟩ : ∃ A, V a0 a1 a2 a3 = A := ⟨_, rfl⟩
  obtain ⟨N, hN⟩ : ∃ N, V n0 n1 n2 n3 = N := ⟨_, rfl⟩
  have HS : Hid (PW A N 256 1) := PW_start (by rw [← hN]; exact Pl.V_lt hn)
  have HE : Hid (∀ o0 o1 o2 o3, W4 o0 o1 o2 o3 → PW A N 0 (V o0 o1 o2 o3) → o0 = r0 ∧ o1 = r1 ∧ o2 = r2 ∧ o3 = r3) := fun o0 o1 o2 o3 h1 h2 => Pl.V_inj h1 hr (by rw [PW_end h2, hrv, hA, hN])
  have HA := Lib.hid hA; have HN := Lib.hid hN; have HWA := Lib.hid ha; have HWN := Lib.hid hn
  clear hA hN ha hn hr hrv
  go_enter Try.func34, Try.ntmps34
  go_wp2
  go_loopg [6] 256 (fun kq v6 wr => ∃ z : Int, ∃ o0 o1 o2 o3 : Nat, v6 = .int .i64 z ∧ Hid (z = (kq : Int) - 1 ∧ kq ≤ 256) ∧ Hid (W4 o0 o1 o2 o3 ∧ PW A N kq (V o0 o1 o2 o3)) ∧ Hid (wr.heap[w.heap.size]? = some (.cells #[.int .u64 a0, .int .u64 a1, .int .u64 a2, .int .u64 a3] 25 (0, 0)) ∧ wr.heap[w.heap.size + 1]? = some (.cells #[.int .u64 n0, .int .u64 n1, .int .u64 n2, .int .u64 n3] 25 (0, 0)) ∧ wr.heap[w.heap.size + 1 + 1]? = some (.cells #[.int .u64 0, .int .u64 0, .int .u64 0, .int .u64 0] 25 (0, 0)) ∧ wr.heap[w.heap.size + 1 + 1 + 1]? = some (.cells #[.int .u64 o0, .int .u64 o1, .int .u64 o2, .int .u64 o3] 25 (0, 0))) ∧ Hid (Below w.heap.size w wr))
  case atStart =>
    refine ⟨255, 1, 0, 0, 0, rfl, ⟨by omega, by omega⟩, ⟨by unfold W4; omega, ?_⟩, ⟨heap_old (heap_old (heap_old (heap_new _ _) _) _) _, heap_old (heap_old (heap_new' (by simp) _) _) _, heap_old (heap_new' (by simp) _) _, heap_new' (by simp) _⟩, ?_⟩
    · rw [show V 1 0 0 0 = 1 from by decide]; exact HS.out
    · show Below _ _ _
      go_grown
  case round =>
    obtain ⟨z, o0, o1, o2, o3, rfl, HZ, HO, HH, HB⟩ := hrel
    rcases gk with _ | k
    · obtain rfl : z = -1 := by have := HZ.out.1; omega
      have HQ : Hid (o0 = r0 ∧ o1 = r1 ∧ o2 = r2 ∧ o3 = r3) := HE.out _ _ _ _ HO.out.1 HO.out.2
      have c5 := cells4 HH.out.2.2.2
      have cR := cells4 HH.out.2.2.1; have fR := frozen_of HH.out.2.2.1
      have hQ := cells4 (set4 HH.out.2.2.1 (.int .u64 o0) (.int .u64 o1) (.int .u64 o2) (.int .u64 o3))
      go_wp2
      obtain ⟨rfl, rfl, rfl, rfl⟩ := HQ.out
      refine bodyPost_ret (v := .agg #[.int .u64 o0, .int .u64 o1, .int .u64 o2, .int .u64 o3]) (by simp [results, Try.results34, go_sem, hQ]) rfl ⟨rfl, ?_⟩
      have := HB.out
      go_grown
    · obtain rfl : z = (k : Int) := by have := HZ.out.1; omega
      obtain ⟨m0, m1, m2, m3, ⟨hm, hmv⟩, FM⟩ := mul_fact o0 o1 o2 o3 o0 o1 o2 o3 HO.out.1 HO.out.1
      obtain ⟨b, hbv, FB⟩ := bit_fact n0 n1 n2 n3 k HWN.out (by have := HZ.out.2; omega)
      have HM := Lib.hid FM; have HBt := Lib.hid FB
      clear FM FB
      have c5 := cells4 HH.out.2.2.2
      go_wp2_with (fail)
      go_at_call 48
      refine (HM.out _).mono ?_
      rintro e w1 ⟨rfl, hb⟩
      have H0 := Lib.hid (heap_keep' hb HH.out.1)
      have H1 := Lib.hid (heap_keep' hb HH.out.2.1)
      have H2 := Lib.hid (heap_keep' hb HH.out.2.2.1)
      have hO := heap_keep' hb HH.out.2.2.2
      have HB1 : Hid (Below w.heap.size w w1) := below_call HB.out HB.out.size hb
      clear hb c5
      have cO := cells4 hO; have fO := frozen_of hO; have zO := lt_of_heap hO
      have H3 := Lib.hid hO
      clear hO
      have c1 := cells4 H1.out
      go_wp2_with (fail)
      go_at_call 50
      refine (HBt.out _).mono ?_
      rintro e w2 ⟨rfl, hb⟩
      have G0 := Lib.hid (heap_keep' hb (keep4 H0.out (by omega) _ _ _ _))
      have G1 := Lib.hid (heap_keep' hb (keep4 H1.out (by omega) _ _ _ _))
      have G2 := Lib.hid (heap_keep' hb (keep4 H2.out (by omega) _ _ _ _))
      have hO := heap_keep' hb (set4 H3.out (.int .u64 m0) (.int .u64 m1) (.int .u64 m2) (.int .u64 m3))
      have HB2 : Hid (Below w.heap.size w w2) := by
        have h := set4_below (b := w.heap.size + 1 + 1 + 1) HB1.out (by omega) (.int .u64 m0) (.int .u64 m1) (.int .u64 m2) (.int .u64 m3)
        exact below_call h h.size hb
      clear hb c1 cO fO zO H0 H1 H2 H3 HB1
      have cO := cells4 hO; have fO := frozen_of hO; have zO := lt_of_heap hO
      have G3 := Lib.hid hO
      clear hO
      rcases (show b = 0 ∨ b = 1 by omega) with rfl | rfl
      · have HN : Hid (PW A N k (V m0 m1 m2 m3)) := PW_zero HO.out.2 (by rw [← HN.out]; exact hbv.symm) hmv
        simp only [Int.natCast_zero]
        clear HBt HM hbv
        go_wp2
        go_roundg k
        case measure => exact Nat.lt_succ_self k
        case rel =>
          refine ⟨(k : Int) - 1, m0, m1, m2, m3, congrArg _ (k_less (by have := HZ.out.2; omega)), ⟨rfl, ?_⟩, ⟨hm, HN.out⟩, ⟨G0.out, G1.out, G2.out, G3.out⟩, HB2.out⟩
          have := HZ.out.2; omega
      · obtain ⟨t0, t1, t2, t3, ⟨ht, htv⟩, FT⟩ := mul_fact m0 m1 m2 m3 a0 a1 a2 a3 hm HWA.out
        have HN : Hid (PW A N k (V t0 t1 t2 t3)) := PW_one HO.out.2 (by rw [← HN.out]; exact hbv.symm) hmv (by rw [htv, HA.out])
        have HT := Lib.hid FT
        clear FT
        simp only [Int.natCast_one]
        clear HBt HM hbv
        have c0 := cells4 G0.out
        go_wp2_with (fail)
        go_at_call 48
        refine (HT.out _).mono ?_
        rintro e w3 ⟨rfl, hb⟩
        have L0 := Lib.hid (heap_keep' hb G0.out)
        have L1 := Lib.hid (heap_keep' hb G1.out)
        have L2 := Lib.hid (heap_keep' hb G2.out)
        have hO := heap_keep' hb G3.out
        have HB3 : Hid (Below w.heap.size w w3) := below_call HB2.out HB2.out.size hb
        clear hb c0 cO fO zO G0 G1 G2 G3 HB2
        have cO := cells4 hO; have fO := frozen_of hO; have zO := lt_of_heap hO
        have L3 := Lib.hid hO
        clear hO
        go_wp2
        go_roundg k
        case measure => exact Nat.lt_succ_self k
        case rel =>
          refine ⟨(k : Int) - 1, t0, t1, t2, t3, congrArg _ (k_less (by have := HZ.out.2; omega)), ⟨rfl, ?_⟩, ⟨ht, HN.out⟩, ⟨keep4 L0.out (by omega) _ _ _ _, keep4 L1.out (by omega) _ _ _ _, keep4 L2.out (by omega) _ _ _ _, set4 L3.out _ _ _ _⟩, ?_⟩
          · have := HZ.out.2; omega
          · exact set4_below HB3.out (by omega) _ _ _ _

end Go.Proofs.Ytldnjbpcdojffaa
