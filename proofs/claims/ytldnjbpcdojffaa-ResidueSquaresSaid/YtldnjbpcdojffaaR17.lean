/- @@NUM 25 What residue's Root answers: the even root of a square, or that there is none. Conditions: words are below 2^64. -/
import Derived.Test.YtldnjbpcdojffaaR14
import Derived.Test.YtldnjbpcdojffaaR15
import Derived.Test.YtldnjbpcdojffaaR16
namespace Go.Proofs.Ytldnjbpcdojffaa
set_option linter.unusedVariables false
set_option linter.unusedSimpArgs false
open Go Go.RowKit
open Pl (V V8 W4 T256 pP)

section
variable {ops : Array Oper}
theorem Rg.wanted_undef {o : Oper} {a : Act} {j s : Nat} {b : Bool} (h : o.guard = some (j, b)) (hd : Rg.dstOf ops j = some s) (he : a.eval (.tmp s) = undef) : Region.wanted o (yielded ops a.tmps) = false := by
  have h1 : a.tmps[s]? = none ∨ a.tmps[s]? = some undef := by
    simp only [Act.eval, Array.getD_eq_getD_getElem?] at he
    cases hx : a.tmps[s]? with
    | none => exact .inl rfl
    | some v => rw [hx] at he; rw [Option.getD_some] at he; rw [he]; exact .inr rfl
  unfold Rg.dstOf at hd
  rcases h1 with h1 | h1 <;> simp [Region.wanted, h, yielded, hd, h1, undef]
end

theorem eqL_true {a0 a1 a2 a3 b0 b1 b2 b3 : Nat} (ha : W4 a0 a1 a2 a3) (hb : W4 b0 b1 b2 b3) (h : V a0 a1 a2 a3 = V b0 b1 b2 b3) : eqL [(a0 : Int), a1, a2, a3] [(b0 : Int), b1, b2, b3] = true := (eqL_V ha hb).2 h
theorem eqL_false {a0 a1 a2 a3 b0 b1 b2 b3 : Nat} (ha : W4 a0 a1 a2 a3) (hb : W4 b0 b1 b2 b3) (h : V a0 a1 a2 a3 ≠ V b0 b1 b2 b3) : eqL [(a0 : Int), a1, a2, a3] [(b0 : Int), b1, b2, b3] = false := by
  cases e : eqL [(a0 : Int), a1, a2, a3] [(b0 : Int), b1, b2, b3]
  · rfl
  · exact absurd ((eqL_V ha hb).1 e) h
theorem zero4 : W4 0 0 0 0 := by unfold W4; omega
theorem V_zero4 : V 0 0 0 0 = 0 := by unfold V; omega

theorem Root_fact (a0 a1 a2 a3 : Nat) (ha : W4 a0 a1 a2 a3) : ∃ r0 r1 r2 r3 : Nat, ∃ z : Bool, Rooted r0 r1 r2 r3 z (V a0 a1 a2 a3 % pP) ∧ ∀ w : World,
    Calls Try.prog 36 #[.agg #[.int .u64 a0, .int .u64 a1, .int .u64 a2, .int .u64 a3]] w fun e w' => e = .returned (.tuple #[.agg #[.int .u64 r0, .int .u64 r1, .int .u64 r2, .int .u64 r3], .bool z]) ∧ Below w.heap.size w w' := by
  obtain ⟨s0, s1, s2, s3, ⟨hs, hsv⟩, FS⟩ := small_fact a0 a1 a2 a3 ha
  obtain ⟨t0, t1, t2, t3, ⟨ht, htv⟩, FT⟩ := Power_fact s0 s1 s2 s3 _ _ _ _ hs E8_W
  obtain ⟨m0, m1, m2, m3, ⟨hm, hmv⟩, FM⟩ := mul_fact t0 t1 t2 t3 t0 t1 t2 t3 ht ht
  have hA : V a0 a1 a2 a3 % pP < pP := Nat.mod_lt _ pP_pos
  rw [E8_V, hsv] at htv
  have htl : V t0 t1 t2 t3 < pP := by rw [htv]; exact Nat.mod_lt _ pP_pos
  have h0l : t0 < 18446744073709551616 := ht.1
  by_cases hE : V m0 m1 m2 m3 = V s0 s1 s2 s3
  · have E1 := eqL_true hm hs hE
    have hq : V t0 t1 t2 t3 * V t0 t1 t2 t3 % pP = V a0 a1 a2 a3 % pP := by rw [← hmv, hE, hsv]
    rcases Nat.mod_two_eq_zero_or_one t0 with hp | hp
    · exact ⟨t0, t1, t2, t3, true, ⟨ht, fun _ => ⟨htl, by rw [V_par, hp], hq⟩, fun h => by cases h⟩, fun w => root_A0 a0 a1 a2 a3 s0 s1 s2 s3 t0 t1 t2 t3 m0 m1 m2 m3 FS FT FM E1 (bit0_even h0l hp) w⟩
    · obtain ⟨n0, n1, n2, n3, ⟨hn, hnv⟩, FN⟩ := Sub_fact 0 0 0 0 t0 t1 t2 t3 zero4 ht
      have hodd : V t0 t1 t2 t3 % 2 = 1 := by rw [V_par, hp]
      obtain ⟨k1, k2, k3, k4⟩ := Pl.neg_root htl hodd
      rw [V_zero4, k1] at hnv
      exact ⟨n0, n1, n2, n3, true, ⟨hn, fun _ => by rw [hnv]; exact ⟨k3, k2, by rw [k4]; exact hq⟩, fun h => by cases h⟩, fun w => root_A1 a0 a1 a2 a3 s0 s1 s2 s3 t0 t1 t2 t3 m0 m1 m2 m3 FS FT FM E1 (bit0_odd h0l hp) n0 n1 n2 n3 FN w⟩
  · have E1 := eqL_false hm hs hE
    have W2 : W4 2 0 0 0 := W4_one (by omega)
    obtain ⟨i0, i1, i2, i3, ⟨hi, hiv⟩, FI⟩ := Power_fact 2 0 0 0 _ _ _ _ W2 Q4_W
    obtain ⟨u0, u1, u2, u3, ⟨hu, huv⟩, FU⟩ := mul_fact t0 t1 t2 t3 i0 i1 i2 i3 ht hi
    obtain ⟨k0, k1, k2, k3, ⟨hk, hkv⟩, FK⟩ := mul_fact u0 u1 u2 u3 u0 u1 u2 u3 hu hu
    rw [Q4_V, V_one] at hiv
    have hul : V u0 u1 u2 u3 < pP := by rw [huv]; exact Nat.mod_lt _ pP_pos
    have h0u : u0 < 18446744073709551616 := hu.1
    by_cases hE2 : V k0 k1 k2 k3 = V s0 s1 s2 s3
    · have E2 := eqL_true hk hs hE2
      have hq : V u0 u1 u2 u3 * V u0 u1 u2 u3 % pP = V a0 a1 a2 a3 % pP := by rw [← hkv, hE2, hsv]
      rcases Nat.mod_two_eq_zero_or_one u0 with hp | hp
      · exact ⟨u0, u1, u2, u3, true, ⟨hu, fun _ => ⟨hul, by rw [V_par, hp], hq⟩, fun h => by cases h⟩, fun w => root_B0 a0 a1 a2 a3 s0 s1 s2 s3 t0 t1 t2 t3 m0 m1 m2 m3 FS FT FM E1 i0 i1 i2 i3 u0 u1 u2 u3 k0 k1 k2 k3 FI FU FK E2 (bit0_even h0u hp) w⟩
      · obtain ⟨n0, n1, n2, n3, ⟨hn, hnv⟩, FN⟩ := Sub_fact 0 0 0 0 u0 u1 u2 u3 zero4 hu
        have hodd : V u0 u1 u2 u3 % 2 = 1 := by rw [V_par, hp]
        obtain ⟨k1, k2, k3, k4⟩ := Pl.neg_root hul hodd
        rw [V_zero4, k1] at hnv
        exact ⟨n0, n1, n2, n3, true, ⟨hn, fun _ => by rw [hnv]; exact ⟨k3, k2, by rw [k4]; exact hq⟩, fun h => by cases h⟩, fun w => root_B1 a0 a1 a2 a3 s0 s1 s2 s3 t0 t1 t2 t3 m0 m1 m2 m3 FS FT FM E1 i0 i1 i2 i3 u0 u1 u2 u3 _ _ _ _ FI FU FK E2 (bit0_odd h0u hp) n0 n1 n2 n3 FN w⟩
    · have E2 := eqL_false hk hs hE2
      refine ⟨0, 0, 0, 0, false, ⟨zero4, (fun h => by cases h), (fun _ => ⟨V_zero4, fun x => Pl.root_none hA htv hiv huv ?_ ?_ x⟩)⟩, fun w => root_C a0 a1 a2 a3 s0 s1 s2 s3 t0 t1 t2 t3 m0 m1 m2 m3 FS FT FM E1 i0 i1 i2 i3 u0 u1 u2 u3 k0 k1 k2 k3 FI FU FK E2 w⟩
      · intro h; exact hE (by rw [hmv, hsv]; exact h)
      · intro h; exact hE2 (by rw [hkv, hsv]; exact h)

end Go.Proofs.Ytldnjbpcdojffaa
