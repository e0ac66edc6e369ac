/- @@NUM 25 The walk of law 08's ResidueScalars. Conditions: words are below 2^64. -/
import Derived.Test.YtldnjbpcdojffaaI16
import Derived.Test.YtldnjbpcdojffaaI17
import Derived.Test.YtldnjbpcdojffaaI10
import Derived.Test.YtldnjbpcdojffaaR34
namespace Go.Proofs.Ytldnjbpcdojffaa
set_option linter.unusedVariables false
set_option linter.unusedSimpArgs false
open Go Go.RowKit
open Pl (V V8 W4 T256 le bytesOf)
open Dg (nv dg Ok)

set_option maxHeartbeats 2000000 in
theorem sc_A (n0 n1 n2 n3 m0 m1 m2 m3 : Nat) (sa : Option Addr) (len cap : Nat) (hl1 : (100 : Int) < (len : Int)) (w : World) : Calls Try.prog 11 #[.slice sa len cap, .agg #[.int .u64 n0, .int .u64 n1, .int .u64 n2, .int .u64 n3], .agg #[.int .u64 m0, .int .u64 m1, .int .u64 m2, .int .u64 m3]] w fun e w' => e = .returned (.bool true) ∧ Below w.heap.size w w' := by
  have H0 := Lib.hid awake_fact
  go_enter Try.func11, Try.ntmps11
  go_wp2_with (fail)
  go_at_call 13
  refine (H0.out _).mono ?_
  rintro e wa ⟨rfl, hb⟩
  have HBn : Hid (Below w.heap.size w wa) := Lib.hid ((fun (h : Below _ _ _) => below_call h h.size hb) (by first | go_grown))
  clear hb
  have HB := HBn; clear HBn
  go_wp2_with (fail)
  go_at_call 13
  refine (H0.out _).mono ?_
  rintro e wb ⟨rfl, hb⟩
  have HBn : Hid (Below w.heap.size w wb) := Lib.hid ((fun (h : Below _ _ _) => below_call h h.size hb) (by have hB0 := HB.out; have hS0 := hB0.size; first | (with_reducible exact hB0) | (with_reducible exact set4_below hB0 (by omega) _ _ _ _) | (with_reducible exact set4_below (set4_below hB0 (by omega) _ _ _ _) (by omega) _ _ _ _) | (with_reducible exact set4_below (set4_below (set4_below (set4_below hB0 (by omega) _ _ _ _) (by omega) _ _ _ _) (by omega) _ _ _ _) (by omega) _ _ _ _) | go_grown))
  clear hb HB
  have HB := HBn; clear HBn
  go_wp2
  go_ret
  refine ⟨rfl, ?_⟩
  have hB0 := HB.out; have hS0 := hB0.size; first | exact hB0 | go_grown

theorem pw (k : Nat) (n : Nat) (h : n < 65536 ^ k) (hk : k ≤ 1000) : (dg n).length ≤ 1000 := Nat.le_trans (Dg.dg_length_le h) hk
theorem num_lt (a0 a1 a2 a3 : Nat) (ha : W4 a0 a1 a2 a3) : V a0 a1 a2 a3 < 65536 ^ 16 := Nat.lt_of_lt_of_eq (Pl.V_lt ha) (by decide +kernel)
/-- Mod of a number's digits by the order. -/
theorem mod_order (x : Nat) (hx : (dg x).length ≤ 1000) (sa sb : Value) (w : World) (hA : RdI w.heap.size w sa (dg x)) (hB : RdI w.heap.size w sb orderD) : Calls Try.prog 38 #[sa, sb] w fun e w' => (∃ v, e = .returned v ∧ RdI w'.heap.size w' v (dg (x % Pl.pL))) ∧ Below w.heap.size w w' := by
  have := Mod_fact (dg x) orderD (Dg.dg_ok _) orderD_ok hx (by decide) Pl.pL orderD_v Pl.pL_pos (by decide +kernel) sa sb w hA hB
  rw [Dg.nv_dg, Int.toNat_natCast] at this
  exact this
theorem is_true (a0 a1 a2 a3 : Nat) (ha : W4 a0 a1 a2 a3) (y : Nat) (h : V a0 a1 a2 a3 = y) (sv : Value) (w : World) (hI : RdI w.heap.size w sv (dg y)) : Calls Try.prog 16 #[.agg #[.int .u64 a0, .int .u64 a1, .int .u64 a2, .int .u64 a3], sv] w fun e w' => e = .returned (.bool true) ∧ Below w.heap.size w w' := by
  subst h
  have := is_fact a0 a1 a2 a3 ha (dg (V a0 a1 a2 a3)) (Dg.dg_ok _) (by have := dg_num a0 a1 a2 a3 ha; omega) sv w hI
  rw [Dg.nv_dg, decide_eq_true rfl] at this
  exact this

theorem scalars_fact (n0 n1 n2 n3 m0 m1 m2 m3 : Nat) (hn : W4 n0 n1 n2 n3) (hm : W4 m0 m1 m2 m3) (sa : Option Addr) (len cap : Nat) (zs : List Int) (w : World) (hrow : IsRow .u8 w sa len cap zs) : Calls Try.prog 11 #[.slice sa len cap, .agg #[.int .u64 n0, .int .u64 n1, .int .u64 n2, .int .u64 n3], .agg #[.int .u64 m0, .int .u64 m1, .int .u64 m2, .int .u64 m3]] w fun e w' => e = .returned (.bool true) ∧ Below w.heap.size w w' := by
  by_cases hbig : 100 < len
  · exact sc_A n0 n1 n2 n3 m0 m1 m2 m3 sa len cap (by omega) w
  have ldn := dg_num n0 n1 n2 n3 hn
  have ldm := dg_num m0 m1 m2 m3 hm
  have HRn := Ref_fact n0 n1 n2 n3 hn
  have HRm := Ref_fact m0 m1 m2 m3 hm
  have hN := num_lt n0 n1 n2 n3 hn
  have hM := num_lt m0 m1 m2 m3 hm
  have HP := fun sa sb w hA hB => Plus_fact (dg (V n0 n1 n2 n3)) (dg (V m0 m1 m2 m3)) (Dg.dg_ok _) (Dg.dg_ok _) (by omega) (by omega) sa sb w hA hB
  have HT := fun sa sb w hA hB => Times_fact (dg (V n0 n1 n2 n3)) (dg (V m0 m1 m2 m3)) (Dg.dg_ok _) (Dg.dg_ok _) (by omega) (by omega) sa sb w hA hB
  rw [Dg.nv_dg, Dg.nv_dg, ← Int.natCast_add, Int.toNat_natCast] at HP
  rw [Dg.nv_dg, Dg.nv_dg, ← Int.natCast_mul, Int.toNat_natCast] at HT
  have HM2 := mod_order (V n0 n1 n2 n3 + V m0 m1 m2 m3) (pw 17 _ (by
    have e : (65536 : Nat) ^ 17 = 65536 ^ 16 * 65536 := Nat.pow_succ 65536 16
    rw [e]
    generalize (65536 : Nat) ^ 16 = B at hN hM
    omega) (by omega))
  have HM3 := mod_order (V n0 n1 n2 n3 * V m0 m1 m2 m3) (pw 32 _ (by
    have e : (65536 : Nat) ^ 32 = 65536 ^ 16 * 65536 ^ 16 := (Nat.pow_add 65536 16 16)
    rw [e]
    exact Nat.mul_lt_mul'' hN hM) (by omega))
  obtain ⟨s0, s1, s2, s3, ⟨hs, hsv⟩, HSA⟩ := ScalarAdd_fact n0 n1 n2 n3 m0 m1 m2 m3 hn hm
  obtain ⟨t0, t1, t2, t3, ⟨ht, htv⟩, HSM⟩ := ScalarMul_fact n0 n1 n2 n3 m0 m1 m2 m3 hn hm
  have HI2 := is_true s0 s1 s2 s3 hs _ hsv
  have HI3 := is_true t0 t1 t2 t3 ht _ htv
  by_cases h1 : len < 1
  · obtain ⟨y, hy, HZ0⟩ := zero_fact 0 0 0 0
    obtain rfl : y = true := hy.2 (by unfold V; omega)
    exact sc_B1 n0 n1 n2 n3 m0 m1 m2 m3 0 0 0 0 s0 s1 s2 s3 t0 t1 t2 t3 [] _ _ [] [] _ _ _ _ sa len cap w awake_fact HRn HRm HP HT HM2 HM3 HI2 HI3 HSA HSM (Scalar_bad sa len cap (by omega) (.inl h1)) HZ0 (by omega) (by omega)
  · by_cases h2 : 64 < len
    · obtain ⟨y, hy, HZ0⟩ := zero_fact 0 0 0 0
      obtain rfl : y = true := hy.2 (by unfold V; omega)
      exact sc_B2 n0 n1 n2 n3 m0 m1 m2 m3 0 0 0 0 s0 s1 s2 s3 t0 t1 t2 t3 [] _ _ [] [] _ _ _ _ sa len cap w awake_fact HRn HRm HP HT HM2 HM3 HI2 HI3 HSA HSM (Scalar_bad sa len cap (by omega) (.inr h2)) HZ0 (by omega) (by omega) (by omega)
    · obtain ⟨bs, hbl, hbs, hI⟩ := bts_row hrow (by omega)
      obtain ⟨x0, x1, x2, x3, ⟨hx, hxv⟩, HOf⟩ := Scalar_fact bs (fun j hj => by rw [List.getElem?_eq_getElem hj, Option.getD_some]; exact hbs _ (List.getElem_mem hj)) (by omega) (by omega)
      have HROf := fun sv w hI => ROf_fact bs hbs (by omega) sv w hI
      have HM1 := mod_order (le bs) (pw 128 _ (by
        have h := Pl.le_lt bs hbs
        have e : (65536 : Nat) ^ 128 = 256 ^ 256 := by rw [show (65536 : Nat) = 256 ^ 2 from rfl, ← Nat.pow_mul]
        rw [e]
        exact Nat.lt_of_lt_of_le h (Nat.pow_le_pow_right (by decide) (by omega))) (by omega))
      exact sc_C n0 n1 n2 n3 m0 m1 m2 m3 x0 x1 x2 x3 s0 s1 s2 s3 t0 t1 t2 t3 bs _ _ _ _ _ _ _ _ sa len cap w awake_fact HRn HRm HP HT HM2 HM3 HI2 HI3 HSA HSM hI (by omega) (by omega) (by omega) HOf HROf HM1 (is_true x0 x1 x2 x3 hx _ hxv)

end Go.Proofs.Ytldnjbpcdojffaa
