/- @@NUM 25 The walk of law 08's ResidueBytes. Conditions: words are below 2^64. -/
import Derived.Test.YtldnjbpcdojffaaI7
import Derived.Test.YtldnjbpcdojffaaI8
import Derived.Test.YtldnjbpcdojffaaI9
import Derived.Test.YtldnjbpcdojffaaR9
import Derived.Test.YtldnjbpcdojffaaLaw
namespace Go.Proofs.Ytldnjbpcdojffaa
set_option linter.unusedVariables false
set_option linter.unusedSimpArgs false
open Go Go.RowKit
open Pl (V V8 W4 T256 le bytesOf)
open Dg (nv dg Ok)

set_option maxHeartbeats 2000000 in
theorem rb_A (n0 n1 n2 n3 m0 m1 m2 m3 : Nat) (sa : Option Addr) (len cap : Nat) (hl1 : (100 : Int) < (len : Int)) (w : World) : Calls Try.prog 3 #[.slice sa len cap, .agg #[.int .u64 n0, .int .u64 n1, .int .u64 n2, .int .u64 n3], .agg #[.int .u64 m0, .int .u64 m1, .int .u64 m2, .int .u64 m3]] w fun e w' => e = .returned (.bool true) ∧ Below w.heap.size w w' := by
  have H0 := Lib.hid awake_fact
  go_enter Try.func3, Try.ntmps3
  go_wp2_with (fail)
  go_at_call 13
  refine (H0.out _).mono ?_
  rintro e wa ⟨rfl, hb⟩
  have HBn : Hid (Below w.heap.size w wa) := Lib.hid ((fun (h : Below _ _ _) => below_call h h.size hb) (by first | go_grown))
  clear hb
  have HB := HBn; clear HBn
  go_wp2_with (fail)
  go_at_call 13
  refine (H0.out _).mono ?_
  rintro e wb ⟨rfl, hb⟩
  have HBn : Hid (Below w.heap.size w wb) := Lib.hid ((fun (h : Below _ _ _) => below_call h h.size hb) (by have hB0 := HB.out; have hS0 := hB0.size; first | (with_reducible exact hB0) | (with_reducible exact set4_below hB0 (by omega) _ _ _ _) | (with_reducible exact set4_below (set4_below hB0 (by omega) _ _ _ _) (by omega) _ _ _ _) | (with_reducible exact set4_below (set4_below (set4_below (set4_below hB0 (by omega) _ _ _ _) (by omega) _ _ _ _) (by omega) _ _ _ _) (by omega) _ _ _ _) | go_grown))
  clear hb HB
  have HB := HBn; clear HBn
  go_wp2
  go_ret
  refine ⟨rfl, ?_⟩
  have hB0 := HB.out; have hS0 := hB0.size; first | exact hB0 | go_grown

theorem bts_row {w : World} {a : Option Addr} {len cap : Nat} {zs : List Int} (h : IsRow .u8 w a len cap zs) (hl : 0 < len) : ∃ bs : List Nat, bs.length = len ∧ (∀ x ∈ bs, x < 256) ∧ Bts w.heap.size w (.slice a len cap) bs := by
  rcases h with ⟨rfl, rfl, rfl, rfl⟩ | ⟨x, rfl, hlc, hcm, hzl, hcell, hwf⟩
  · omega
  · have hb : ∀ i, i < zs.length → 0 ≤ zs.getD i 0 ∧ zs.getD i 0 < 256 := fun i hi => by
      have h1 := hwf _ (List.getElem_mem hi)
      have h2 := bounds_u8 h1
      have e : zs.getD i 0 = zs[i] := by simp [hi]
      rw [e]; omega
    refine ⟨(List.range len).map fun i => (zs.getD i 0).toNat, by simp, fun y hy => ?_, .inr ⟨x, cap, by simp, ?_, fun j hj => ?_⟩⟩
    · simp only [List.mem_map, List.mem_range] at hy
      obtain ⟨i, hi, rfl⟩ := hy
      have := hb i (by omega)
      omega
    · have h1 := hcell 0 (by omega)
      have h2 := World.block_lt_of_cell? w _ h1
      rw [add_block] at h2
      exact h2
    · have hj' : j < len := by simpa using hj
      rw [hcell j (by omega)]
      have := hb j (by omega)
      simp only [List.getElem?_map, List.getElem?_range hj', Option.map_some, Option.getD_some]
      rw [show (((zs.getD j 0).toNat : Nat) : Int) = zs.getD j 0 by omega]

theorem rbytes_fact (n0 n1 n2 n3 m0 m1 m2 m3 : Nat) (hn : W4 n0 n1 n2 n3) (hm : W4 m0 m1 m2 m3) (sa : Option Addr) (len cap : Nat) (zs : List Int) (w : World) (hrow : IsRow .u8 w sa len cap zs) : Calls Try.prog 3 #[.slice sa len cap, .agg #[.int .u64 n0, .int .u64 n1, .int .u64 n2, .int .u64 n3], .agg #[.int .u64 m0, .int .u64 m1, .int .u64 m2, .int .u64 m3]] w fun e w' => e = .returned (.bool true) ∧ Below w.heap.size w w' := by
  by_cases hbig : 100 < len
  · exact rb_A n0 n1 n2 n3 m0 m1 m2 m3 sa len cap (by omega) w
  have ldn := dg_num n0 n1 n2 n3 hn
  have ldm := dg_num m0 m1 m2 m3 hm
  have HBn := Bytes_bt n0 n1 n2 n3 hn
  have HRn := Ref_fact n0 n1 n2 n3 hn
  have HRm := Ref_fact m0 m1 m2 m3 hm
  have HRB := RBytes_bt (V n0 n1 n2 n3) (by omega)
  obtain ⟨z1, hz1, HL⟩ := less_fact n0 n1 n2 n3 m0 m1 m2 m3 hn hm
  have HRL := fun sa sb w hA hB => Less_fact (dg (V n0 n1 n2 n3)) (dg (V m0 m1 m2 m3)) (Dg.dg_ok _) (Dg.dg_ok _) (by omega) (by omega) sa sb w hA hB
  have hz : decide (nv (dg (V n0 n1 n2 n3)) < nv (dg (V m0 m1 m2 m3))) = z1 := by
    rw [Dg.nv_dg, Dg.nv_dg]
    cases z1
    · exact decide_eq_false (fun h => by have := hz1.2 (by omega); cases this)
    · exact decide_eq_true (by have := hz1.1 rfl; omega)
  rw [hz] at HRL
  obtain ⟨z2, hz2, HZ⟩ := zero_fact n0 n1 n2 n3
  have hL : (z2 = true → (dg (V n0 n1 n2 n3)).length = 0) ∧ (z2 = false → ¬ (dg (V n0 n1 n2 n3)).length = 0) := by
    refine ⟨fun h => ?_, fun h e => ?_⟩
    · rw [hz2.1 h, Dg.dg_zero]; rfl
    · have := hz2.2 (dg_nil e)
      rw [h] at this; cases this
  have hnil : ∀ l : List Int, (l.length = 0 → l = []) ∧ (¬ l.length = 0 → ¬ l = []) := fun l => ⟨List.eq_nil_of_length_eq_zero, fun h e => h (by rw [e]; rfl)⟩
  by_cases h32 : len = 32
  · subst h32
    obtain ⟨bs, hbl, hbs, hI⟩ := bts_row hrow (by omega)
    obtain ⟨x0, x1, x2, x3, ⟨hx, hxv⟩, HOf⟩ := Of_fact bs hbs hbl
    have HROf := fun sv w hI => ROf_fact bs hbs (by omega) sv w hI
    have hll : (dg (le bs)).length ≤ 16 := by rw [← hxv]; exact dg_num _ _ _ _ hx
    have His := fun sv w hI => is_fact x0 x1 x2 x3 hx (dg (le bs)) (Dg.dg_ok _) (by omega) sv w hI
    rw [Dg.nv_dg, decide_eq_true (show (V x0 x1 x2 x3 : Int) = (le bs : Int) by rw [hxv])] at His
    have HBx := Bytes_bt x0 x1 x2 x3 hx
    rw [hxv, show bytesOf 32 (le bs) = bs by rw [← hbl]; exact Pl.bytesOf_le bs hbs] at HBx
    cases z2
    · have h1 := hL.2 rfl
      exact rb_C0 n0 n1 n2 n3 m0 m1 m2 m3 x0 x1 x2 x3 bs _ _ _ _ z1 sa cap awake_fact HBn HRn HRm HRB HL HRL HZ h1 ((hnil _).2 h1) w hI HOf HROf His HBx
    · have h1 := hL.1 rfl
      exact rb_C1 n0 n1 n2 n3 m0 m1 m2 m3 x0 x1 x2 x3 bs _ _ _ _ z1 sa cap awake_fact HBn HRn HRm HRB HL HRL HZ h1 ((hnil _).1 h1) w hI HOf HROf His HBx
  · have HOf := Of_bad sa len cap (by omega) h32
    obtain ⟨y, hy, HZ0⟩ := zero_fact 0 0 0 0
    obtain rfl : y = true := hy.2 (by unfold V; omega)
    cases z2
    · have h1 := hL.2 rfl
      exact rb_B0 n0 n1 n2 n3 m0 m1 m2 m3 0 0 0 0 [] _ _ _ [] z1 sa len cap awake_fact HBn HRn HRm HRB HL HRL HZ h1 ((hnil _).2 h1) w HOf HZ0 (by omega) (by omega)
    · have h1 := hL.1 rfl
      exact rb_B1 n0 n1 n2 n3 m0 m1 m2 m3 0 0 0 0 [] _ _ _ [] z1 sa len cap awake_fact HBn HRn HRm HRB HL HRL HZ h1 ((hnil _).1 h1) w HOf HZ0 (by omega) (by omega)

end Go.Proofs.Ytldnjbpcdojffaa
