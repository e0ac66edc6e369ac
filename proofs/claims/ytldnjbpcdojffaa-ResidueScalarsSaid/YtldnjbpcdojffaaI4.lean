/- @@NUM 25 The walks of law 08's is, and of the document's Bytes. Conditions: words are below 2^64. -/
import Derived.Test.YtldnjbpcdojffaaI3
namespace Go.Proofs.Ytldnjbpcdojffaa
set_option linter.unusedVariables false
set_option linter.unusedSimpArgs false
open Go Go.RowKit
open Pl (V W4 T256 byteAt bytesOf)
open Dg (nv dg Ok Cn)

set_option maxHeartbeats 2000000 in
theorem is_fact (a0 a1 a2 a3 : Nat) (ha : W4 a0 a1 a2 a3) (us : List Int) (hu : Ok us) (hl : us.length ≤ 1048576) (sv : Value) (w : World) (hI : RdI w.heap.size w sv us) : Calls Try.prog 16 #[.agg #[.int .u64 a0, .int .u64 a1, .int .u64 a2, .int .u64 a3], sv] w fun e w' => e = .returned (.bool (decide ((V a0 a1 a2 a3 : Int) = nv us))) ∧ Below w.heap.size w w' := by
  have HR := Lib.hid (Ref_fact a0 a1 a2 a3 ha)
  have hdl : (dg (V a0 a1 a2 a3)).length ≤ 16 := Dg.dg_length_le (by have h := Pl.V_lt ha; exact Nat.lt_of_lt_of_eq h (by decide +kernel))
  have HS := Lib.hid (Same_fact (dg (V a0 a1 a2 a3)) us (Dg.dg_ok _) hu (by omega) hl)
  rw [Dg.nv_dg] at HS
  obtain ⟨N, hN⟩ : ∃ N, V a0 a1 a2 a3 = N := ⟨_, rfl⟩
  rw [hN] at HS HR ⊢
  obtain ⟨z, hz⟩ : ∃ z, decide ((N : Int) = nv us) = z := ⟨_, rfl⟩
  rw [hz] at HS ⊢
  have HI := Lib.hid hI
  clear hI hz hN hdl hl hu ha
  obtain ⟨sa, c2, rfl⟩ := HI.out.some
  go_enter Try.func16, Try.ntmps16
  go_wp2_with (fail)
  go_at_call 20
  refine (HR.out _).mono ?_
  rintro e wa ⟨⟨v, rfl, hv⟩, hb1⟩
  have hI2 : RdI wa.heap.size wa (.slice sa us.length c2) us := by
    have h1 := HI.out.next ((Below.refl w.heap.size w).alloc (Nat.le_refl _) (.cells #[.int .u64 a0, .int .u64 a1, .int .u64 a2, .int .u64 a3] 25))
    exact h1.next hb1
  have hB1 : Below w.heap.size w wa := ((Below.refl w.heap.size w).alloc (Nat.le_refl _) _).trans (hb1.mono (by simp))
  have HI2 := Lib.hid hI2; have HV := Lib.hid hv; have HB := Lib.hid hB1
  clear hI2 hv hB1 hb1
  obtain ⟨sb, c1, e1⟩ := HV.out.some
  subst e1
  go_wp2_with (fail)
  go_at_call 43
  refine (HS.out _ _ _ HV.out HI2.out).mono ?_
  rintro e wb ⟨rfl, hb2⟩
  have HBX := Lib.hid (below_call HB.out HB.out.size hb2)
  clear hb2
  go_wp2
  go_ret
  exact ⟨rfl, HBX.out⟩

theorem dg_get (N i : Nat) : (dg N)[i]?.getD 0 = ((N / 65536 ^ i % 65536 : Nat) : Int) := by
  induction i generalizing N with
  | zero =>
    by_cases h : N = 0
    · subst h; rw [Dg.dg_zero]; simp
    · rw [Dg.dg_pos h]; simp
  | succ i ih =>
    by_cases h : N = 0
    · subst h; rw [Dg.dg_zero]; simp
    · rw [Dg.dg_pos h, List.getElem?_cons_succ, ih, Nat.pow_succ', ← Nat.div_div_eq_div_mul]
theorem byte_digit {N i q r : Nat} (hi : i = 2 * q + r) (hr : r < 2) : byteAt N i = N / 65536 ^ q % 65536 / 256 ^ r % 256 := by
  have h64 : (65536 : Nat) = 256 ^ 2 := by decide
  have e1 : (256 : Nat) ^ 2 = 256 ^ r * 256 ^ (2 - r) := by rw [← Nat.pow_add]; congr 1; omega
  have e3 : (256 : Nat) ∣ 256 ^ (2 - r) := ⟨256 ^ (1 - r), by rw [← Nat.pow_succ']; congr 1; omega⟩
  unfold byteAt
  rw [hi, h64, Nat.pow_add, Nat.pow_mul, ← Nat.div_div_eq_div_mul]
  generalize N / (256 ^ 2) ^ q = M
  rw [e1, Nat.mod_mul_right_div_self, Nat.mod_mod_of_dvd _ e3]

set_option maxHeartbeats 8000000 in
theorem RBytes_fact (N : Nat) (sv : Value) (w : World) (hl : (dg N).length ≤ 1048576) (hI : RdI w.heap.size w sv (dg N)) : Calls Try.prog 19 #[sv] w fun e w' => (∃ v, e = .returned v ∧ w'.ownsRow w.heap.size 5 1 v 32 (u8s (bytesOf 32 N))) ∧ Below w.heap.size w w' := by
  obtain ⟨i0, hi, hz0, hz1, hz2⟩ := info_parts info_u8
  have hget : ∀ j, (dg N)[j]?.getD 0 = ((N / 65536 ^ j % 65536 : Nat) : Int) := dg_get N
  generalize dg N = zs at *
  have HG := Lib.hid hget
  have HI := Lib.hid hI
  clear hget hI
  obtain ⟨a1, c1, rfl⟩ := HI.out.some
  go_enter Try.func19, Try.ntmps19
  go_wp2
  go_loopg [3, 4] 32 (fun kq v3 v4 wr => ∃ k : Nat, v4 = .int .i64 k ∧ Hid (kq + k = 32) ∧ Hid (wr.ownsRow w.heap.size 5 1 v3 k (u8s (bytesOf k N))) ∧ Hid (Below w.heap.size w wr))
  case atStart => exact ⟨0, rfl, rfl, World.ownsRow_nil _ _ _ _, Below.refl _ _⟩
  case round =>
    obtain ⟨k, rfl, HK, HR, HB⟩ := hrel
    rcases gk with _ | kq
    · obtain rfl : k = 32 := by have := HK.out; omega
      go_wp2
      go_ret
      exact ⟨⟨_, rfl, HR.out⟩, HB.out⟩
    · have hk : k < 32 := by have := HK.out; omega
      have hown := HR.out
      have hb := HB.out
      have hlt := hown.lt
      obtain ⟨d, hd⟩ : ∃ d, N / 65536 ^ (k / 2) % 65536 = d := ⟨_, rfl⟩
      have hdl : d < 65536 := by rw [← hd]; exact Nat.mod_lt _ (by decide)
      have fin : ∀ (v' : Value) (w1 : World) (m : Nat), m = byteAt N k → w1.ownsRow w.heap.size 5 1 v' (k + 1) (u8s (bytesOf k N) ++ [.int .u8 (m : Int)]) → Hid (w1.ownsRow w.heap.size 5 1 v' (k + 1) (u8s (bytesOf (k + 1) N))) := fun v' w1 m hm h => by
        rw [Pl.bytesOf_succ, u8s_append, ← hm]; exact h
      by_cases hin : k / 2 < zs.length
      · have hcell : ∃ x, a1 = some x ∧ wr.cell? (x.add (k / 2)) = some (.int .i64 (d : Int)) := by
          rcases HI.out with ⟨e, h0⟩ | ⟨x, cap, e, _, hxb, hc⟩
          · rw [h0] at hin; simp at hin
          · injection e with e1 e2 e3
            refine ⟨x, e1, ?_⟩
            rw [hb.cell (p := x.add (k / 2)) (by rw [add_block]; exact hxb), hc _ hin, HG.out, hd]
        obtain ⟨x, rfl, hcx⟩ := hcell
        have hin2 : ((k : Int) / 2) < (zs.length : Int) := by omega
        have HD := Lib.hid hd
        clear hd
        rcases Nat.mod_two_eq_zero_or_one k with hp | hp
        · have hp1 : ((k : Int) % 2) = 0 := by omega
          obtain ⟨m, hm⟩ : ∃ m, d % 256 = m := ⟨_, rfl⟩
          have hm1 : (d : Int).tmod 256 = (m : Int) := by rw [Int.tmod_eq_emod_of_nonneg (by omega)]; omega
          have hm2 : (d : Int) % 256 = (m : Int) := by omega
          have hw : IntKind.u8.wrap (m : Int) = (m : Int) := by rw [IntKind.wrap_u8]; omega
          have HM : Hid (m = byteAt N k) := by
            show m = byteAt N k
            rw [byte_digit (q := k / 2) (r := 0) (by omega) (by omega), HD.out, ← hm] <;> simp
          clear hm
          go_wp2_with (at_builtin; refine wpList_append_own _ rfl _ _ 22 rfl w.heap.size 5 i0 (.int .u8 0) 1 1 Try.underlying22 hi hz0 hz1 hz2 rfl (by decide) _ _ _ rfl (hown.alloc _) ⟨wr.heap.size, 0, none⟩ 1 1 [.int .u8 (m : Int)] rfl rfl (cell_one_new _ _ _) (fun x hx => by simp at hx; subst hx; rfl) (by unfold maxLen; omega) (by omega) (by have := hb.size; simp; omega) ?_; intro v' w1 hown' hgrow hnil)
          go_roundg kq
          case measure => exact Nat.lt_succ_self kq
          case rel =>
            exact ⟨k + 1, by simp, (by have := HK.out; omega : kq + (k + 1) = 32), fin _ _ _ HM.out hown', (hb.alloc hb.size _).grown hgrow (by have := hb.size; simp; omega) (fun j e => (hlt _ e).1)⟩
        · have hp1 : ((k : Int) % 2) = 1 := by omega
          obtain ⟨q, hq⟩ : ∃ q, d / 256 = q := ⟨_, rfl⟩
          have hq1 : (d : Int).tdiv 256 = (q : Int) := by rw [Int.tdiv_eq_ediv_of_nonneg (by omega)]; omega
          have hq2 : (d : Int) / 256 = (q : Int) := by omega
          obtain ⟨m, hm⟩ : ∃ m, q % 256 = m := ⟨_, rfl⟩
          have hm1 : (q : Int).tmod 256 = (m : Int) := by rw [Int.tmod_eq_emod_of_nonneg (by omega)]; omega
          have hm2 : (q : Int) % 256 = (m : Int) := by omega
          have hw : IntKind.u8.wrap (m : Int) = (m : Int) := by rw [IntKind.wrap_u8]; omega
          have HM : Hid (m = byteAt N k) := by
            show m = byteAt N k
            rw [byte_digit (q := k / 2) (r := 1) (by omega) (by omega), HD.out, ← hm, ← hq] <;> simp
          clear hm hq
          go_wp2_with (at_builtin; refine wpList_append_own _ rfl _ _ 22 rfl w.heap.size 5 i0 (.int .u8 0) 1 1 Try.underlying22 hi hz0 hz1 hz2 rfl (by decide) _ _ _ rfl (hown.alloc _) ⟨wr.heap.size, 0, none⟩ 1 1 [.int .u8 (m : Int)] rfl rfl (cell_one_new _ _ _) (fun x hx => by simp at hx; subst hx; rfl) (by unfold maxLen; omega) (by omega) (by have := hb.size; simp; omega) ?_; intro v' w1 hown' hgrow hnil)
          go_roundg kq
          case measure => exact Nat.lt_succ_self kq
          case rel =>
            exact ⟨k + 1, by simp, (by have := HK.out; omega : kq + (k + 1) = 32), fin _ _ _ HM.out hown', (hb.alloc hb.size _).grown hgrow (by have := hb.size; simp; omega) (fun j e => (hlt _ e).1)⟩
      · have hd0 : d = 0 := by
          have h := HG.out (k / 2)
          rw [List.getElem?_eq_none (by omega), Option.getD_none, hd] at h
          omega
        have hin2 : ¬ ((k : Int) / 2) < (zs.length : Int) := by omega
        have HM : Hid (0 = byteAt N k) := by
          show 0 = byteAt N k
          rw [byte_digit (q := k / 2) (r := k % 2) (by omega) (Nat.mod_lt _ (by omega)), hd, hd0, Nat.zero_div]
        clear hd hd0
        rcases Nat.mod_two_eq_zero_or_one k with hp | hp
        · have hp1 : ((k : Int) % 2) = 0 := by omega
          go_wp2_with (at_builtin; refine wpList_append_own _ rfl _ _ 22 rfl w.heap.size 5 i0 (.int .u8 0) 1 1 Try.underlying22 hi hz0 hz1 hz2 rfl (by decide) _ _ _ rfl (hown.alloc _) ⟨wr.heap.size, 0, none⟩ 1 1 [.int .u8 0] rfl rfl (cell_one_new _ _ _) (fun x hx => by simp at hx; subst hx; rfl) (by unfold maxLen; omega) (by omega) (by have := hb.size; simp; omega) ?_; intro v' w1 hown' hgrow hnil)
          go_roundg kq
          case measure => exact Nat.lt_succ_self kq
          case rel =>
            exact ⟨k + 1, by simp, (by have := HK.out; omega : kq + (k + 1) = 32), fin _ _ _ HM.out hown', (hb.alloc hb.size _).grown hgrow (by have := hb.size; simp; omega) (fun j e => (hlt _ e).1)⟩
        · have hp1 : ((k : Int) % 2) = 1 := by omega
          go_wp2_with (at_builtin; refine wpList_append_own _ rfl _ _ 22 rfl w.heap.size 5 i0 (.int .u8 0) 1 1 Try.underlying22 hi hz0 hz1 hz2 rfl (by decide) _ _ _ rfl (hown.alloc _) ⟨wr.heap.size, 0, none⟩ 1 1 [.int .u8 0] rfl rfl (cell_one_new _ _ _) (fun x hx => by simp at hx; subst hx; rfl) (by unfold maxLen; omega) (by omega) (by have := hb.size; simp; omega) ?_; intro v' w1 hown' hgrow hnil)
          go_roundg kq
          case measure => exact Nat.lt_succ_self kq
          case rel =>
            exact ⟨k + 1, by simp, (by have := HK.out; omega : kq + (k + 1) = 32), fin _ _ _ HM.out hown', (hb.alloc hb.size _).grown hgrow (by have := hb.size; simp; omega) (fun j e => (hlt _ e).1)⟩

end Go.Proofs.Ytldnjbpcdojffaa
