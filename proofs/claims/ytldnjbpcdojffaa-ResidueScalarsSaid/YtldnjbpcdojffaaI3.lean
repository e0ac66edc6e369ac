/- @@NUM 25 The walks of law 08's Ref and is: a number as digits. Conditions: words are below 2^64. -/
import Derived.Test.YtldnjbpcdojffaaI2
namespace Go.Proofs.Ytldnjbpcdojffaa
set_option linter.unusedVariables false
set_option linter.unusedSimpArgs false
open Go Go.RowKit
open Pl (V W4 T256)
open Dg (nv dg Ok Cn)

def dgs (n N : Nat) : List Int := (List.range n).map fun i => ((N / 65536 ^ i % 65536 : Nat) : Int)
theorem dgs_length (n N : Nat) : (dgs n N).length = n := by simp [dgs]
theorem dgs_succ (n N : Nat) : dgs (n + 1) N = dgs n N ++ [((N / 65536 ^ n % 65536 : Nat) : Int)] := by simp [dgs, List.range_succ]
theorem dgs_ok (n N : Nat) : Ok (dgs n N) := by
  intro x hx
  simp only [dgs, List.mem_map] at hx
  obtain ⟨i, _, rfl⟩ := hx
  omega
theorem nv_dgs (n N : Nat) : nv (dgs n N) = ((N % 65536 ^ n : Nat) : Int) := by
  induction n with
  | zero => simp [dgs, nv, Nat.mod_one]
  | succ n ih =>
    rw [dgs_succ, Dg.nv_snoc, ih, dgs_length, Nat.pow_succ, Nat.mod_mul]
    have e := Int.natCast_pow 65536 n
    rw [Int.natCast_add, Int.natCast_mul, e]
    rfl
/-- Whole numbers as values. -/
def i64s (l : List Int) : List Value := l.map fun z => .int .i64 z
theorem i64s_append (a b : List Int) : i64s (a ++ b) = i64s a ++ i64s b := by simp [i64s]
theorem i64s_length (a : List Int) : (i64s a).length = a.length := by simp [i64s]
theorem info_i64 : (Try.prog.info? 3).map (fun i => (i.zero, i.size, i.bytes)) = some (some (.int .i64 0), 1, 8) := by kernel_rfl
theorem rdi_owned {w : World} {n : Nat} {v : Value} {zs : List Int} (h : w.ownsRow n 3 1 v zs.length (i64s zs)) : RdI w.heap.size w v zs := by
  obtain ⟨h1, h2⟩ := h
  rcases h2 with ⟨rfl, h0⟩ | ⟨g, cap, cur, rfl, hb, hh, hle, hm, hs, ht⟩
  · exact .inl ⟨rfl, by simpa using h0⟩
  · refine .inr ⟨⟨g, 0, none⟩, cap, rfl, hle, (Array.getElem?_eq_some_iff.1 hh).1, fun j hj => ?_⟩
    have e : ((⟨g, 0, none⟩ : Addr).add j).block = g := add_block _ _
    have e2 : ((⟨g, 0, none⟩ : Addr).add j).off = j := by unfold Addr.add; split <;> simp_all
    have e4 : ((⟨g, 0, none⟩ : Addr).add j).spot = none := by unfold Addr.add; split <;> rfl
    have h3 : cur[j]? = some (.int .i64 (zs[j]?.getD 0)) := by
      have h4 : (cur.toList.take (zs.length * 1))[j]? = (i64s zs)[j]? := by rw [ht]
      rw [List.getElem?_take_of_lt (by omega)] at h4
      simp only [i64s, List.getElem?_map, List.getElem?_eq_getElem hj, Option.map_some] at h4
      rw [List.getElem?_eq_getElem hj, Option.getD_some, ← h4]
      simp
    simp only [World.cell?, e, e2, hh]
    simpa [e4] using h3

theorem num0 (a b c d : Int) (w : World) : (Instr.index 25 (.agg #[.int .u64 a, .int .u64 b, .int .u64 c, .int .u64 d]) (.int .i64 0)).run Try.prog w = .ok (.int .u64 a) w := by kernel_rfl
theorem num1 (a b c d : Int) (w : World) : (Instr.index 25 (.agg #[.int .u64 a, .int .u64 b, .int .u64 c, .int .u64 d]) (.int .i64 1)).run Try.prog w = .ok (.int .u64 b) w := by kernel_rfl
theorem num2 (a b c d : Int) (w : World) : (Instr.index 25 (.agg #[.int .u64 a, .int .u64 b, .int .u64 c, .int .u64 d]) (.int .i64 2)).run Try.prog w = .ok (.int .u64 c) w := by kernel_rfl
theorem num3 (a b c d : Int) (w : World) : (Instr.index 25 (.agg #[.int .u64 a, .int .u64 b, .int .u64 c, .int .u64 d]) (.int .i64 3)).run Try.prog w = .ok (.int .u64 d) w := by kernel_rfl
theorem num_at (a0 a1 a2 a3 : Nat) (ha : W4 a0 a1 a2 a3) (k : Nat) (hk : k < 4) : ∃ x : Nat, x < 18446744073709551616 ∧ x = V a0 a1 a2 a3 / 18446744073709551616 ^ k % 18446744073709551616 ∧ ∀ w, (Instr.index 25 (.agg #[.int .u64 a0, .int .u64 a1, .int .u64 a2, .int .u64 a3]) (.int .i64 (k : Int))).run Try.prog w = .ok (.int .u64 (x : Int)) w := by
  unfold W4 at ha
  unfold V
  rcases (show k = 0 ∨ k = 1 ∨ k = 2 ∨ k = 3 by omega) with rfl | rfl | rfl | rfl
  · exact ⟨a0, by omega, by simp only [Nat.reducePow]; omega, num0 _ _ _ _⟩
  · exact ⟨a1, by omega, by simp only [Nat.reducePow]; omega, num1 _ _ _ _⟩
  · exact ⟨a2, by omega, by simp only [Nat.reducePow]; omega, num2 _ _ _ _⟩
  · exact ⟨a3, by omega, by simp only [Nat.reducePow]; omega, num3 _ _ _ _⟩
theorem digit_word {N k j x : Nat} (hj : j < 4) (hx : x = N / 18446744073709551616 ^ k % 18446744073709551616) : x / 65536 ^ j % 65536 = N / 65536 ^ (4 * k + j) % 65536 := by
  have h64 : (18446744073709551616 : Nat) = 65536 ^ 4 := by decide
  have e1 : (65536 : Nat) ^ 4 = 65536 ^ j * 65536 ^ (4 - j) := by rw [← Nat.pow_add]; congr 1; omega
  have e3 : (65536 : Nat) ∣ 65536 ^ (4 - j) := ⟨65536 ^ (3 - j), by rw [← Nat.pow_succ']; congr 1; omega⟩
  rw [hx, h64, Nat.pow_add, Nat.pow_mul, ← Nat.div_div_eq_div_mul]
  generalize N / (65536 ^ 4) ^ k = M
  rw [e1, Nat.mod_mul_right_div_self, Nat.mod_mod_of_dvd _ e3]

set_option maxHeartbeats 8000000 in
theorem Ref_fact (a0 a1 a2 a3 : Nat) (ha : W4 a0 a1 a2 a3) (w : World) : Calls Try.prog 20 #[.agg #[.int .u64 a0, .int .u64 a1, .int .u64 a2, .int .u64 a3]] w fun e w' => (∃ v, e = .returned v ∧ RdI w'.heap.size w' v (dg (V a0 a1 a2 a3))) ∧ Below w.heap.size w w' := by
  obtain ⟨i0, hi, hz0, hz1, hz2⟩ := info_parts info_i64
  obtain ⟨N, hN⟩ : ∃ N, V a0 a1 a2 a3 = N := ⟨_, rfl⟩
  have hNl : N < 65536 ^ 16 := by rw [← hN]; exact Nat.lt_of_lt_of_eq (Pl.V_lt ha) (by decide +kernel)
  rw [hN]
  have T := Lib.hid (Trim_fact (dgs 16 N) (dgs_ok _ _) (by rw [dgs_length]; omega))
  rw [nv_dgs, Nat.mod_eq_of_lt hNl, Int.toNat_natCast] at T
  have HA := Lib.hid ha; have HN := Lib.hid hN
  clear ha hN hNl
  go_enter Try.func20, Try.ntmps20
  go_wp2
  go_loopg [3, 7] 4 (fun kq v3 v7 wr => ∃ k : Nat, v7 = .int .i64 k ∧ Hid (kq + k = 4) ∧ Hid (wr.ownsRow (w.heap.size + 1) 3 1 v3 (4 * k) (i64s (dgs (4 * k) N))) ∧ Hid (Below w.heap.size w wr) ∧ Hid (w.heap.size < wr.heap.size))
  case atStart => exact ⟨0, rfl, rfl, World.ownsRow_nil _ _ _ _, (Below.refl _ w).alloc (Nat.le_refl _) _, (by simp : w.heap.size < (World.alloc _ _).heap.size)⟩
  case round =>
    obtain ⟨k, rfl, HK, HR, HB, HS⟩ := hrel
    rcases gk with _ | kq
    · obtain rfl : k = 4 := by have := HK.out; omega
      have h1 := HR.out
      have hrd : RdI wr.heap.size wr u3 (dgs 16 N) := by
        refine rdi_owned (n := w.heap.size + 1) ?_
        rw [dgs_length]; exact h1
      obtain ⟨x1, c1, e1⟩ := hrd.some
      subst e1
      have HRD := Lib.hid hrd
      clear hrd h1 HR
      go_wp2_with (fail)
      go_at_call 44
      refine (T.out _ _ HRD.out).mono ?_
      rintro e wa ⟨⟨v, rfl, hv⟩, hb1⟩
      have HV := Lib.hid hv
      have HBX := Lib.hid (below_call HB.out HB.out.size hb1)
      clear hv hb1
      go_wp2
      go_ret
      exact ⟨⟨_, rfl, HV.out⟩, HBX.out⟩
    · have hk : k < 4 := by have := HK.out; omega
      obtain ⟨x, hx, hxv, hidx⟩ := num_at a0 a1 a2 a3 HA.out k hk
      rw [HN.out] at hxv
      have HXV := Lib.hid hxv; have HX := Lib.hid hx
      clear hxv hx
      have hk4 : decide ((k : Int) < 4) = true := decide_eq_true (by omega)
      go_wp2
      try simp only [hk4]
      clear hk4
      go_loopg [3, 5, 10] 4 (fun kj v3 v5 v10 wr2 => ∃ j y : Nat, v10 = .int .i64 j ∧ Hid (kj + j = 4) ∧ v5 = .int .u64 (y : Int) ∧ Hid (y = x / 65536 ^ j) ∧ Hid (wr2.ownsRow (w.heap.size + 1) 3 1 v3 (4 * k + j) (i64s (dgs (4 * k + j) N))) ∧ Hid (Below w.heap.size w wr2) ∧ Hid (w.heap.size < wr2.heap.size))
      case atStart => exact ⟨0, x, rfl, rfl, rfl, (by simp : x = x / 65536 ^ 0), HR.out, HB.out, HS.out⟩
      case round =>
        clear HR HB HS
        obtain ⟨j, y, rfl, HJ, rfl, HY, HR, HB, HS⟩ := hrel
        rcases gk with _ | kj
        · obtain rfl : j = 4 := by have := HJ.out; omega
          go_wp2
          go_roundg kq
          case measure => exact Nat.lt_succ_self kq
          case rel => exact ⟨k + 1, by simp, (by have := HK.out; omega : kq + (k + 1) = 4), HR.out, HB.out, HS.out⟩
        · have hj : j < 4 := by have := HJ.out; omega
          have hd := Lib.hid (digit_word (N := N) hj HXV.out)
          rw [← HY.out] at hd
          have hyl : y < 18446744073709551616 := by rw [HY.out]; exact Nat.lt_of_le_of_lt (Nat.div_le_self _ _) HX.out
          have hmod : (y : Int).tmod 65536 = ((y % 65536 : Nat) : Int) := by rw [Int.tmod_eq_emod_of_nonneg (by omega)]; omega
          have hdiv : (y : Int).tdiv 65536 = ((y / 65536 : Nat) : Int) := by rw [Int.tdiv_eq_ediv_of_nonneg (by omega)]; omega
          obtain ⟨m, hm⟩ : ∃ m, y % 65536 = m := ⟨_, rfl⟩
          obtain ⟨q, hq⟩ : ∃ q, y / 65536 = q := ⟨_, rfl⟩
          rw [hm] at hmod hd
          rw [hq] at hdiv
          have hwr : wrap64 (m : Int) = (m : Int) := by unfold wrap64; omega
          have HQ := Lib.hid hq
          clear hq hm
          have hown := HR.out
          have hb := HB.out
          have hs := HS.out
          go_wp2_with (at_builtin; refine wpList_append_own _ rfl _ _ 31 rfl (w.heap.size + 1) 3 i0 (.int .i64 0) 1 8 Try.underlying31 hi hz0 hz1 hz2 rfl (by decide) _ _ _ rfl (hown.alloc _) ⟨wr.heap.size, 0, none⟩ 1 1 [.int .i64 (m : Int)] rfl rfl (cell_one_new _ _ _) (fun x hx => by simp at hx; subst hx; rfl) (by unfold maxLen; omega) (by omega) (by simp; omega) ?_; intro v' w1 hown' hgrow hnil)
          have hlt := hown.lt
          have hqw : IntKind.u64.wrap (q : Int) = (q : Int) := by have := HQ.out; rw [IntKind.wrap_u64]; omega
          rw [hqw]
          go_roundg kj
          case measure => exact Nat.lt_succ_self kj
          case rel =>
            refine ⟨j + 1, q, by simp, (by have := HJ.out; omega : kj + (j + 1) = 4), rfl, ?_, ?_, ?_, ?_⟩
            · show q = x / 65536 ^ (j + 1)
              rw [Nat.pow_succ, ← Nat.div_div_eq_div_mul, ← HY.out, HQ.out]
            · show World.ownsRow _ _ _ _ _ (4 * k + (j + 1)) (i64s (dgs (4 * k + j + 1) N))
              rw [dgs_succ, i64s_append, ← hd.out]; exact hown'
            · exact (hb.alloc (by omega) _).grown hgrow (by simp; omega) (fun i e => by have := (hlt _ e).1; omega)
            · have := hgrow.size
              simp at this
              show w.heap.size < w1.heap.size
              omega

end Go.Proofs.Ytldnjbpcdojffaa
