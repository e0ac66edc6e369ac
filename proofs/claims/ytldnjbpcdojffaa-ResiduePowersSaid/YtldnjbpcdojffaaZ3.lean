/- @@NUM 25 The walks of law 08's Ref and is: a number as digits. Conditions: words are below 2^64. -/
import Derived.Test.YtldnjbpcdojffaaZ2
import Derived.Laws.MakeOwn
import Derived.Test.YtldnjbpcdojffaaZ1
set_option linter.unusedSectionVars false
namespace Go.Proofs.Ytldnjbpcdojffaa
set_option linter.unusedVariables false
set_option linter.unusedSimpArgs false
open Go Go.RowKit
open Pl (V W4 T256)
open Dg (nv dg Ok Cn)

def dgs (n N : Nat) : List Int := (List.range n).map fun i => ((N / 65536 ^ i % 65536 : Nat) : Int)
theorem dgs_length (n N : Nat) : (dgs n N).length = n := by simp [dgs]
theorem dgs_succ (n N : Nat) : dgs (n + 1) N = dgs n N ++ [((N / 65536 ^ n % 65536 : Nat) : Int)] := by simp [dgs, List.range_succ]
theorem dgs_ok (n N : Nat) : Ok (dgs n N) := by
  intro x hx
  simp only [dgs, List.mem_map] at hx
  obtain ⟨i, _, rfl⟩ := hx
  omega
theorem nv_dgs (n N : Nat) : nv (dgs n N) = ((N % 65536 ^ n : Nat) : Int) := by
  induction n with
  | zero => simp [dgs, nv, Nat.mod_one]
  | succ n ih =>
    rw [dgs_succ, Dg.nv_snoc, ih, dgs_length, Nat.pow_succ, Nat.mod_mul]
    have e := Int.natCast_pow 65536 n
    rw [Int.natCast_add, Int.natCast_mul, e]
    rfl
/-- Whole numbers as values. -/
def i64s (l : List Int) : List Value := l.map fun z => .int .i64 z
theorem i64s_append (a b : List Int) : i64s (a ++ b) = i64s a ++ i64s b := by simp [i64s]
theorem i64s_length (a : List Int) : (i64s a).length = a.length := by simp [i64s]
theorem info_i64 : (Try.prog.info? 3).map (fun i => (i.zero, i.size, i.bytes)) = some (some (.int .i64 0), 1, 8) := by kernel_rfl
theorem rdi_owned {w : World} {n : Nat} {v : Value} {zs : List Int} (h : w.ownsRow n 3 1 v zs.length (i64s zs)) : RdI w.heap.size w v zs := by
  obtain ⟨h1, h2⟩ := h
  rcases h2 with ⟨rfl, h0⟩ | ⟨g, cap, cur, rfl, hb, hh, hle, hm, hs, ht⟩
  · exact .inl ⟨rfl, by simpa using h0⟩
  · refine .inr ⟨⟨g, 0, none⟩, cap, rfl, hle, (Array.getElem?_eq_some_iff.1 hh).1, fun j hj => ?_⟩
    have e : ((⟨g, 0, none⟩ : Addr).add j).block = g := add_block _ _
    have e2 : ((⟨g, 0, none⟩ : Addr).add j).off = j := by unfold Addr.add; split <;> simp_all
    have e4 : ((⟨g, 0, none⟩ : Addr).add j).spot = none := by unfold Addr.add; split <;> rfl
    have h3 : cur[j]? = some (.int .i64 (zs[j]?.getD 0)) := by
      have h4 : (cur.toList.take (zs.length * 1))[j]? = (i64s zs)[j]? := by rw [ht]
      rw [List.getElem?_take_of_lt (by omega)] at h4
      simp only [i64s, List.getElem?_map, List.getElem?_eq_getElem hj, Option.map_some] at h4
      rw [List.getElem?_eq_getElem hj, Option.getD_some, ← h4]
      simp
    simp only [World.cell?, e, e2, hh]
    simpa [e4] using h3

theorem num0 (a b c d : Int) (w : World) : (Instr.index 25 (.agg #[.int .u64 a, .int .u64 b, .int .u64 c, .int .u64 d]) (.int .i64 0)).run Try.prog w = .ok (.int .u64 a) w := by kernel_rfl
theorem num1 (a b c d : Int) (w : World) : (Instr.index 25 (.agg #[.int .u64 a, .int .u64 b, .int .u64 c, .int .u64 d]) (.int .i64 1)).run Try.prog w = .ok (.int .u64 b) w := by kernel_rfl
theorem num2 (a b c d : Int) (w : World) : (Instr.index 25 (.agg #[.int .u64 a, .int .u64 b, .int .u64 c, .int .u64 d]) (.int .i64 2)).run Try.prog w = .ok (.int .u64 c) w := by kernel_rfl
theorem num3 (a b c d : Int) (w : World) : (Instr.index 25 (.agg #[.int .u64 a, .int .u64 b, .int .u64 c, .int .u64 d]) (.int .i64 3)).run Try.prog w = .ok (.int .u64 d) w := by kernel_rfl
theorem num_at (a0 a1 a2 a3 : Nat) (ha : W4 a0 a1 a2 a3) (k : Nat) (hk : k < 4) : ∃ x : Nat, x < 18446744073709551616 ∧ x = V a0 a1 a2 a3 / 18446744073709551616 ^ k % 18446744073709551616 ∧ ∀ w, (Instr.index 25 (.agg #[.int .u64 a0, .int .u64 a1, .int .u64 a2, .int .u64 a3]) (.int .i64 (k : Int))).run Try.prog w = .ok (.int .u64 (x : Int)) w := by
  unfold W4 at ha
  unfold V
  rcases (show k = 0 ∨ k = 1 ∨ k = 2 ∨ k = 3 by omega) with rfl | rfl | rfl | rfl
  · exact ⟨a0, by omega, by simp only [Nat.reducePow]; omega, num0 _ _ _ _⟩
  · exact ⟨a1, by omega, by simp only [Nat.reducePow]; omega, num1 _ _ _ _⟩
  · exact ⟨a2, by omega, by simp only [Nat.reducePow]; omega, num2 _ _ _ _⟩
  · exact ⟨a3, by omega, by simp only [Nat.reducePow]; omega, num3 _ _ _ _⟩
theorem digit_word {N k j x : Nat} (hj : j < 4) (hx : x = N / 18446744073709551616 ^ k % 18446744073709551616) : x / 65536 ^ j % 65536 = N / 65536 ^ (4 * k + j) % 65536 := by
  have h64 : (18446744073709551616 : Nat) = 65536 ^ 4 := by decide
  have e1 : (65536 : Nat) ^ 4 = 65536 ^ j * 65536 ^ (4 - j) := by rw [← Nat.pow_add]; congr 1; omega
  have e3 : (65536 : Nat) ∣ 65536 ^ (4 - j) := ⟨65536 ^ (3 - j), by rw [← Nat.pow_succ']; congr 1; omega⟩
  rw [hx, h64, Nat.pow_add, Nat.pow_mul, ← Nat.div_div_eq_div_mul]
  generalize N / (65536 ^ 4) ^ k = M
  rw [e1, Nat.mod_mul_right_div_self, Nat.mod_mod_of_dvd _ e3]

set_option maxHeartbeats 8000000 in
theorem Ref_fact (a0 a1 a2 a3 : Nat) (ha : W4 a0 a1 a2 a3) (w : World) : Calls Try.prog 20 #[.agg #[.int .u64 a0, .int .u64 a1, .int .u64 a2, .int .u64 a3]] w fun e w' => (∃ v, e = .returned v ∧ RdI w'.heap.size w' v (dg (V a0 a1 a2 a3))) ∧ Below w.heap.size w w' := by
  obtain ⟨i0, hi, hz0, hz1, hz2⟩ := info_parts info_i64
  obtain ⟨N, hN⟩ : ∃ N, V a0 a1 a2 a3 = N := ⟨_, rfl⟩
  have hNl : N < 65536 ^ 16 := by rw [← hN]; exact Nat.lt_of_lt_of_eq (Pl.V_lt ha) (by decide +kernel)
  rw [hN]
  have T := Lib.hid (Trim_fact (dgs 16 N) (dgs_ok _ _) (by rw [dgs_length]; omega))
  rw [nv_dgs, Nat.mod_eq_of_lt hNl, Int.toNat_natCast] at T
  have HA := Lib.hid ha; have HN := Lib.hid hN
  clear ha hN hNl
  go_enter Try.func20, Try.ntmps20
  go_wp2
  go_loopg [3, 7] 4 (fun kq v3 v7 wr => ∃ k : Nat, v7 = .int .i64 k ∧ Hid (kq + k = 4) ∧ Hid (wr.ownsRow (w.heap.size + 1) 3 1 v3 (4 * k) (i64s (dgs (4 * k) N))) ∧ Hid (Below w.heap.size w wr) ∧ Hid (w.heap.size < wr.heap.size))
  case atStart => exact ⟨0, rfl, rfl, World.ownsRow_nil _ _ _ _, (Below.refl _ w).alloc (Nat.le_refl _) _, (by simp : w.heap.size < (World.alloc _ _).heap.size)⟩
  case round =>
    obtain ⟨k, rfl, HK, HR, HB, HS⟩ := hrel
    rcases gk with _ | kq
    · obtain rfl : k = 4 := by have := HK.out; omega
      have h1 := HR.out
      have hrd : RdI wr.heap.size wr u3 (dgs 16 N) := by
        refine rdi_owned (n := w.heap.size + 1) ?_
        rw [dgs_length]; exact h1
      obtain ⟨x1, c1, e1⟩ := hrd.some
      subst e1
      have HRD := Lib.hid hrd
      clear hrd h1 HR
      go_wp2_with (fail)
      go_at_call 44
      refine (T.out _ _ HRD.out).mono ?_
      rintro e wa ⟨⟨v, rfl, hv⟩, hb1⟩
      have HV := Lib.hid hv
      have HBX := Lib.hid (below_call HB.out HB.out.size hb1)
      clear hv hb1
      go_wp2
      go_ret
      exact ⟨⟨_, rfl, HV.out⟩, HBX.out⟩
    · have hk : k < 4 := by have := HK.out; omega
      obtain ⟨x, hx, hxv, hidx⟩ := num_at a0 a1 a2 a3 HA.out k hk
      rw [HN.out] at hxv
      have HXV := Lib.hid hxv; have HX := Lib.hid hx
      clear hxv hx
      have hk4 : decide ((k : Int) < 4) = true := decide_eq_true (by omega)
      go_wp2
      try simp only [hk4]
      clear hk4
      go_loopg [3, 5, 10] 4 (fun kj v3 v5 v10 wr2 => ∃ j y : Nat, v10 = .int .i64 j ∧ Hid (kj + j = 4) ∧ v5 = .int .u64 (y : Int) ∧ Hid (y = x / 65536 ^ j) ∧ Hid (wr2.ownsRow (w.heap.size + 1) 3 1 v3 (4 * k + j) (i64s (dgs (4 * k + j) N))) ∧ Hid (Below w.heap.size w wr2) ∧ Hid (w.heap.size < wr2.heap.size))
      case atStart => exact ⟨0, x, rfl, rfl, rfl, (by simp : x = x / 65536 ^ 0), HR.out, HB.out, HS.out⟩
      case round =>
        clear HR HB HS
        obtain ⟨j, y, rfl, HJ, rfl, HY, HR, HB, HS⟩ := hrel
        rcases gk with _ | kj
        · obtain rfl : j = 4 := by have := HJ.out; omega
          go_wp2
          go_roundg kq
          case measure => exact Nat.lt_succ_self kq
          case rel => exact ⟨k + 1, by simp, (by have := HK.out; omega : kq + (k + 1) = 4), HR.out, HB.out, HS.out⟩
        · have hj : j < 4 := by have := HJ.out; omega
          have hd := Lib.hid (digit_word (N := N) hj HXV.out)
          rw [← HY.out] at hd
          have hyl : y < 18446744073709551616 := by rw [HY.out]; exact Nat.lt_of_le_of_lt (Nat.div_le_self _ _) HX.out
          have hmod : (y : Int).tmod 65536 = ((y % 65536 : Nat) : Int) := by rw [Int.tmod_eq_emod_of_nonneg (by omega)]; omega
          have hdiv : (y : Int).tdiv 65536 = ((y / 65536 : Nat) : Int) := by rw [Int.tdiv_eq_ediv_of_nonneg (by omega)]; omega
          obtain ⟨m, hm⟩ : ∃ m, y % 65536 = m := ⟨_, rfl⟩
          obtain ⟨q, hq⟩ : ∃ q, y / 65536 = q := ⟨_, rfl⟩
          rw [hm] at hmod hd
          rw [hq] at hdiv
          have hwr : wrap64 (m : Int) = (m : Int) := by unfold wrap64; omega
          have HQ := Lib.hid hq
          clear hq hm
          have hown := HR.out
          have hb := HB.out
          have hs := HS.out
          go_wp2_with (at_builtin; refine wpList_append_own _ rfl _ _ 31 rfl (w.heap.size + 1) 3 i0 (.int .i64 0) 1 8 Try.underlying31 hi hz0 hz1 hz2 rfl (by decide) _ _ _ rfl (hown.alloc _) ⟨wr.heap.size, 0, none⟩ 1 1 [.int .i64 (m : Int)] rfl rfl (cell_one_new _ _ _) (fun x hx => by simp at hx; subst hx; rfl) (by unfold maxLen; omega) (by omega) (by simp; omega) ?_; intro v' w1 hown' hgrow hnil)
          have hlt := hown.lt
          have hqw : IntKind.u64.wrap (q : Int) = (q : Int) := by have := HQ.out; rw [IntKind.wrap_u64]; omega
          rw [hqw]
          go_roundg kj
          case measure => exact Nat.lt_succ_self kj
          case rel =>
            refine ⟨j + 1, q, by simp, (by have := HJ.out; omega : kj + (j + 1) = 4), rfl, ?_, ?_, ?_, ?_⟩
            · show q = x / 65536 ^ (j + 1)
              rw [Nat.pow_succ, ← Nat.div_div_eq_div_mul, ← HY.out, HQ.out]
            · show World.ownsRow _ _ _ _ _ (4 * k + (j + 1)) (i64s (dgs (4 * k + j + 1) N))
              rw [dgs_succ, i64s_append, ← hd.out]; exact hown'
            · exact (hb.alloc (by omega) _).grown hgrow (by simp; omega) (fun i e => by have := (hlt _ e).1; omega)
            · have := hgrow.size
              simp at this
              show w.heap.size < w1.heap.size
              omega

end Go.Proofs.Ytldnjbpcdojffaa
/- @@NUM 25 The walk of the document's Plus on digits. Conditions: rows of at most 1000 digits. -/
namespace Go.Proofs.Ytldnjbpcdojffaa
set_option linter.unusedVariables false
set_option linter.unusedSimpArgs false
open Go Go.RowKit
open Dg (nv dg Ok Cn)

/-- What holds when i digits of the sum stand. -/
def PlusI (us vs : List Int) (S : Int) (i : Nat) (ds : List Int) (c : Int) : Prop := ds.length = i ∧ Ok ds ∧ 0 ≤ c ∧ c ≤ 1 ∧ nv ds + 65536 ^ i * (c + nv (us.drop i) + nv (vs.drop i)) = S
theorem PlusI.step {us vs : List Int} {S : Int} {i : Nat} {ds : List Int} {c T : Int} (h : PlusI us vs S i ds c) (t0 : 0 ≤ T) (t1 : T ≤ 131071) (he : T + 65536 * nv (us.drop (i + 1)) + 65536 * nv (vs.drop (i + 1)) = c + nv (us.drop i) + nv (vs.drop i)) : PlusI us vs S (i + 1) (ds ++ [T % 65536]) (T / 65536) := by
  obtain ⟨h1, h2, h3, h4, h5⟩ := h
  refine ⟨by rw [List.length_append, h1]; rfl, h2.append (Dg.Ok.one (by omega)), by omega, by omega, ?_⟩
  rw [Dg.nv_snoc, h1, Int.pow_succ, ← h5, ← he]
  generalize nv (us.drop (i + 1)) = A
  generalize nv (vs.drop (i + 1)) = B
  have e3 : T = T % 65536 + 65536 * (T / 65536) := by omega
  generalize T % 65536 = u at *
  generalize T / 65536 = v at *
  subst e3
  generalize (65536 : Int) ^ i = P
  grind
theorem drop_none {us : List Int} {i : Nat} (h : us.length ≤ i) : nv (us.drop i) = 0 := by rw [List.drop_eq_nil_of_le h]; rfl
theorem PlusI.done {us vs : List Int} {S : Int} {i : Nat} {ds : List Int} (h : PlusI us vs S i ds 0) (ha : us.length ≤ i) (hb : vs.length ≤ i) : nv ds = S := by
  have := h.2.2.2.2
  rw [drop_none ha, drop_none hb] at this
  simpa using this

set_option maxHeartbeats 16000000 in
theorem Plus_fact (us vs : List Int) (ha : Ok us) (hb : Ok vs) (hla : us.length ≤ 1000) (hlb : vs.length ≤ 1000) (sa sb : Value) (w : World) (hA : RdI w.heap.size w sa us) (hB : RdI w.heap.size w sb vs) :
    Calls Try.prog 40 #[sa, sb] w fun e w' => (∃ v, e = .returned v ∧ RdI w'.heap.size w' v (dg (nv us + nv vs).toNat)) ∧ Below w.heap.size w w' := by
  obtain ⟨i0, hi, hz0, hz1, hz2⟩ := info_parts info_i64
  obtain ⟨n, hn⟩ : ∃ n, max us.length vs.length = n := ⟨_, rfl⟩
  obtain ⟨S, hS⟩ : ∃ S, nv us + nv vs = S := ⟨_, rfl⟩
  have hn1 : us.length ≤ n := by omega
  have hn2 : vs.length ≤ n := by omega
  have hn3 : n ≤ 1000 := by omega
  have HA := Lib.hid hA; have HBB := Lib.hid hB; have HOA := Lib.hid ha; have HOB := Lib.hid hb
  have HST : Hid (PlusI us vs S 0 [] 0) := ⟨rfl, Dg.Ok.nil, by omega, by omega, by simp [nv, hS]⟩
  rw [hS]
  clear hA hB ha hb hn hS hla hlb
  obtain ⟨x1, c1, rfl⟩ := HA.out.some
  obtain ⟨x2, c2, rfl⟩ := HBB.out.some
  go_enter Try.func40, Try.ntmps40
  go_wp2
  go_loopg [5, 6, 7] (n + 1) (fun kq v5 v6 v7 wr => ∃ (i : Nat) (ds : List Int) (c : Int), v6 = .int .i64 c ∧ v7 = .int .i64 i ∧ Hid (kq + i = n + 1 ∧ (kq = 0 → c = 0)) ∧ Hid (PlusI us vs S i ds c) ∧ Hid (wr.ownsRow w.heap.size 3 1 v5 i (i64s ds)) ∧ Hid (Below w.heap.size w wr))
  case atStart => exact ⟨0, [], 0, rfl, rfl, ⟨rfl, fun h => by omega⟩, HST.out, World.ownsRow_nil _ _ _ _, Below.refl _ _⟩
  case round =>
    obtain ⟨i, ds, c, rfl, rfl, HK, HI, HR, HB⟩ := hrel
    have hi1 : i ≤ 1001 := by have := HK.out.1; omega
    have hown := HR.out
    have hb := HB.out
    have hlt := hown.lt
    have c0 := HI.out.2.2.1; have c1_ := HI.out.2.2.2.1
    have cellA : ∀ (h : i < us.length), ∃ y, x1 = some y ∧ wr.cell? (y.add i) = some (.int .i64 us[i]) := fun h => by
      rcases HA.out with ⟨e, h0⟩ | ⟨y, cap, e, _, hyb, hcs⟩
      · rw [h0] at h; simp at h
      · injection e with e1 e2 e3
        exact ⟨y, e1, (hb.cell (p := y.add i) (by rw [add_block]; exact hyb)).trans (ints_at hcs h)⟩
    have cellB : ∀ (h : i < vs.length), ∃ y, x2 = some y ∧ wr.cell? (y.add i) = some (.int .i64 vs[i]) := fun h => by
      rcases HBB.out with ⟨e, h0⟩ | ⟨y, cap, e, _, hyb, hcs⟩
      · rw [h0] at h; simp at h
      · injection e with e1 e2 e3
        exact ⟨y, e1, (hb.cell (p := y.add i) (by rw [add_block]; exact hyb)).trans (ints_at hcs h)⟩
    have CA := Lib.hid cellA; have CB := Lib.hid cellB
    clear cellA cellB
    by_cases ia : i < us.length
    · obtain ⟨kq, rfl⟩ : ∃ kq, gk = kq + 1 := ⟨gk - 1, by have := HK.out; omega⟩
      by_cases ib : i < vs.length
      · obtain ⟨y1, rfl, cy1⟩ := CA.out ia
        have oa := HOA.out.at ia
        have hia : (i : Int) < (us.length : Int) := by omega
        obtain ⟨y2, rfl, cy2⟩ := CB.out ib
        have ob := HOB.out.at ib
        have hib : (i : Int) < (vs.length : Int) := by omega
        have HN := Lib.hid (HI.out.step (T := c + us[i] + vs[i]) (by omega) (by omega) (by have := Dg.nv_drop ia; have := Dg.nv_drop ib; omega))
        obtain ⟨a, hae⟩ : ∃ a, us[i] = a := ⟨_, rfl⟩
        rw [hae] at cy1 oa HN
        clear hae
        obtain ⟨b, hbe⟩ : ∃ b, vs[i] = b := ⟨_, rfl⟩
        rw [hbe] at cy2 ob HN
        clear hbe
        have hw1 : wrap64 (c + a) = c + a := Dg.wrap_ok (by omega) (by omega)
        have hw2 : wrap64 (c + a + b) = c + a + b := Dg.wrap_ok (by omega) (by omega)
        obtain ⟨m, hm⟩ : ∃ m, (c + a + b) % 65536 = m := ⟨_, rfl⟩
        obtain ⟨q, hq⟩ : ∃ q, (c + a + b) / 65536 = q := ⟨_, rfl⟩
        have hm1 : (c + a + b).tmod 65536 = m := by rw [Int.tmod_eq_emod_of_nonneg (by omega)]; exact hm
        have hq1 : (c + a + b).tdiv 65536 = q := by rw [Int.tdiv_eq_ediv_of_nonneg (by omega)]; exact hq
        rw [hm, hq] at HN
        have hqw : wrap64 q = q := Dg.wrap_ok (by omega) (by omega)
        have hq0 := HN.out.2.2.1; have hq2 := HN.out.2.2.2.1
        have HQ : Hid (i = n → q = 0) := fun e => by omega
        clear hm hq
        go_wp2_with (at_builtin; refine wpList_append_own _ rfl _ _ 31 rfl w.heap.size 3 i0 (.int .i64 0) 1 8 Try.underlying31 hi hz0 hz1 hz2 rfl (by decide) _ _ _ rfl (hown.alloc _) ⟨wr.heap.size, 0, none⟩ 1 1 [.int .i64 m] rfl rfl (cell_one_new _ _ _) (fun x hx => by simp at hx; subst hx; rfl) (by unfold maxLen; omega) (by omega) (by have := hb.size; simp; omega) ?_; intro v' w1 hown' hgrow hnil)
        go_roundg kq
        case measure => exact Nat.lt_succ_self kq
        case rel =>
          exact ⟨i + 1, ds ++ [m], q, by simp, by simp, ⟨by have := HK.out.1; omega, fun h => HQ.out (by have := HK.out.1; omega)⟩, HN.out, (by rw [i64s_append]; exact hown' : World.ownsRow _ _ _ _ _ (i + 1) (i64s (ds ++ [m]))), (hb.alloc hb.size _).grown hgrow (by have := hb.size; simp; omega) (fun j e => (hlt _ e).1)⟩
      · obtain ⟨y1, rfl, cy1⟩ := CA.out ia
        have oa := HOA.out.at ia
        have hia : (i : Int) < (us.length : Int) := by omega
        have hib : ¬ (i : Int) < (vs.length : Int) := by omega
        have HN := Lib.hid (HI.out.step (T := c + us[i]) (by omega) (by omega) (by have := Dg.nv_drop ia; have := drop_none (us := vs) (i := i) (by omega); have := drop_none (us := vs) (i := i + 1) (by omega); omega))
        obtain ⟨a, hae⟩ : ∃ a, us[i] = a := ⟨_, rfl⟩
        rw [hae] at cy1 oa HN
        clear hae
        have hw1 : wrap64 (c + a) = c + a := Dg.wrap_ok (by omega) (by omega)
        obtain ⟨m, hm⟩ : ∃ m, (c + a) % 65536 = m := ⟨_, rfl⟩
        obtain ⟨q, hq⟩ : ∃ q, (c + a) / 65536 = q := ⟨_, rfl⟩
        have hm1 : (c + a).tmod 65536 = m := by rw [Int.tmod_eq_emod_of_nonneg (by omega)]; exact hm
        have hq1 : (c + a).tdiv 65536 = q := by rw [Int.tdiv_eq_ediv_of_nonneg (by omega)]; exact hq
        rw [hm, hq] at HN
        have hqw : wrap64 q = q := Dg.wrap_ok (by omega) (by omega)
        have hq0 := HN.out.2.2.1; have hq2 := HN.out.2.2.2.1
        have HQ : Hid (i = n → q = 0) := fun e => by omega
        clear hm hq
        go_wp2_with (at_builtin; refine wpList_append_own _ rfl _ _ 31 rfl w.heap.size 3 i0 (.int .i64 0) 1 8 Try.underlying31 hi hz0 hz1 hz2 rfl (by decide) _ _ _ rfl (hown.alloc _) ⟨wr.heap.size, 0, none⟩ 1 1 [.int .i64 m] rfl rfl (cell_one_new _ _ _) (fun x hx => by simp at hx; subst hx; rfl) (by unfold maxLen; omega) (by omega) (by have := hb.size; simp; omega) ?_; intro v' w1 hown' hgrow hnil)
        go_roundg kq
        case measure => exact Nat.lt_succ_self kq
        case rel =>
          exact ⟨i + 1, ds ++ [m], q, by simp, by simp, ⟨by have := HK.out.1; omega, fun h => HQ.out (by have := HK.out.1; omega)⟩, HN.out, (by rw [i64s_append]; exact hown' : World.ownsRow _ _ _ _ _ (i + 1) (i64s (ds ++ [m]))), (hb.alloc hb.size _).grown hgrow (by have := hb.size; simp; omega) (fun j e => (hlt _ e).1)⟩
    · by_cases ib : i < vs.length
      · obtain ⟨kq, rfl⟩ : ∃ kq, gk = kq + 1 := ⟨gk - 1, by have := HK.out; omega⟩
        have hia : ¬ (i : Int) < (us.length : Int) := by omega
        obtain ⟨y2, rfl, cy2⟩ := CB.out ib
        have ob := HOB.out.at ib
        have hib : (i : Int) < (vs.length : Int) := by omega
        have HN := Lib.hid (HI.out.step (T := c + vs[i]) (by omega) (by omega) (by have := drop_none (us := us) (i := i) (by omega); have := drop_none (us := us) (i := i + 1) (by omega); have := Dg.nv_drop ib; omega))
        obtain ⟨b, hbe⟩ : ∃ b, vs[i] = b := ⟨_, rfl⟩
        rw [hbe] at cy2 ob HN
        clear hbe
        have hw2 : wrap64 (c + b) = c + b := Dg.wrap_ok (by omega) (by omega)
        obtain ⟨m, hm⟩ : ∃ m, (c + b) % 65536 = m := ⟨_, rfl⟩
        obtain ⟨q, hq⟩ : ∃ q, (c + b) / 65536 = q := ⟨_, rfl⟩
        have hm1 : (c + b).tmod 65536 = m := by rw [Int.tmod_eq_emod_of_nonneg (by omega)]; exact hm
        have hq1 : (c + b).tdiv 65536 = q := by rw [Int.tdiv_eq_ediv_of_nonneg (by omega)]; exact hq
        rw [hm, hq] at HN
        have hqw : wrap64 q = q := Dg.wrap_ok (by omega) (by omega)
        have hq0 := HN.out.2.2.1; have hq2 := HN.out.2.2.2.1
        have HQ : Hid (i = n → q = 0) := fun e => by omega
        clear hm hq
        go_wp2_with (at_builtin; refine wpList_append_own _ rfl _ _ 31 rfl w.heap.size 3 i0 (.int .i64 0) 1 8 Try.underlying31 hi hz0 hz1 hz2 rfl (by decide) _ _ _ rfl (hown.alloc _) ⟨wr.heap.size, 0, none⟩ 1 1 [.int .i64 m] rfl rfl (cell_one_new _ _ _) (fun x hx => by simp at hx; subst hx; rfl) (by unfold maxLen; omega) (by omega) (by have := hb.size; simp; omega) ?_; intro v' w1 hown' hgrow hnil)
        go_roundg kq
        case measure => exact Nat.lt_succ_self kq
        case rel =>
          exact ⟨i + 1, ds ++ [m], q, by simp, by simp, ⟨by have := HK.out.1; omega, fun h => HQ.out (by have := HK.out.1; omega)⟩, HN.out, (by rw [i64s_append]; exact hown' : World.ownsRow _ _ _ _ _ (i + 1) (i64s (ds ++ [m]))), (hb.alloc hb.size _).grown hgrow (by have := hb.size; simp; omega) (fun j e => (hlt _ e).1)⟩
      · by_cases hcz : c > 0
        · obtain ⟨kq, rfl⟩ : ∃ kq, gk = kq + 1 := ⟨gk - 1, by have := HK.out; apply Classical.byContradiction; intro h; have := HK.out.2 (by omega); omega⟩
          have hia : ¬ (i : Int) < (us.length : Int) := by omega
          have hib : ¬ (i : Int) < (vs.length : Int) := by omega
          have HN := Lib.hid (HI.out.step (T := c) (by omega) (by omega) (by have := drop_none (us := us) (i := i) (by omega); have := drop_none (us := us) (i := i + 1) (by omega); have := drop_none (us := vs) (i := i) (by omega); have := drop_none (us := vs) (i := i + 1) (by omega); omega))
          obtain ⟨m, hm⟩ : ∃ m, (c) % 65536 = m := ⟨_, rfl⟩
          obtain ⟨q, hq⟩ : ∃ q, (c) / 65536 = q := ⟨_, rfl⟩
          have hm1 : (c).tmod 65536 = m := by rw [Int.tmod_eq_emod_of_nonneg (by omega)]; exact hm
          have hq1 : (c).tdiv 65536 = q := by rw [Int.tdiv_eq_ediv_of_nonneg (by omega)]; exact hq
          rw [hm, hq] at HN
          have hqw : wrap64 q = q := Dg.wrap_ok (by omega) (by omega)
          have hq0 := HN.out.2.2.1; have hq2 := HN.out.2.2.2.1
          have HQ : Hid (i = n → q = 0) := fun e => by omega
          clear hm hq
          go_wp2_with (at_builtin; refine wpList_append_own _ rfl _ _ 31 rfl w.heap.size 3 i0 (.int .i64 0) 1 8 Try.underlying31 hi hz0 hz1 hz2 rfl (by decide) _ _ _ rfl (hown.alloc _) ⟨wr.heap.size, 0, none⟩ 1 1 [.int .i64 m] rfl rfl (cell_one_new _ _ _) (fun x hx => by simp at hx; subst hx; rfl) (by unfold maxLen; omega) (by omega) (by have := hb.size; simp; omega) ?_; intro v' w1 hown' hgrow hnil)
          go_roundg kq
          case measure => exact Nat.lt_succ_self kq
          case rel =>
            exact ⟨i + 1, ds ++ [m], q, by simp, by simp, ⟨by have := HK.out.1; omega, fun h => HQ.out (by have := HK.out.1; omega)⟩, HN.out, (by rw [i64s_append]; exact hown' : World.ownsRow _ _ _ _ _ (i + 1) (i64s (ds ++ [m]))), (hb.alloc hb.size _).grown hgrow (by have := hb.size; simp; omega) (fun j e => (hlt _ e).1)⟩
        · obtain rfl : c = 0 := by omega
          have hia : ¬ (i : Int) < (us.length : Int) := by omega
          have hib : ¬ (i : Int) < (vs.length : Int) := by omega
          have hdl : ds.length = i := HI.out.1
          have hrd : RdI wr.heap.size wr u5 ds := by
            refine rdi_owned (n := w.heap.size) ?_
            rw [hdl]; exact hown
          obtain ⟨y1, k1, e1⟩ := hrd.some
          subst e1
          have HRD := Lib.hid hrd
          have T := Lib.hid (Trim_fact ds HI.out.2.1 (by omega))
          rw [HI.out.done (by omega) (by omega)] at T
          clear hrd hown hlt hdl
          go_wp2_with (fail)
          go_at_call 44
          refine (T.out _ _ HRD.out).mono ?_
          rintro e wa ⟨⟨v, rfl, hv⟩, hb1⟩
          have HV := Lib.hid hv
          have HBX := Lib.hid (below_call HB.out HB.out.size hb1)
          clear hv hb1
          go_wp2
          go_ret
          exact ⟨⟨_, rfl, HV.out⟩, HBX.out⟩

end Go.Proofs.Ytldnjbpcdojffaa
/- @@NUM 25 The walks of the document's Minus and Order on digits. Conditions: rows of at most 1000 digits; no more is taken than there is. -/
namespace Go.Proofs.Ytldnjbpcdojffaa
set_option linter.unusedVariables false
set_option linter.unusedSimpArgs false
open Go Go.RowKit
open Dg (nv dg Ok Cn)

def MinusI (us vs : List Int) (S : Int) (i : Nat) (ds : List Int) (c : Int) : Prop := ds.length = i ∧ Ok ds ∧ 0 ≤ c ∧ c ≤ 1 ∧ nv ds + 65536 ^ i * (nv (us.drop i) - c - nv (vs.drop i)) = S
theorem MinusI.step {us vs : List Int} {S : Int} {i : Nat} {ds : List Int} {c T c2 : Int} (h : MinusI us vs S i ds c) (t0 : 0 ≤ T) (t1 : T < 65536) (c0 : 0 ≤ c2) (c1 : c2 ≤ 1) (he : T - 65536 * c2 + 65536 * nv (us.drop (i + 1)) - 65536 * nv (vs.drop (i + 1)) = nv (us.drop i) - c - nv (vs.drop i)) : MinusI us vs S (i + 1) (ds ++ [T]) c2 := by
  obtain ⟨h1, h2, h3, h4, h5⟩ := h
  refine ⟨by rw [List.length_append, h1]; rfl, h2.append (Dg.Ok.one ⟨t0, t1⟩), c0, c1, ?_⟩
  rw [Dg.nv_snoc, h1, Int.pow_succ, ← h5, ← he]
  generalize nv (us.drop (i + 1)) = A
  generalize nv (vs.drop (i + 1)) = B
  generalize (65536 : Int) ^ i = P
  grind
theorem MinusI.done {us vs : List Int} {S : Int} {i : Nat} {ds : List Int} {c : Int} (h : MinusI us vs S i ds c) (hb : Ok vs) (ha : us.length ≤ i) (hS : 0 ≤ S) : nv ds = S := by
  obtain ⟨h1, h2, h3, h4, h5⟩ := h
  rw [drop_none ha] at h5
  have hbn := Dg.nv_nonneg (hb.drop i)
  have hol := Dg.nv_lt h2
  rw [h1] at hol
  have hz : c + nv (vs.drop i) = 0 := by
    apply Classical.byContradiction
    intro hne
    have h6 : (65536 : Int) ^ i * 1 ≤ 65536 ^ i * (c + nv (vs.drop i)) := Int.mul_le_mul_of_nonneg_left (by omega) (Int.le_of_lt (Int.pow_pos (by decide)))
    have h7 : (65536 : Int) ^ i * (0 - c - nv (vs.drop i)) = - (65536 ^ i * (c + nv (vs.drop i))) := by grind
    omega
  have h8 : (0 : Int) - c - nv (vs.drop i) = 0 := by omega
  rw [h8, Int.mul_zero, Int.add_zero] at h5
  exact h5

set_option maxHeartbeats 16000000 in
theorem Minus_fact (us vs : List Int) (ha : Ok us) (hb : Ok vs) (hla : us.length ≤ 1000) (hge : nv vs ≤ nv us) (sa sb : Value) (w : World) (hA : RdI w.heap.size w sa us) (hB : RdI w.heap.size w sb vs) :
    Calls Try.prog 49 #[sa, sb] w fun e w' => (∃ v, e = .returned v ∧ RdI w'.heap.size w' v (dg (nv us - nv vs).toNat)) ∧ Below w.heap.size w w' := by
  obtain ⟨i0, hi, hz0, hz1, hz2⟩ := info_parts info_i64
  obtain ⟨S, hS⟩ : ∃ S, nv us - nv vs = S := ⟨_, rfl⟩
  have HA := Lib.hid hA; have HBB := Lib.hid hB; have HOA := Lib.hid ha; have HOB := Lib.hid hb
  have HST : Hid (MinusI us vs S 0 [] 0) := ⟨rfl, Dg.Ok.nil, by omega, by omega, by simp [nv, hS]⟩
  have HS0 : Hid (0 ≤ S) := by show 0 ≤ S; omega
  rw [hS]
  clear hA hB ha hb hS hge
  obtain ⟨x1, c1, rfl⟩ := HA.out.some
  obtain ⟨x2, c2, rfl⟩ := HBB.out.some
  go_enter Try.func49, Try.ntmps49
  go_wp2
  go_loopg [5, 6, 11] us.length (fun kq v5 v6 v7 wr => ∃ (i : Nat) (ds : List Int) (c : Int), v6 = .int .i64 c ∧ v7 = .int .i64 i ∧ Hid (kq + i = us.length) ∧ Hid (MinusI us vs S i ds c) ∧ Hid (wr.ownsRow w.heap.size 3 1 v5 i (i64s ds)) ∧ Hid (Below w.heap.size w wr))
  case atStart => exact ⟨0, [], 0, rfl, rfl, rfl, HST.out, World.ownsRow_nil _ _ _ _, Below.refl _ _⟩
  case round =>
    obtain ⟨i, ds, c, rfl, rfl, HK, HI, HR, HB⟩ := hrel
    have hown := HR.out
    have hb := HB.out
    have hlt := hown.lt
    have c0 := HI.out.2.2.1; have c1_ := HI.out.2.2.2.1
    rcases gk with _ | kq
    · have hdl : ds.length = i := HI.out.1
      obtain rfl : i = us.length := by have := HK.out; omega
      have hrd : RdI wr.heap.size wr u5 ds := by
        refine rdi_owned (n := w.heap.size) ?_
        rw [hdl]; exact hown
      obtain ⟨y1, k1, e1⟩ := hrd.some
      subst e1
      have HRD := Lib.hid hrd
      have T := Lib.hid (Trim_fact ds HI.out.2.1 (by omega))
      rw [HI.out.done HOB.out (by omega) HS0.out] at T
      clear hrd hown hlt hdl
      go_wp2_with (fail)
      go_at_call 44
      refine (T.out _ _ HRD.out).mono ?_
      rintro e wa ⟨⟨v, rfl, hv⟩, hb1⟩
      have HV := Lib.hid hv
      have HBX := Lib.hid (below_call HB.out HB.out.size hb1)
      clear hv hb1
      go_wp2
      go_ret
      exact ⟨⟨_, rfl, HV.out⟩, HBX.out⟩
    · have ia : i < us.length := by have := HK.out; omega
      have hia : (i : Int) < (us.length : Int) := by omega
      have cellA : ∃ y, x1 = some y ∧ wr.cell? (y.add i) = some (.int .i64 us[i]) := by
        rcases HA.out with ⟨e, h0⟩ | ⟨y, cap, e, _, hyb, hcs⟩
        · rw [h0] at ia; simp at ia
        · injection e with e1 e2 e3
          exact ⟨y, e1, (hb.cell (p := y.add i) (by rw [add_block]; exact hyb)).trans (ints_at hcs ia)⟩
      obtain ⟨y1, rfl, cy1⟩ := cellA
      have oa := HOA.out.at ia
      have da := Lib.hid (Dg.nv_drop ia)
      obtain ⟨a, hae⟩ : ∃ a, us[i] = a := ⟨_, rfl⟩
      rw [hae] at cy1 oa da
      clear hae
      have hw1 : wrap64 (a - c) = a - c := Dg.wrap_ok (by omega) (by omega)
      by_cases ib : i < vs.length
      · have hib : (i : Int) < (vs.length : Int) := by omega
        have cellB : ∃ y, x2 = some y ∧ wr.cell? (y.add i) = some (.int .i64 vs[i]) := by
          rcases HBB.out with ⟨e, h0⟩ | ⟨y, cap, e, _, hyb, hcs⟩
          · rw [h0] at ib; simp at ib
          · injection e with e1 e2 e3
            exact ⟨y, e1, (hb.cell (p := y.add i) (by rw [add_block]; exact hyb)).trans (ints_at hcs ib)⟩
        obtain ⟨y2, rfl, cy2⟩ := cellB
        have ob := HOB.out.at ib
        have db := Lib.hid (Dg.nv_drop ib)
        obtain ⟨b, hbe⟩ : ∃ b, vs[i] = b := ⟨_, rfl⟩
        rw [hbe] at cy2 ob db
        clear hbe
        have hw2 : wrap64 (a - c - b) = a - c - b := Dg.wrap_ok (by omega) (by omega)
        by_cases hneg : a - c - b < 0
        · have hs : a - c - b < 0 := hneg
          have hw3 : wrap64 (a - c - b + 65536) = a - c - b + 65536 := Dg.wrap_ok (by omega) (by omega)
          have HN := Lib.hid (HI.out.step (T := a - c - b + 65536) (c2 := 1) (by omega) (by omega) (by omega) (by omega) (by have := da.out; have := db.out; omega))
          obtain ⟨m, hm⟩ : ∃ m, a - c - b + 65536 = m := ⟨_, rfl⟩
          rw [hm] at HN
          have HM := Lib.hid hm
          clear hneg
          rw [hm] at hw3
          go_wp2_with (at_builtin; refine wpList_append_own _ rfl _ _ 31 rfl w.heap.size 3 i0 (.int .i64 0) 1 8 Try.underlying31 hi hz0 hz1 hz2 rfl (by decide) _ _ _ rfl (hown.alloc _) ⟨wr.heap.size, 0, none⟩ 1 1 [.int .i64 m] rfl rfl (cell_one_new _ _ _) (fun x hx => by simp at hx; subst hx; rfl) (by unfold maxLen; omega) (by omega) (by have := hb.size; simp; omega) ?_; intro v' w1 hown' hgrow hnil)
          go_roundg kq
          case measure => exact Nat.lt_succ_self kq
          case rel =>
            exact ⟨i + 1, ds ++ [m], 1, rfl, by simp, (by have := HK.out; omega : kq + (i + 1) = us.length), HN.out, (by rw [i64s_append]; exact hown' : World.ownsRow _ _ _ _ _ (i + 1) (i64s (ds ++ [m]))), (hb.alloc hb.size _).grown hgrow (by have := hb.size; simp; omega) (fun j e => (hlt _ e).1)⟩
        · have hs : ¬ a - c - b < 0 := hneg
          have HN := Lib.hid (HI.out.step (T := a - c - b) (c2 := 0) (by omega) (by omega) (by omega) (by omega) (by have := da.out; have := db.out; omega))
          obtain ⟨m, hm⟩ : ∃ m, a - c - b = m := ⟨_, rfl⟩
          rw [hm] at HN
          have HM := Lib.hid hm
          clear hneg
          rw [hm] at hs hw2
          go_wp2_with (at_builtin; refine wpList_append_own _ rfl _ _ 31 rfl w.heap.size 3 i0 (.int .i64 0) 1 8 Try.underlying31 hi hz0 hz1 hz2 rfl (by decide) _ _ _ rfl (hown.alloc _) ⟨wr.heap.size, 0, none⟩ 1 1 [.int .i64 m] rfl rfl (cell_one_new _ _ _) (fun x hx => by simp at hx; subst hx; rfl) (by unfold maxLen; omega) (by omega) (by have := hb.size; simp; omega) ?_; intro v' w1 hown' hgrow hnil)
          go_roundg kq
          case measure => exact Nat.lt_succ_self kq
          case rel =>
            exact ⟨i + 1, ds ++ [m], 0, rfl, by simp, (by have := HK.out; omega : kq + (i + 1) = us.length), HN.out, (by rw [i64s_append]; exact hown' : World.ownsRow _ _ _ _ _ (i + 1) (i64s (ds ++ [m]))), (hb.alloc hb.size _).grown hgrow (by have := hb.size; simp; omega) (fun j e => (hlt _ e).1)⟩
      · have hib : ¬ (i : Int) < (vs.length : Int) := by omega
        have db : Hid (nv (vs.drop i) = 0 ∧ nv (vs.drop (i + 1)) = 0) := ⟨drop_none (by omega), drop_none (by omega)⟩
        by_cases hneg : a - c < 0
        · have hs : a - c < 0 := hneg
          have hw3 : wrap64 (a - c + 65536) = a - c + 65536 := Dg.wrap_ok (by omega) (by omega)
          have HN := Lib.hid (HI.out.step (T := a - c + 65536) (c2 := 1) (by omega) (by omega) (by omega) (by omega) (by have := da.out; have := db.out; omega))
          obtain ⟨m, hm⟩ : ∃ m, a - c + 65536 = m := ⟨_, rfl⟩
          rw [hm] at HN
          have HM := Lib.hid hm
          clear hneg
          rw [hm] at hw3
          go_wp2_with (at_builtin; refine wpList_append_own _ rfl _ _ 31 rfl w.heap.size 3 i0 (.int .i64 0) 1 8 Try.underlying31 hi hz0 hz1 hz2 rfl (by decide) _ _ _ rfl (hown.alloc _) ⟨wr.heap.size, 0, none⟩ 1 1 [.int .i64 m] rfl rfl (cell_one_new _ _ _) (fun x hx => by simp at hx; subst hx; rfl) (by unfold maxLen; omega) (by omega) (by have := hb.size; simp; omega) ?_; intro v' w1 hown' hgrow hnil)
          go_roundg kq
          case measure => exact Nat.lt_succ_self kq
          case rel =>
            exact ⟨i + 1, ds ++ [m], 1, rfl, by simp, (by have := HK.out; omega : kq + (i + 1) = us.length), HN.out, (by rw [i64s_append]; exact hown' : World.ownsRow _ _ _ _ _ (i + 1) (i64s (ds ++ [m]))), (hb.alloc hb.size _).grown hgrow (by have := hb.size; simp; omega) (fun j e => (hlt _ e).1)⟩
        · have hs : ¬ a - c < 0 := hneg
          have HN := Lib.hid (HI.out.step (T := a - c) (c2 := 0) (by omega) (by omega) (by omega) (by omega) (by have := da.out; have := db.out; omega))
          obtain ⟨m, hm⟩ : ∃ m, a - c = m := ⟨_, rfl⟩
          rw [hm] at HN
          have HM := Lib.hid hm
          clear hneg
          rw [hm] at hs hw1
          go_wp2_with (at_builtin; refine wpList_append_own _ rfl _ _ 31 rfl w.heap.size 3 i0 (.int .i64 0) 1 8 Try.underlying31 hi hz0 hz1 hz2 rfl (by decide) _ _ _ rfl (hown.alloc _) ⟨wr.heap.size, 0, none⟩ 1 1 [.int .i64 m] rfl rfl (cell_one_new _ _ _) (fun x hx => by simp at hx; subst hx; rfl) (by unfold maxLen; omega) (by omega) (by have := hb.size; simp; omega) ?_; intro v' w1 hown' hgrow hnil)
          go_roundg kq
          case measure => exact Nat.lt_succ_self kq
          case rel =>
            exact ⟨i + 1, ds ++ [m], 0, rfl, by simp, (by have := HK.out; omega : kq + (i + 1) = us.length), HN.out, (by rw [i64s_append]; exact hown' : World.ownsRow _ _ _ _ _ (i + 1) (i64s (ds ++ [m]))), (hb.alloc hb.size _).grown hgrow (by have := hb.size; simp; omega) (fun j e => (hlt _ e).1)⟩

def orderD : List Int := [54253, 23797, 25370, 22546, 40150, 41719, 63966, 5342, 0, 0, 0, 0, 0, 0, 0, 4096]
theorem orderD_ok : Ok orderD := by unfold Dg.Ok; decide
theorem orderD_v : nv orderD = (Pl.pL : Int) := by decide +kernel
set_option maxHeartbeats 2000000 in
theorem ROrder_fact (w : World) : Calls Try.prog 33 #[] w fun e w' => (∃ v, e = .returned v ∧ RdI w'.heap.size w' v orderD) ∧ Below w.heap.size w w' := by
  go_enter Try.func33, Try.ntmps33
  go_wp2
  go_ret
  refine ⟨⟨_, rfl, ?_⟩, by go_grown⟩
  refine rdi_owned (n := w.heap.size) ⟨rfl, .inr ⟨w.heap.size, 16, _, rfl, Nat.le_refl _, heap_new _ _, by decide, by unfold maxLen; omega, by decide, rfl⟩⟩

end Go.Proofs.Ytldnjbpcdojffaa
/- @@NUM 25 The walk of the document's Mod on digits. Conditions: rows of at most 1000 digits; the modulus is below 65536^16, and not 0. -/
namespace Go.Proofs.Ytldnjbpcdojffaa
set_option linter.unusedVariables false
set_option linter.unusedSimpArgs false
open Go Go.RowKit
open Dg (nv dg Ok Cn)

/-- What has been reckoned when b of the digit d's bits are left. -/
def SM (M A d b y : Nat) : Prop := y = (A * 2 ^ (16 - b) + d / 2 ^ b) % M
theorem SM_start {M A d : Nat} (hA : A < M) (hd : d < 65536) : SM M A d 16 A := by
  unfold SM
  rw [show d / 2 ^ 16 = 0 from Nat.div_eq_of_lt (by omega), Nat.sub_self, Nat.pow_zero, Nat.mul_one, Nat.add_zero, Nat.mod_eq_of_lt hA]
theorem SM_step {M A d b y z : Nat} (hb : b < 16) (h : SM M A d (b + 1) y) (hz : z = (2 * y + d / 2 ^ b % 2) % M) : SM M A d b z := by
  unfold SM at h ⊢
  have e1 : d / 2 ^ b = 2 * (d / 2 ^ (b + 1)) + d / 2 ^ b % 2 := by rw [Nat.pow_succ, ← Nat.div_div_eq_div_mul]; omega
  have e2 : 2 ^ (16 - b) = 2 ^ (16 - (b + 1)) * 2 := by rw [← Nat.pow_succ]; congr 1; omega
  have e3 : A * 2 ^ (16 - b) + d / 2 ^ b = 2 * (A * 2 ^ (16 - (b + 1)) + d / 2 ^ (b + 1)) + d / 2 ^ b % 2 := by
    rw [e2, ← Nat.mul_assoc]; omega
  rw [e3, hz, h, Nat.add_mod, Nat.mul_mod_mod, ← Nat.add_mod]
theorem SM_end {M A d y : Nat} (h : SM M A d 0 y) : y = (A * 65536 + d) % M := by
  unfold SM at h
  rw [h, Nat.pow_zero, Nat.div_one]
theorem mod_low {y f M : Nat} (hy : y < M) (hf : f ≤ 1) (h : 2 * y + f < M) : 2 * y + f = (2 * y + f) % M := (Nat.mod_eq_of_lt h).symm
theorem mod_high {y f M : Nat} (hy : y < M) (hf : f ≤ 1) (h : ¬ 2 * y + f < M) : 2 * y + f - M = (2 * y + f) % M := by
  rw [Nat.mod_eq_sub_mod (by omega), Nat.mod_eq_of_lt (by omega)]
theorem rdi_one (w : World) (u : Int) : RdI (w.alloc (.cells #[.int .i64 u] 3)).heap.size (w.alloc (.cells #[.int .i64 u] 3)) (.slice (some ⟨w.heap.size, 0, none⟩) 1 1) [u] :=
  rdi_owned (n := w.heap.size) (zs := [u]) ⟨rfl, .inr ⟨w.heap.size, 1, _, rfl, Nat.le_refl _, heap_new _ _, Nat.le_refl _, by unfold maxLen; simp, rfl, rfl⟩⟩
theorem tmod_two {q f : Nat} (h : q % 2 = f) : (q : Int).tmod 2 = (f : Int) := by rw [Int.tmod_eq_emod_of_nonneg (by omega)]; omega
theorem tdiv_two {q f : Nat} (h : q / 2 = f) : (q : Int).tdiv 2 = (f : Int) := by rw [Int.tdiv_eq_ediv_of_nonneg (by omega)]; omega
theorem ediv_two {q f : Nat} (h : q / 2 = f) : (q : Int) / 2 = (f : Int) := by omega
theorem wrap_nat {q : Nat} (h : q ≤ 65536) : wrap64 (q : Int) = (q : Int) := by unfold wrap64; omega
theorem mod_le_one {q f : Nat} (h : q % 2 = f) : f ≤ 1 := by omega
theorem half_le {q f : Nat} (h : q / 2 = f) (hq : q ≤ 32768) : f ≤ 65536 := by omega
theorem tdiv_nat {d B q : Nat} (h : d / B = q) : (d : Int).tdiv (B : Int) = (q : Int) := by
  rw [Int.tdiv_eq_ediv_of_nonneg (by omega), ← h]; exact (Int.natCast_ediv d B).symm
theorem top_digit {us : List Int} (h : Ok us) {i : Nat} (hi : i < us.length) : (nv (us.drop i)).toNat = (nv (us.drop (i + 1))).toNat * 65536 + us[i].toNat := by
  have h1 := Dg.nv_drop hi
  have h2 := h.at hi
  have h3 := Dg.nv_nonneg (h.drop (i + 1))
  omega

set_option maxHeartbeats 16000000 in
theorem Mod_fact (us vs : List Int) (ha : Ok us) (hb : Ok vs) (hla : us.length ≤ 1000) (hlb : vs.length ≤ 1000) (M : Nat) (hM : nv vs = (M : Int)) (hM0 : 0 < M) (hM1 : M ≤ 65536 ^ 16) (sa sb : Value) (w : World) (hA : RdI w.heap.size w sa us) (hB : RdI w.heap.size w sb vs) :
    Calls Try.prog 38 #[sa, sb] w fun e w' => (∃ v, e = .returned v ∧ RdI w'.heap.size w' v (dg ((nv us).toNat % M))) ∧ Below w.heap.size w w' := by
  have len1 : ∀ y, y < M → (dg y).length ≤ 17 := fun y hy => Dg.dg_length_le (Nat.lt_of_lt_of_le hy (Nat.le_trans hM1 (Nat.pow_le_pow_right (by decide) (by decide))))
  have len2 : ∀ y, y < M → ∀ f, f ≤ 1 → (dg (2 * y + f)).length ≤ 17 := fun y hy f hf => Dg.dg_length_le (by
    have e : (65536 : Nat) ^ 17 = 65536 ^ 16 * 65536 := Nat.pow_succ 65536 16
    rw [e]
    generalize (65536 : Nat) ^ 16 = B at hM1
    omega)
  have PA : ∀ (y : Nat) (hy : y < M) (s : Value) (w : World), RdI w.heap.size w s (dg y) → Calls Try.prog 40 #[s, s] w fun e w' => (∃ v, e = .returned v ∧ RdI w'.heap.size w' v (dg (2 * y))) ∧ Below w.heap.size w w' := fun y hy s w h => by
    have := Plus_fact (dg y) (dg y) (Dg.dg_ok _) (Dg.dg_ok _) (by have := len1 y hy; omega) (by have := len1 y hy; omega) s s w h h
    rw [Dg.nv_dg, show ((y : Int) + (y : Int)).toNat = 2 * y by omega] at this
    exact this
  have PB : ∀ (y : Nat) (hy : y < M) (s t : Value) (w : World), RdI w.heap.size w s (dg (2 * y)) → RdI w.heap.size w t [1] → Calls Try.prog 40 #[s, t] w fun e w' => (∃ v, e = .returned v ∧ RdI w'.heap.size w' v (dg (2 * y + 1))) ∧ Below w.heap.size w w' := fun y hy s t w h h2 => by
    have := Plus_fact (dg (2 * y)) [1] (Dg.dg_ok _) (Dg.Ok.one (by decide)) (by have := len2 y hy 0 (by omega); rw [Nat.add_zero] at this; omega) (by decide) s t w h h2
    rw [Dg.nv_dg, Dg.nv_one, show (((2 * y : Nat) : Int) + 1).toNat = 2 * y + 1 by omega] at this
    exact this
  have LS : ∀ (y f : Nat) (hy : y < M) (hf : f ≤ 1) (s t : Value) (w : World), RdI w.heap.size w s (dg (2 * y + f)) → RdI w.heap.size w t vs → Calls Try.prog 22 #[s, t] w fun e w' => e = .returned (.bool (decide (2 * y + f < M))) ∧ Below w.heap.size w w' := fun y f hy hf s t w h h2 => by
    have := Less_fact (dg (2 * y + f)) vs (Dg.dg_ok _) hb (by have := len2 y hy f hf; omega) (by omega) s t w h h2
    rw [Dg.nv_dg, hM] at this
    rw [show decide (2 * y + f < M) = decide (((2 * y + f : Nat) : Int) < (M : Int)) from decide_eq_decide.2 (by omega)]
    exact this
  have MI : ∀ (y f : Nat) (hy : y < M) (hf : f ≤ 1) (hge : ¬ 2 * y + f < M) (s t : Value) (w : World), RdI w.heap.size w s (dg (2 * y + f)) → RdI w.heap.size w t vs → Calls Try.prog 49 #[s, t] w fun e w' => (∃ v, e = .returned v ∧ RdI w'.heap.size w' v (dg (2 * y + f - M))) ∧ Below w.heap.size w w' := fun y f hy hf hge s t w h h2 => by
    have := Minus_fact (dg (2 * y + f)) vs (Dg.dg_ok _) hb (by have := len2 y hy f hf; omega) (by rw [Dg.nv_dg, hM]; omega) s t w h h2
    rw [Dg.nv_dg, hM, show (((2 * y + f : Nat) : Int) - (M : Int)).toNat = 2 * y + f - M by omega] at this
    exact this
  have HPA := Lib.hid PA; have HPB := Lib.hid PB; have HLS := Lib.hid LS; have HMI := Lib.hid MI
  have HA := Lib.hid hA; have HBB := Lib.hid hB; have HOA := Lib.hid ha; have HM0 := Lib.hid hM0
  clear PA PB LS MI len1 len2 hA hB ha hb hM hM0 hM1 hlb
  obtain ⟨x1, c1, rfl⟩ := HA.out.some
  obtain ⟨x2, c2, rfl⟩ := HBB.out.some
  go_enter Try.func38, Try.ntmps38
  go_wp2
  go_loopg [5, 6] (us.length + 1) (fun kq v5 v6 wr => ∃ (i x : Nat) (z : Int), v6 = .int .i64 z ∧ Hid (z = (i : Int) - 1 ∧ kq = i + 1 ∧ i ≤ us.length) ∧ Hid (x = (nv (us.drop i)).toNat % M) ∧ Hid (RdI wr.heap.size wr v5 (dg x)) ∧ Hid (Below w.heap.size w wr))
  case atStart =>
    refine ⟨us.length, 0, _, rfl, ⟨by first | rfl | omega | (rw [wrap_pred (by omega)]), rfl, Nat.le_refl _⟩, ?_, .inl ⟨rfl, Dg.dg_zero⟩, Below.refl _ _⟩
    show 0 = _
    rw [List.drop_eq_nil_of_le (Nat.le_refl _)]
    exact (Nat.zero_mod _).symm
  case round =>
    obtain ⟨i, x, z, rfl, HZ, HX, HR, HB⟩ := hrel
    rcases i with _ | i
    · obtain rfl : z = -1 := by have := HZ.out.1; omega
      have hr := HR.out
      rw [HX.out, List.drop_zero] at hr
      have HR2 := Lib.hid hr
      clear hr HR
      go_wp2
      go_ret
      exact ⟨⟨_, rfl, HR2.out⟩, HB.out⟩
    · obtain rfl : z = (i : Int) := by have := HZ.out.1; omega
      have ia : i < us.length := by have := HZ.out.2.2; omega
      have hia : (i : Int) < (us.length : Int) := by omega
      have hk : gk = i + 1 + 1 := HZ.out.2.1
      obtain ⟨d, hd⟩ : ∃ d : Nat, us[i].toNat = d := ⟨_, rfl⟩
      have oa := HOA.out.at ia
      have hdv : us[i] = (d : Int) := by omega
      have hdl : d < 65536 := by omega
      have hxM : x < M := by rw [HX.out]; exact Nat.mod_lt _ HM0.out
      have HTOP := Lib.hid (top_digit HOA.out ia)
      rw [hd] at HTOP
      have HS0 := Lib.hid (SM_start hxM hdl)
      have HXM := Lib.hid hxM; have HDV := Lib.hid hdv; have HDL := Lib.hid hdl
      clear oa hd hdv hdl hxM
      go_wp2
      go_loopg [5, 7] 16 (fun kb v5 v7 wr => ∃ (B y : Nat), v7 = .int .i64 B ∧ Hid (kb ≤ 16 ∧ B = 2 ^ kb / 2) ∧ Hid (SM M x d kb y ∧ y < M) ∧ Hid (RdI wr.heap.size wr v5 (dg y)) ∧ Hid (Below w.heap.size w wr))
      case atStart => exact ⟨32768, x, rfl, ⟨Nat.le_refl _, by decide⟩, ⟨HS0.out, HXM.out⟩, HR.out, HB.out⟩
      case round =>
        clear HR HB
        obtain ⟨B, y, rfl, HK, HY, HR, HB⟩ := hrel
        rcases gk with _ | kb
        · obtain rfl : B = 0 := HK.out.2
          have hfin := SM_end HY.out.1
          have HF : Hid (y = (nv (us.drop i)).toNat % M) := by
            show y = _
            rw [hfin, HX.out, HTOP.out, Nat.add_mod, Nat.mod_mul_mod, ← Nat.add_mod]
          clear hfin
          go_wp2
          go_roundg (i + 1)
          case measure => omega
          case rel => exact ⟨i, y, (i : Int) - 1, by simp, ⟨rfl, rfl, by omega⟩, HF.out, HR.out, HB.out⟩
        · have hB : B = 2 ^ kb := by rw [HK.out.2, Nat.pow_succ, Nat.mul_div_cancel _ (by decide)]
          have hkb : kb < 16 := by have := HK.out.1; omega
          have hBpos : 0 < B := by rw [hB]; exact Nat.pow_pos (by decide)
          have hBle : B ≤ 32768 := by rw [hB]; exact Nat.le_trans (Nat.pow_le_pow_right (n := 2) (by decide) (show kb ≤ 15 by omega)) (by decide)
          have hBi : (0 : Int) < (B : Int) := by omega
          have hBz : ¬ (B : Int) = 0 := by omega
          obtain ⟨q, hq⟩ : ∃ q, d / B = q := ⟨_, rfl⟩
          obtain ⟨f, hf⟩ : ∃ f, q % 2 = f := ⟨_, rfl⟩
          have hq1 := tdiv_nat hq
          have hql : q < 65536 := by rw [← hq]; exact Nat.lt_of_le_of_lt (Nat.div_le_self _ _) HDL.out
          have hqw := wrap_nat (Nat.le_of_lt hql)
          have hf1 := tmod_two hf
          have hfl := mod_le_one hf
          obtain ⟨B2, hB2⟩ : ∃ B2, B / 2 = B2 := ⟨_, rfl⟩
          have hB3 := tdiv_two hB2
          have hB4 := ediv_two hB2
          have hB5 := wrap_nat (half_le hB2 hBle)
          have HBN : Hid (kb ≤ 16 ∧ B2 = 2 ^ kb / 2) := ⟨Nat.le_of_lt hkb, by rw [← hB2, hB]⟩
          have HSM : Hid (∀ z, z = (2 * y + f) % M → SM M x d kb z ∧ z < M) := fun z hz => ⟨SM_step hkb HY.out.1 (by rw [hz, ← hf, ← hq, hB]), by rw [hz]; exact Nat.mod_lt _ HM0.out⟩
          have cellA : ∃ t, x1 = some t ∧ wr.cell? (t.add i) = some (.int .i64 (d : Int)) := by
            rcases HA.out with ⟨e, h0⟩ | ⟨t, cap, e, _, hyb, hcs⟩
            · rw [h0] at ia; simp at ia
            · injection e with e1 e2 e3
              exact ⟨t, e1, by rw [← HDV.out]; exact (HB.out.cell (p := t.add i) (by rw [add_block]; exact hyb)).trans (ints_at hcs ia)⟩
          obtain ⟨t1, rfl, ct⟩ := cellA
          have HTB := HA.out
          have hyM := HY.out.2
          obtain ⟨s5, k5, e5⟩ := HR.out.some
          subst e5
          clear hq hf hB hB2 hkb hBle
          go_wp2_with (fail)
          go_at_call 40
          refine (HPA.out y hyM _ _ HR.out).mono ?_
          rintro e wa ⟨⟨v1, rfl, hv1⟩, hb1⟩
          obtain ⟨s6, k6, e6⟩ := hv1.some
          subst e6
          have hct : wa.cell? (t1.add i) = some (.int .i64 (d : Int)) := (hb1.cell (p := t1.add i) (World.block_lt_of_cell? wr _ ct)).trans ct
          have HB1 : Hid (Below w.heap.size w wa) := below_call HB.out HB.out.size hb1
          have HV1 := Lib.hid hv1
          have HV2 := Lib.hid ((HBB.out.below HB1.out).up HB1.out.size)
          clear hv1 hb1 ct HR HB HTB
          rcases (show f = 0 ∨ f = 1 by omega) with rfl | rfl
          · have HV1' : Hid (RdI wa.heap.size wa (.slice s6 (dg (2 * y)).length k6) (dg (2 * y + 0))) := HV1.out
            by_cases hlt : 2 * y + 0 < M
            · have HL := Lib.hid (HLS.out y 0 hyM (by omega))
              rw [decide_eq_true hlt] at HL
              go_wp2_with (fail)
              go_at_call 22
              refine (HL.out _ _ _ HV1'.out HV2.out).mono ?_
              rintro e wl ⟨rfl, hbl⟩
              have HVL := Lib.hid (HV1'.out.next hbl); have HVM := Lib.hid (HV2.out.next hbl)
              have HBL : Hid (Below w.heap.size w wl) := below_call HB1.out HB1.out.size hbl
              clear hbl
              go_wp2
              go_roundg kb
              case measure => exact Nat.lt_succ_self kb
              case rel =>
                have hz := HSM.out (2 * y + 0) (mod_low hyM (by omega) hlt)
                exact ⟨B2, _, by first | rfl | (simp; done) | simp [hB5], HBN.out, hz, HVL.out, HBL.out⟩
            · have HL := Lib.hid (HLS.out y 0 hyM (by omega))
              rw [decide_eq_false hlt] at HL
              go_wp2_with (fail)
              go_at_call 22
              refine (HL.out _ _ _ HV1'.out HV2.out).mono ?_
              rintro e wl ⟨rfl, hbl⟩
              have HVL := Lib.hid (HV1'.out.next hbl); have HVM := Lib.hid (HV2.out.next hbl)
              have HBL : Hid (Below w.heap.size w wl) := below_call HB1.out HB1.out.size hbl
              clear hbl
              go_wp2_with (fail)
              go_at_call 49
              refine (HMI.out y 0 hyM (by omega) hlt _ _ _ HVL.out HVM.out).mono ?_
              rintro e wm ⟨⟨v9, rfl, hv9⟩, hb9⟩
              have HB9 : Hid (Below w.heap.size w wm) := below_call HBL.out HBL.out.size hb9
              have HV9 := Lib.hid hv9
              clear hv9 hb9
              go_wp2
              go_roundg kb
              case measure => exact Nat.lt_succ_self kb
              case rel =>
                have hz := HSM.out (2 * y + 0 - M) (mod_high hyM (by omega) hlt)
                exact ⟨B2, _, by first | rfl | (simp; done) | simp [hB5], HBN.out, hz, HV9.out, HB9.out⟩
          · go_wp2_with (fail)
            go_at_call 40
            have hAl : Below wa.heap.size wa (wa.alloc (.cells #[.int .i64 1] 3)) := (Below.refl _ _).alloc (Nat.le_refl _) _
            refine (HPB.out y hyM _ _ _ (HV1.out.next hAl) (rdi_one wa 1)).mono ?_
            rintro e wc ⟨⟨v3, rfl, hv3⟩, hb3⟩
            obtain ⟨s7, k7, e7⟩ := hv3.some
            subst e7
            have hb4 : Below wa.heap.size wa wc := below_call hAl hAl.size hb3
            have HB3 : Hid (Below w.heap.size w wc) := below_call HB1.out HB1.out.size hb4
            have HV3 := Lib.hid hv3
            have HV4 := Lib.hid (HV2.out.next hb4)
            clear hv3 hb3 hb4 hAl
            by_cases hlt : 2 * y + 1 < M
            · have HL := Lib.hid (HLS.out y 1 hyM (by omega))
              rw [decide_eq_true hlt] at HL
              go_wp2_with (fail)
              go_at_call 22
              refine (HL.out _ _ _ HV3.out HV4.out).mono ?_
              rintro e wl ⟨rfl, hbl⟩
              have HVL := Lib.hid (HV3.out.next hbl); have HVM := Lib.hid (HV4.out.next hbl)
              have HBL : Hid (Below w.heap.size w wl) := below_call HB3.out HB3.out.size hbl
              clear hbl
              go_wp2
              go_roundg kb
              case measure => exact Nat.lt_succ_self kb
              case rel =>
                have hz := HSM.out (2 * y + 1) (mod_low hyM (by omega) hlt)
                exact ⟨B2, _, by first | rfl | (simp; done) | simp [hB5], HBN.out, hz, HVL.out, HBL.out⟩
            · have HL := Lib.hid (HLS.out y 1 hyM (by omega))
              rw [decide_eq_false hlt] at HL
              go_wp2_with (fail)
              go_at_call 22
              refine (HL.out _ _ _ HV3.out HV4.out).mono ?_
              rintro e wl ⟨rfl, hbl⟩
              have HVL := Lib.hid (HV3.out.next hbl); have HVM := Lib.hid (HV4.out.next hbl)
              have HBL : Hid (Below w.heap.size w wl) := below_call HB3.out HB3.out.size hbl
              clear hbl
              go_wp2_with (fail)
              go_at_call 49
              refine (HMI.out y 1 hyM (by omega) hlt _ _ _ HVL.out HVM.out).mono ?_
              rintro e wm ⟨⟨v9, rfl, hv9⟩, hb9⟩
              have HB9 : Hid (Below w.heap.size w wm) := below_call HBL.out HBL.out.size hb9
              have HV9 := Lib.hid hv9
              clear hv9 hb9
              go_wp2
              go_roundg kb
              case measure => exact Nat.lt_succ_self kb
              case rel =>
                have hz := HSM.out (2 * y + 1 - M) (mod_high hyM (by omega) hlt)
                exact ⟨B2, _, by first | rfl | (simp; done) | simp [hB5], HBN.out, hz, HV9.out, HB9.out⟩

end Go.Proofs.Ytldnjbpcdojffaa
/- @@NUM 25 The walks of law 08's is, and of the document's Bytes. Conditions: words are below 2^64. -/
namespace Go.Proofs.Ytldnjbpcdojffaa
set_option linter.unusedVariables false
set_option linter.unusedSimpArgs false
open Go Go.RowKit
open Pl (V W4 T256 byteAt bytesOf)
open Dg (nv dg Ok Cn)

set_option maxHeartbeats 2000000 in
theorem is_fact (a0 a1 a2 a3 : Nat) (ha : W4 a0 a1 a2 a3) (us : List Int) (hu : Ok us) (hl : us.length ≤ 1048576) (sv : Value) (w : World) (hI : RdI w.heap.size w sv us) : Calls Try.prog 16 #[.agg #[.int .u64 a0, .int .u64 a1, .int .u64 a2, .int .u64 a3], sv] w fun e w' => e = .returned (.bool (decide ((V a0 a1 a2 a3 : Int) = nv us))) ∧ Below w.heap.size w w' := by
  have HR := Lib.hid (Ref_fact a0 a1 a2 a3 ha)
  have hdl : (dg (V a0 a1 a2 a3)).length ≤ 16 := Dg.dg_length_le (by have h := Pl.V_lt ha; exact Nat.lt_of_lt_of_eq h (by decide +kernel))
  have HS := Lib.hid (Same_fact (dg (V a0 a1 a2 a3)) us (Dg.dg_ok _) hu (by omega) hl)
  rw [Dg.nv_dg] at HS
  obtain ⟨N, hN⟩ : ∃ N, V a0 a1 a2 a3 = N := ⟨_, rfl⟩
  rw [hN] at HS HR ⊢
  obtain ⟨z, hz⟩ : ∃ z, decide ((N : Int) = nv us) = z := ⟨_, rfl⟩
  rw [hz] at HS ⊢
  have HI := Lib.hid hI
  clear hI hz hN hdl hl hu ha
  obtain ⟨sa, c2, rfl⟩ := HI.out.some
  go_enter Try.func16, Try.ntmps16
  go_wp2_with (fail)
  go_at_call 20
  refine (HR.out _).mono ?_
  rintro e wa ⟨⟨v, rfl, hv⟩, hb1⟩
  have hI2 : RdI wa.heap.size wa (.slice sa us.length c2) us := by
    have h1 := HI.out.next ((Below.refl w.heap.size w).alloc (Nat.le_refl _) (.cells #[.int .u64 a0, .int .u64 a1, .int .u64 a2, .int .u64 a3] 25))
    exact h1.next hb1
  have hB1 : Below w.heap.size w wa := ((Below.refl w.heap.size w).alloc (Nat.le_refl _) _).trans (hb1.mono (by simp))
  have HI2 := Lib.hid hI2; have HV := Lib.hid hv; have HB := Lib.hid hB1
  clear hI2 hv hB1 hb1
  obtain ⟨sb, c1, e1⟩ := HV.out.some
  subst e1
  go_wp2_with (fail)
  go_at_call 43
  refine (HS.out _ _ _ HV.out HI2.out).mono ?_
  rintro e wb ⟨rfl, hb2⟩
  have HBX := Lib.hid (below_call HB.out HB.out.size hb2)
  clear hb2
  go_wp2
  go_ret
  exact ⟨rfl, HBX.out⟩

theorem dg_get (N i : Nat) : (dg N)[i]?.getD 0 = ((N / 65536 ^ i % 65536 : Nat) : Int) := by
  induction i generalizing N with
  | zero =>
    by_cases h : N = 0
    · subst h; rw [Dg.dg_zero]; simp
    · rw [Dg.dg_pos h]; simp
  | succ i ih =>
    by_cases h : N = 0
    · subst h; rw [Dg.dg_zero]; simp
    · rw [Dg.dg_pos h, List.getElem?_cons_succ, ih, Nat.pow_succ', ← Nat.div_div_eq_div_mul]
theorem byte_digit {N i q r : Nat} (hi : i = 2 * q + r) (hr : r < 2) : byteAt N i = N / 65536 ^ q % 65536 / 256 ^ r % 256 := by
  have h64 : (65536 : Nat) = 256 ^ 2 := by decide
  have e1 : (256 : Nat) ^ 2 = 256 ^ r * 256 ^ (2 - r) := by rw [← Nat.pow_add]; congr 1; omega
  have e3 : (256 : Nat) ∣ 256 ^ (2 - r) := ⟨256 ^ (1 - r), by rw [← Nat.pow_succ']; congr 1; omega⟩
  unfold byteAt
  rw [hi, h64, Nat.pow_add, Nat.pow_mul, ← Nat.div_div_eq_div_mul]
  generalize N / (256 ^ 2) ^ q = M
  rw [e1, Nat.mod_mul_right_div_self, Nat.mod_mod_of_dvd _ e3]

set_option maxHeartbeats 8000000 in
theorem RBytes_fact (N : Nat) (sv : Value) (w : World) (hl : (dg N).length ≤ 1048576) (hI : RdI w.heap.size w sv (dg N)) : Calls Try.prog 19 #[sv] w fun e w' => (∃ v, e = .returned v ∧ w'.ownsRow w.heap.size 5 1 v 32 (u8s (bytesOf 32 N))) ∧ Below w.heap.size w w' := by
  obtain ⟨i0, hi, hz0, hz1, hz2⟩ := info_parts info_u8
  have hget : ∀ j, (dg N)[j]?.getD 0 = ((N / 65536 ^ j % 65536 : Nat) : Int) := dg_get N
  generalize dg N = zs at *
  have HG := Lib.hid hget
  have HI := Lib.hid hI
  clear hget hI
  obtain ⟨a1, c1, rfl⟩ := HI.out.some
  go_enter Try.func19, Try.ntmps19
  go_wp2
  go_loopg [3, 4] 32 (fun kq v3 v4 wr => ∃ k : Nat, v4 = .int .i64 k ∧ Hid (kq + k = 32) ∧ Hid (wr.ownsRow w.heap.size 5 1 v3 k (u8s (bytesOf k N))) ∧ Hid (Below w.heap.size w wr))
  case atStart => exact ⟨0, rfl, rfl, World.ownsRow_nil _ _ _ _, Below.refl _ _⟩
  case round =>
    obtain ⟨k, rfl, HK, HR, HB⟩ := hrel
    rcases gk with _ | kq
    · obtain rfl : k = 32 := by have := HK.out; omega
      go_wp2
      go_ret
      exact ⟨⟨_, rfl, HR.out⟩, HB.out⟩
    · have hk : k < 32 := by have := HK.out; omega
      have hown := HR.out
      have hb := HB.out
      have hlt := hown.lt
      obtain ⟨d, hd⟩ : ∃ d, N / 65536 ^ (k / 2) % 65536 = d := ⟨_, rfl⟩
      have hdl : d < 65536 := by rw [← hd]; exact Nat.mod_lt _ (by decide)
      have fin : ∀ (v' : Value) (w1 : World) (m : Nat), m = byteAt N k → w1.ownsRow w.heap.size 5 1 v' (k + 1) (u8s (bytesOf k N) ++ [.int .u8 (m : Int)]) → Hid (w1.ownsRow w.heap.size 5 1 v' (k + 1) (u8s (bytesOf (k + 1) N))) := fun v' w1 m hm h => by
        rw [Pl.bytesOf_succ, u8s_append, ← hm]; exact h
      by_cases hin : k / 2 < zs.length
      · have hcell : ∃ x, a1 = some x ∧ wr.cell? (x.add (k / 2)) = some (.int .i64 (d : Int)) := by
          rcases HI.out with ⟨e, h0⟩ | ⟨x, cap, e, _, hxb, hc⟩
          · rw [h0] at hin; simp at hin
          · injection e with e1 e2 e3
            refine ⟨x, e1, ?_⟩
            rw [hb.cell (p := x.add (k / 2)) (by rw [add_block]; exact hxb), hc _ hin, HG.out, hd]
        obtain ⟨x, rfl, hcx⟩ := hcell
        have hin2 : ((k : Int) / 2) < (zs.length : Int) := by omega
        have HD := Lib.hid hd
        clear hd
        rcases Nat.mod_two_eq_zero_or_one k with hp | hp
        · have hp1 : ((k : Int) % 2) = 0 := by omega
          obtain ⟨m, hm⟩ : ∃ m, d % 256 = m := ⟨_, rfl⟩
          have hm1 : (d : Int).tmod 256 = (m : Int) := by rw [Int.tmod_eq_emod_of_nonneg (by omega)]; omega
          have hm2 : (d : Int) % 256 = (m : Int) := by omega
          have hw : IntKind.u8.wrap (m : Int) = (m : Int) := by rw [IntKind.wrap_u8]; omega
          have HM : Hid (m = byteAt N k) := by
            show m = byteAt N k
            rw [byte_digit (q := k / 2) (r := 0) (by omega) (by omega), HD.out, ← hm] <;> simp
          clear hm
          go_wp2_with (at_builtin; refine wpList_append_own _ rfl _ _ 22 rfl w.heap.size 5 i0 (.int .u8 0) 1 1 Try.underlying22 hi hz0 hz1 hz2 rfl (by decide) _ _ _ rfl (hown.alloc _) ⟨wr.heap.size, 0, none⟩ 1 1 [.int .u8 (m : Int)] rfl rfl (cell_one_new _ _ _) (fun x hx => by simp at hx; subst hx; rfl) (by unfold maxLen; omega) (by omega) (by have := hb.size; simp; omega) ?_; intro v' w1 hown' hgrow hnil)
          go_roundg kq
          case measure => exact Nat.lt_succ_self kq
          case rel =>
            exact ⟨k + 1, by simp, (by have := HK.out; omega : kq + (k + 1) = 32), fin _ _ _ HM.out hown', (hb.alloc hb.size _).grown hgrow (by have := hb.size; simp; omega) (fun j e => (hlt _ e).1)⟩
        · have hp1 : ((k : Int) % 2) = 1 := by omega
          obtain ⟨q, hq⟩ : ∃ q, d / 256 = q := ⟨_, rfl⟩
          have hq1 : (d : Int).tdiv 256 = (q : Int) := by rw [Int.tdiv_eq_ediv_of_nonneg (by omega)]; omega
          have hq2 : (d : Int) / 256 = (q : Int) := by omega
          obtain ⟨m, hm⟩ : ∃ m, q % 256 = m := ⟨_, rfl⟩
          have hm1 : (q : Int).tmod 256 = (m : Int) := by rw [Int.tmod_eq_emod_of_nonneg (by omega)]; omega
          have hm2 : (q : Int) % 256 = (m : Int) := by omega
          have hw : IntKind.u8.wrap (m : Int) = (m : Int) := by rw [IntKind.wrap_u8]; omega
          have HM : Hid (m = byteAt N k) := by
            show m = byteAt N k
            rw [byte_digit (q := k / 2) (r := 1) (by omega) (by omega), HD.out, ← hm, ← hq] <;> simp
          clear hm hq
          go_wp2_with (at_builtin; refine wpList_append_own _ rfl _ _ 22 rfl w.heap.size 5 i0 (.int .u8 0) 1 1 Try.underlying22 hi hz0 hz1 hz2 rfl (by decide) _ _ _ rfl (hown.alloc _) ⟨wr.heap.size, 0, none⟩ 1 1 [.int .u8 (m : Int)] rfl rfl (cell_one_new _ _ _) (fun x hx => by simp at hx; subst hx; rfl) (by unfold maxLen; omega) (by omega) (by have := hb.size; simp; omega) ?_; intro v' w1 hown' hgrow hnil)
          go_roundg kq
          case measure => exact Nat.lt_succ_self kq
          case rel =>
            exact ⟨k + 1, by simp, (by have := HK.out; omega : kq + (k + 1) = 32), fin _ _ _ HM.out hown', (hb.alloc hb.size _).grown hgrow (by have := hb.size; simp; omega) (fun j e => (hlt _ e).1)⟩
      · have hd0 : d = 0 := by
          have h := HG.out (k / 2)
          rw [List.getElem?_eq_none (by omega), Option.getD_none, hd] at h
          omega
        have hin2 : ¬ ((k : Int) / 2) < (zs.length : Int) := by omega
        have HM : Hid (0 = byteAt N k) := by
          show 0 = byteAt N k
          rw [byte_digit (q := k / 2) (r := k % 2) (by omega) (Nat.mod_lt _ (by omega)), hd, hd0, Nat.zero_div]
        clear hd hd0
        rcases Nat.mod_two_eq_zero_or_one k with hp | hp
        · have hp1 : ((k : Int) % 2) = 0 := by omega
          go_wp2_with (at_builtin; refine wpList_append_own _ rfl _ _ 22 rfl w.heap.size 5 i0 (.int .u8 0) 1 1 Try.underlying22 hi hz0 hz1 hz2 rfl (by decide) _ _ _ rfl (hown.alloc _) ⟨wr.heap.size, 0, none⟩ 1 1 [.int .u8 0] rfl rfl (cell_one_new _ _ _) (fun x hx => by simp at hx; subst hx; rfl) (by unfold maxLen; omega) (by omega) (by have := hb.size; simp; omega) ?_; intro v' w1 hown' hgrow hnil)
          go_roundg kq
          case measure => exact Nat.lt_succ_self kq
          case rel =>
            exact ⟨k + 1, by simp, (by have := HK.out; omega : kq + (k + 1) = 32), fin _ _ _ HM.out hown', (hb.alloc hb.size _).grown hgrow (by have := hb.size; simp; omega) (fun j e => (hlt _ e).1)⟩
        · have hp1 : ((k : Int) % 2) = 1 := by omega
          go_wp2_with (at_builtin; refine wpList_append_own _ rfl _ _ 22 rfl w.heap.size 5 i0 (.int .u8 0) 1 1 Try.underlying22 hi hz0 hz1 hz2 rfl (by decide) _ _ _ rfl (hown.alloc _) ⟨wr.heap.size, 0, none⟩ 1 1 [.int .u8 0] rfl rfl (cell_one_new _ _ _) (fun x hx => by simp at hx; subst hx; rfl) (by unfold maxLen; omega) (by omega) (by have := hb.size; simp; omega) ?_; intro v' w1 hown' hgrow hnil)
          go_roundg kq
          case measure => exact Nat.lt_succ_self kq
          case rel =>
            exact ⟨k + 1, by simp, (by have := HK.out; omega : kq + (k + 1) = 32), fin _ _ _ HM.out hown', (hb.alloc hb.size _).grown hgrow (by have := hb.size; simp; omega) (fun j e => (hlt _ e).1)⟩

end Go.Proofs.Ytldnjbpcdojffaa
/- Plain law: words that bytes fill one by one. Conditions: none. -/
namespace Go.Proofs.Ytldnjbpcdojffaa
set_option linter.unusedVariables false
set_option linter.unusedSimpArgs false
namespace Pl

/-- The number of a row of words, the lowest one first. -/
def lw : List Nat → Nat
  | [] => 0
  | x :: l => x + 18446744073709551616 * lw l
theorem lw_set : ∀ (l : List Nat) (q y : Nat) (h : q < l.length), lw (l.set q y) + l[q] * 18446744073709551616 ^ q = lw l + y * 18446744073709551616 ^ q
  | [], q, y, h => by simp at h
  | x :: l, 0, y, h => by simp [lw]; omega
  | x :: l, q + 1, y, h => by
    have ih := lw_set l q y (by simpa using h)
    rw [List.set_cons_succ, lw, lw, List.getElem_cons_succ, Nat.pow_succ]
    generalize 18446744073709551616 ^ q = B at ih ⊢
    grind
theorem lw_get : ∀ (l : List Nat) (q : Nat) (h : q < l.length), (∀ x ∈ l, x < 18446744073709551616) → l[q] = lw l / 18446744073709551616 ^ q % 18446744073709551616
  | [], q, h, _ => by simp at h
  | x :: l, 0, h, ha => by
    have := ha x (by simp)
    simp [lw]; omega
  | x :: l, q + 1, h, ha => by
    have ih := lw_get l q (by simpa using h) fun y hy => ha y (by simp [hy])
    have hx := ha x (by simp)
    rw [List.getElem_cons_succ, ih, lw, Nat.pow_succ', ← Nat.div_div_eq_div_mul, show (x + 18446744073709551616 * lw l) / 18446744073709551616 = lw l by omega]
theorem lw_four (a b c d : Nat) : lw [a, b, c, d] = V a b c d := by simp [lw, V]; omega

theorem pow_word (q r : Nat) : (256 : Nat) ^ (8 * q + r) = 18446744073709551616 ^ q * 256 ^ r := by
  rw [Nat.pow_add, Nat.pow_mul]

/-- A byte more: the word it goes into is below its place. -/
theorem lw_byte {l : List Nat} {k q r c n : Nat} (hk : k = 8 * q + r) (hr : r < 8) (hq : q < l.length) (ha : ∀ x ∈ l, x < 18446744073709551616) (hc : c < 256) (hn : n < 256 ^ k) (hl : lw l = n) :
    l[q] < 256 ^ r ∧ l[q] + c * 256 ^ r < 18446744073709551616 ∧ lw (l.set q (l[q] + c * 256 ^ r)) = n + 256 ^ k * c := by
  have h1 := lw_get l q hq ha
  have h3 : l[q] < 256 ^ r := by
    rw [h1, hl]
    refine Nat.lt_of_le_of_lt (Nat.mod_le _ _) ?_
    rw [Nat.div_lt_iff_lt_mul (Nat.pow_pos (by decide)), Nat.mul_comm, ← pow_word, ← hk]
    exact hn
  have h4 : l[q] + c * 256 ^ r < 18446744073709551616 := by
    have e : (18446744073709551616 : Nat) = 256 ^ r * 256 ^ (8 - r) := by rw [← Nat.pow_add, show r + (8 - r) = 8 by omega]
    have e2 : 256 ≤ 256 ^ (8 - r) := by
      have := Nat.pow_le_pow_right (n := 256) (by decide) (show 1 ≤ 8 - r by omega)
      simpa using this
    have e3 : 256 ^ r * 256 ≤ 18446744073709551616 := by rw [e]; exact Nat.mul_le_mul_left _ e2
    have e4 : c * 256 ^ r ≤ 255 * 256 ^ r := Nat.mul_le_mul_right _ (by omega)
    omega
  refine ⟨h3, h4, ?_⟩
  have h2 := lw_set l q (l[q] + c * 256 ^ r) hq
  have e5 : (l[q] + c * 256 ^ r) * 18446744073709551616 ^ q = l[q] * 18446744073709551616 ^ q + 256 ^ k * c := by
    rw [Nat.add_mul, hk, pow_word, Nat.mul_comm c, Nat.mul_right_comm, Nat.mul_comm (256 ^ r)]
  rw [e5, hl] at h2
  omega

theorem le_take {zs : List Nat} {k : Nat} (h : k < zs.length) : le (zs.take (k + 1)) = le (zs.take k) + 256 ^ k * zs[k] := by
  rw [List.take_succ_eq_append_getElem h, le_append, List.length_take, Nat.min_eq_left (by omega), le, le, Nat.mul_zero, Nat.add_zero]
theorem le_take_lt {zs : List Nat} (hz : ∀ x ∈ zs, x < 256) {k : Nat} (h : k ≤ zs.length) : le (zs.take k) < 256 ^ k := by
  have := le_lt (zs.take k) fun x hx => hz x (List.mem_of_mem_take hx)
  rwa [List.length_take, Nat.min_eq_left h] at this

/-- Bits that don't meet. -/
theorem or_add {x c r : Nat} (hx : x < 256 ^ r) : x ||| c * 256 ^ r = x + c * 256 ^ r := by
  rw [show (256 : Nat) = 2 ^ 8 from rfl, ← Nat.pow_mul] at hx ⊢
  rw [Nat.or_comm, Nat.mul_comm, ← Nat.two_pow_add_eq_or_of_lt hx, Nat.add_comm]

end Pl
end Go.Proofs.Ytldnjbpcdojffaa
/- @@NUM 25 The walk of the document's Of: bytes as digits. Conditions: at most 100 bytes. -/
namespace Go.Proofs.Ytldnjbpcdojffaa
set_option linter.unusedVariables false
set_option linter.unusedSimpArgs false
open Go Go.RowKit
open Pl (V W4 T256 le)
open Dg (nv dg Ok Cn)

theorem own_set {w : World} {base n : Nat} {g cap : Nat} {xs : List Value} {i : Nat} (h : w.ownsRow base 3 1 (.slice (some ⟨g, 0, none⟩) n cap) n xs) (u : Value) : (w.setCell ⟨g, i, none⟩ u).ownsRow base 3 1 (.slice (some ⟨g, 0, none⟩) n cap) n (xs.set i u) := by
  obtain ⟨h1, h2⟩ := h
  refine ⟨by rw [List.length_set]; exact h1, ?_⟩
  rcases h2 with ⟨e, _⟩ | ⟨g2, cap2, cur, e, hb, hh, hle, hm, hs, ht⟩
  · cases e
  · injection e with e1 e2 e3
    injection e1 with e1
    injection e1 with e1
    subst e1 e3
    refine .inr ⟨g, cap, cur.setIfInBounds i u, rfl, hb, heap_set hh u, hle, hm, by simpa using hs, ?_⟩
    rw [← ht]
    simp [List.take_set]

/-- Digits that bytes make: after k bytes. -/
def OfD (zs : List Nat) (k : Nat) (ds : List Int) : Prop := ds.length = (k + 1) / 2 ∧ Ok ds ∧ nv ds = (le (zs.take k) : Int) ∧ (k % 2 = 1 → ∃ us d, ds = us ++ [d] ∧ 0 ≤ d ∧ d < 256)
theorem pow_two (m : Nat) : ((65536 : Int) ^ m) = ((256 ^ (2 * m) : Nat) : Int) := by
  have e := Int.natCast_pow 65536 m
  have e2 : ((65536 : Nat) : Int) = 65536 := rfl
  rw [e2] at e
  rw [← e, Nat.pow_mul]
theorem OfD.even {zs : List Nat} {k : Nat} {ds : List Int} (h : OfD zs k ds) (hk : k % 2 = 0) (hl : k < zs.length) (hz : zs[k] < 256) : OfD zs (k + 1) (ds ++ [(zs[k] : Int)]) := by
  obtain ⟨h1, h2, h3, _⟩ := h
  refine ⟨by rw [List.length_append, h1, List.length_singleton]; omega, h2.append (Dg.Ok.one (by omega)), ?_, fun _ => ⟨ds, _, rfl, by omega, by omega⟩⟩
  rw [Dg.nv_snoc, h1, h3, Pl.le_take hl, pow_two, show 2 * ((k + 1) / 2) = k by omega, Int.natCast_add, Int.natCast_mul]
theorem OfD.odd {zs : List Nat} {k : Nat} {ds : List Int} (h : OfD zs k ds) (hk : k % 2 = 1) (hl : k < zs.length) (hz : zs[k] < 256) : ∃ d : Int, ds[k / 2]? = some d ∧ 0 ≤ d ∧ d < 256 ∧ OfD zs (k + 1) (ds.set (k / 2) (d + 256 * (zs[k] : Int))) := by
  obtain ⟨h1, h2, h3, h4⟩ := h
  obtain ⟨us, d, rfl, hd0, hd1⟩ := h4 hk
  have hu : us.length = k / 2 := by rw [List.length_append, List.length_singleton] at h1; omega
  have hset : (us ++ [d]).set (k / 2) (d + 256 * (zs[k] : Int)) = us ++ [d + 256 * (zs[k] : Int)] := by
    rw [List.set_append_right _ _ (by omega), hu, Nat.sub_self]; rfl
  refine ⟨d, ?_, hd0, hd1, ?_⟩
  · rw [List.getElem?_append_right (by omega), hu, Nat.sub_self]; rfl
  · rw [hset]
    refine ⟨?_, h2.left.append (Dg.Ok.one (by omega)), ?_, fun h => by omega⟩
    · rw [List.length_append, List.length_singleton] at h1 ⊢; omega
    · rw [Dg.nv_snoc] at h3 ⊢
      rw [hu, pow_two] at h3
      rw [Pl.le_take hl, hu, pow_two]
      have e : (256 : Nat) ^ k = 256 ^ (2 * (k / 2)) * 256 := by rw [← Nat.pow_succ]; congr 1; omega
      rw [e, Int.natCast_add, ← h3]
      generalize (256 : Nat) ^ (2 * (k / 2)) = B
      clear h1 h2 h3 h4 hset e
      have e3 : ((256 : Nat) : Int) = 256 := rfl
      rw [Int.natCast_mul, Int.natCast_mul, e3]
      grind

set_option maxHeartbeats 8000000 in
theorem ROf_fact (zs : List Nat) (hz : ∀ x ∈ zs, x < 256) (hl : zs.length ≤ 100) (sv : Value) (w : World) (hI : Bts w.heap.size w sv zs) : Calls Try.prog 17 #[sv] w fun e w' => (∃ v, e = .returned v ∧ RdI w'.heap.size w' v (dg (le zs))) ∧ Below w.heap.size w w' := by
  obtain ⟨i0, hi, hz0, hz1, hz2⟩ := info_parts info_i64
  have hsome : ∃ a cap, sv = .slice a zs.length cap := by
    rcases hI with ⟨rfl, rfl⟩ | ⟨x, cap, rfl, _⟩
    · exact ⟨_, _, rfl⟩
    · exact ⟨_, _, rfl⟩
  obtain ⟨a1, c1, rfl⟩ := hsome
  have HI := Lib.hid hI; have HZ := Lib.hid hz
  clear hI hz
  go_enter Try.func17, Try.ntmps17
  go_wp2
  go_loopg [3, 7] zs.length (fun kq v3 v7 wr => ∃ (k : Nat) (ds : List Int), v7 = .int .i64 k ∧ Hid (kq + k = zs.length) ∧ Hid (OfD zs k ds) ∧ Hid (wr.ownsRow w.heap.size 3 1 v3 ds.length (i64s ds)) ∧ Hid (Below w.heap.size w wr))
  case atStart => exact ⟨0, [], rfl, rfl, ⟨rfl, Dg.Ok.nil, rfl, fun h => by omega⟩, World.ownsRow_nil _ _ _ _, Below.refl _ _⟩
  case round =>
    obtain ⟨k, ds, rfl, HK, HD, HR, HB⟩ := hrel
    rcases gk with _ | kq
    · obtain rfl : k = zs.length := by have := HK.out; omega
      have hrd : RdI wr.heap.size wr u3 ds := rdi_owned HR.out
      obtain ⟨x1, k1, e1⟩ := hrd.some
      subst e1
      have HRD := Lib.hid hrd
      have T := Lib.hid (Trim_fact ds HD.out.2.1 (by rw [HD.out.1]; omega))
      rw [HD.out.2.2.1, List.take_length, Int.toNat_natCast] at T
      clear hrd HR
      go_wp2_with (fail)
      go_at_call 44
      refine (T.out _ _ HRD.out).mono ?_
      rintro e wa ⟨⟨v, rfl, hv⟩, hb1⟩
      have HV := Lib.hid hv
      have HBX := Lib.hid (below_call HB.out HB.out.size hb1)
      clear hv hb1
      go_wp2
      go_ret
      exact ⟨⟨_, rfl, HV.out⟩, HBX.out⟩
    · have hk : k < zs.length := by have := HK.out; omega
      have hown := HR.out
      have hb := HB.out
      have hlt := hown.lt
      obtain ⟨c, hc⟩ : ∃ c, zs[k] = c := ⟨_, rfl⟩
      have hc256 : c < 256 := by rw [← hc]; exact HZ.out _ (List.getElem_mem _)
      have hcell : ∃ x, a1 = some x ∧ wr.cell? (x.add k) = some (.int .u8 (c : Int)) := by
        rcases HI.out with ⟨e, h0⟩ | ⟨x, cap, e, hxb, hcs⟩
        · rw [h0] at hk; simp at hk
        · injection e with e1 e2 e3
          refine ⟨x, e1, ?_⟩
          rw [hb.cell (p := x.add k) (by rw [add_block]; exact hxb), hcs _ hk, List.getElem?_eq_getElem hk, Option.getD_some, hc]
      obtain ⟨x, rfl, hcx⟩ := hcell
      have hkl : (k : Int) < (zs.length : Int) := by omega
      have hw0 : wrap64 (c : Int) = (c : Int) := by unfold wrap64; omega
      rcases Nat.mod_two_eq_zero_or_one k with hp | hp
      · have hp1 : ((k : Int) % 2) = 0 := by omega
        have HN : Hid (OfD zs (k + 1) (ds ++ [(c : Int)])) := by
          have := HD.out.even hp hk (by omega)
          rw [hc] at this; exact this
        have hdl : ds.length ≤ 100 := by rw [HD.out.1]; omega
        clear hc
        go_wp2_with (at_builtin; refine wpList_append_own _ rfl _ _ 31 rfl w.heap.size 3 i0 (.int .i64 0) 1 8 Try.underlying31 hi hz0 hz1 hz2 rfl (by decide) _ _ _ rfl (hown.alloc _) ⟨wr.heap.size, 0, none⟩ 1 1 [.int .i64 (c : Int)] rfl rfl (cell_one_new _ _ _) (fun x hx => by simp at hx; subst hx; rfl) (by unfold maxLen; omega) (by omega) (by have := hb.size; simp; omega) ?_; intro v' w1 hown' hgrow hnil)
        go_roundg kq
        case measure => exact Nat.lt_succ_self kq
        case rel =>
          exact ⟨k + 1, _, by simp, (by have := HK.out; omega : kq + (k + 1) = zs.length), HN.out, (by rw [List.length_append, i64s_append]; exact hown' : World.ownsRow _ _ _ _ _ (ds ++ [(c : Int)]).length (i64s (ds ++ [(c : Int)]))), (hb.alloc hb.size _).grown hgrow (by have := hb.size; simp; omega) (fun j e => (hlt _ e).1)⟩
      · have hp1 : ((k : Int) % 2) = 1 := by omega
        obtain ⟨d, hd, hd0, hd1, hnew⟩ := HD.out.odd hp hk (by omega)
        rw [hc] at hnew
        have hdl : ds.length = (k + 1) / 2 := HD.out.1
        have hin : k / 2 < ds.length := by omega
        have HN := Lib.hid hnew
        have hrow : ∃ g cap, u3 = .slice (some ⟨g, 0, none⟩) ds.length cap ∧ w.heap.size ≤ g ∧ ∀ i, wr.frozen? ⟨g, i, none⟩ = false := by
          rcases hown.2 with ⟨e, h0⟩ | ⟨g, cap, cur, e, hgb, hh, _⟩
          · omega
          · exact ⟨g, cap, e, hgb, frozen_of hh⟩
        obtain ⟨g, cap, rfl, hgb, hfz⟩ := hrow
        have hcd := World.ownsRow.cells hown (g := g) rfl (k / 2) (.int .i64 d) (by simp [i64s, hd])
        have hcd2 : wr.cell? ⟨g, k / 2, none⟩ = some (.int .i64 d) := by
          have e2 : ((⟨g, 0, none⟩ : Addr).add (k / 2)) = ⟨g, k / 2, none⟩ := by unfold Addr.add; split <;> simp_all
          rw [e2] at hcd; exact hcd
        have hin2 : ((k : Int) / 2) < (ds.length : Int) := by omega
        have hw1 : wrap64 (256 * (c : Int)) = 256 * (c : Int) := by unfold wrap64; omega
        have hw2 : wrap64 (d + 256 * (c : Int)) = d + 256 * (c : Int) := by unfold wrap64; omega
        have HOWN := Lib.hid hown
        clear hnew hown hlt hcd hc hd HR
        go_wp2
        go_region
        go_wp2
        have hs := own_set (i := k / 2) HOWN.out (.int .i64 (d + 256 * (c : Int)))
        have hset : (i64s ds).set (k / 2) (.int .i64 (d + 256 * (c : Int))) = i64s (ds.set (k / 2) (d + 256 * (c : Int))) := by simp [i64s, List.map_set]
        rw [hset] at hs
        go_roundg kq
        case measure => exact Nat.lt_succ_self kq
        case rel =>
          exact ⟨k + 1, ds.set (k / 2) (d + 256 * (c : Int)), by simp, (by have := HK.out; omega : kq + (k + 1) = zs.length), HN.out, (by rw [List.length_set]; exact hs : World.ownsRow (World.drew _) _ _ _ _ (ds.set (k / 2) (d + 256 * (c : Int))).length _), (hb.setCell (p := ⟨g, k / 2, none⟩) hgb _).drew⟩

end Go.Proofs.Ytldnjbpcdojffaa
/- @@NUM 25 The walk of the document's Times on digits. Conditions: rows of at most 1000 digits. -/
namespace Go.Proofs.Ytldnjbpcdojffaa
set_option linter.unusedVariables false
set_option linter.unusedSimpArgs false
open Go Go.RowKit
open Dg (nv dg Ok Cn)

/-- What holds when i rows, and k digits of the next one, have been laid together: c is carried. -/
structure TimesI (us vs : List Int) (i k : Nat) (ds : List Int) (c x : Int) : Prop where
  len : ds.length = us.length + vs.length + 1
  ok : Ok ds
  c0 : 0 ≤ c
  c1 : c < 65536
  k1 : k ≤ vs.length + 1
  val : nv ds + 65536 ^ (i + k) * c = nv (us.take i) * nv vs + 65536 ^ i * (x * nv (vs.take k))
  high : nv (ds.drop (i + vs.length + 1)) = 0
  low : k ≤ vs.length → nv (ds.drop (i + vs.length)) = 0
  last : k = vs.length + 1 → c = 0
theorem nv_set_drop {ds : List Int} {j n : Nat} (h : j < n) (y : Int) : (ds.set j y).drop n = ds.drop n := by rw [List.drop_set_of_lt h]
theorem Ok.set {ds : List Int} (h : Ok ds) (j : Nat) {y : Int} (hy : 0 ≤ y ∧ y < 65536) : Ok (ds.set j y) := fun z hz => by
  rcases List.mem_or_eq_of_mem_set hz with h1 | rfl
  · exact h z h1
  · exact hy
theorem mul_digits {a b : Int} (ha : 0 ≤ a ∧ a < 65536) (hb : 0 ≤ b ∧ b < 65536) : 0 ≤ a * b ∧ a * b ≤ 4294836225 := by
  refine ⟨Int.mul_nonneg ha.1 hb.1, ?_⟩
  have h1 : a * b ≤ 65535 * b := Int.mul_le_mul_of_nonneg_right (by omega) hb.1
  omega
/-- A digit that there is. -/
theorem TimesI.step {us vs : List Int} {i k : Nat} {ds : List Int} {c x : Int} (h : TimesI us vs i k ds c x) (hx : 0 ≤ x ∧ x < 65536) (hv : Ok vs) (hi : i < us.length) (hk : k < vs.length) (hj : i + k < ds.length) (T : Int) (hT : T = ds[i + k] + c + x * vs[k]) :
    0 ≤ T ∧ T < 4294967296 ∧ TimesI us vs i (k + 1) (ds.set (i + k) (T % 65536)) (T / 65536) x := by
  have h1 := h.ok.at hj
  have h2 := mul_digits hx (hv.at hk)
  have h3 := h.c0; have h4 := h.c1
  have t0 : 0 ≤ T := by omega
  have t1 : T < 4294967296 := by omega
  refine ⟨t0, t1, ⟨by rw [List.length_set]; exact h.len, Ok.set h.ok _ (by omega), by omega, by omega, by omega, ?_, by rw [nv_set_drop (by omega)]; exact h.high, fun _ => by rw [nv_set_drop (by omega)]; exact h.low (by omega), fun e => by omega⟩⟩
  rw [Dg.nv_set hj, Dg.nv_take hk]
  have e := h.val
  have e2 : (65536 : Int) ^ (i + (k + 1)) = 65536 ^ (i + k) * 65536 := by rw [← Int.pow_succ]; rfl
  have e3 : (65536 : Int) ^ (i + k) = 65536 ^ i * 65536 ^ k := Int.pow_add _ _ _
  have e4 : T = T % 65536 + 65536 * (T / 65536) := by omega
  rw [e2]
  generalize T % 65536 = m at *
  generalize T / 65536 = q at *
  generalize ds[i + k] = d at *
  generalize vs[k] = b at *
  rw [e3] at e ⊢
  generalize (65536 : Int) ^ i = P at *
  generalize (65536 : Int) ^ k = Q at *
  generalize nv (vs.take k) = V at *
  generalize nv (us.take i) * nv vs = Z at *
  clear h1 h2 h3 h4 t0 t1
  subst hT
  grind
/-- What is carried beyond the last digit. -/
theorem TimesI.over {us vs : List Int} {i k : Nat} {ds : List Int} {c x : Int} (h : TimesI us vs i k ds c x) (hi : i < us.length) (hk : ¬ k < vs.length) (hc : 0 < c) (hj : i + k < ds.length) : ds[i + k] = 0 ∧ TimesI us vs i (k + 1) (ds.set (i + k) c) 0 x := by
  have hk2 : k = vs.length := by
    have := h.k1
    rcases Nat.lt_or_ge vs.length k with h1 | h1
    · have := h.last (by omega); omega
    · omega
  subst hk2
  have hl := h.low (Nat.le_refl _)
  have hd := Dg.nv_drop hj
  have hn := Dg.nv_nonneg (h.ok.drop (i + vs.length + 1))
  have ho := h.ok.at hj
  have h0 : ds[i + vs.length] = 0 := by omega
  refine ⟨h0, ⟨by rw [List.length_set]; exact h.len, Ok.set h.ok _ ⟨h.c0, h.c1⟩, by omega, by omega, by omega, ?_, by rw [nv_set_drop (by omega)]; exact h.high, fun e => by omega, fun _ => rfl⟩⟩
  rw [Dg.nv_set hj, h0, Int.sub_zero, Int.mul_zero, Int.add_zero]
  have e := h.val
  rw [List.take_length] at e
  rw [show vs.take (vs.length + 1) = vs from List.take_of_length_le (by omega)]
  exact e
theorem TimesI.next {us vs : List Int} {i k : Nat} {ds : List Int} {x : Int} (h : TimesI us vs i k ds 0 x) (hi : i < us.length) (hx : us[i] = x) (hk : ¬ k < vs.length) : nv ds = nv (us.take (i + 1)) * nv vs ∧ nv (ds.drop (i + 1 + vs.length)) = 0 := by
  have e := h.val
  rw [show vs.take k = vs from List.take_of_length_le (by omega), Int.mul_zero, Int.add_zero] at e
  refine ⟨?_, by rw [show i + 1 + vs.length = i + vs.length + 1 by omega]; exact h.high⟩
  rw [e, Dg.nv_take hi, hx, Int.add_mul, Int.mul_assoc]
theorem drop_more {ds : List Int} (h : Ok ds) {n : Nat} (hz : nv (ds.drop n) = 0) : nv (ds.drop (n + 1)) = 0 := by
  rcases Nat.lt_or_ge n ds.length with h1 | h1
  · have h2 := Dg.nv_drop h1
    have h3 := Dg.nv_nonneg (h.drop (n + 1))
    have h4 := h.at h1
    omega
  · rw [List.drop_eq_nil_of_le (by omega)]; rfl
theorem TimesI.start {us vs : List Int} {i : Nat} {ds : List Int} {x : Int} (hl : ds.length = us.length + vs.length + 1) (ho : Ok ds) (hv : nv ds = nv (us.take i) * nv vs) (hz : nv (ds.drop (i + vs.length)) = 0) : TimesI us vs i 0 ds 0 x :=
  ⟨hl, ho, by omega, by omega, by omega, by simp [nv, hv], drop_more ho hz, fun _ => hz, fun e => by omega⟩

end Go.Proofs.Ytldnjbpcdojffaa
/- @@NUM 25 The walk of the document's Times on digits. Conditions: rows of at most 1000 digits. -/
namespace Go.Proofs.Ytldnjbpcdojffaa
set_option linter.unusedVariables false
set_option linter.unusedSimpArgs false
open Go Go.RowKit
open Dg (nv dg Ok Cn)

theorem made_zeros (n : Nat) : (madeCells (Value.int .i64 0).cells (n * 1)).toList = i64s (List.replicate n 0) := by
  rw [Nat.mul_one]
  apply List.ext_getElem
  · simp [madeCells, i64s]
  · intro i h1 h2
    simp [madeCells, i64s, Value.cells, Nat.mod_one]
theorem nv_zeros (n : Nat) : nv (List.replicate n 0) = 0 := by
  induction n with
  | zero => rfl
  | succ n ih => rw [List.replicate_succ, nv, ih]; rfl
theorem ok_zeros (n : Nat) : Ok (List.replicate n 0) := fun x hx => by
  obtain ⟨_, rfl⟩ := List.mem_replicate.1 hx
  omega
theorem own_cell {w : World} {base n : Nat} {g cap : Nat} {ds : List Int} {j : Nat} (h : w.ownsRow base 3 1 (.slice (some ⟨g, 0, none⟩) n cap) n (i64s ds)) (hj : j < ds.length) : w.cell? ⟨g, j, none⟩ = some (.int .i64 ds[j]) ∧ ∀ i, w.frozen? ⟨g, i, none⟩ = false := by
  have hcd := World.ownsRow.cells h (g := g) rfl j (.int .i64 ds[j]) (by simp [i64s, hj])
  have e2 : ((⟨g, 0, none⟩ : Addr).add j) = ⟨g, j, none⟩ := by unfold Addr.add; split <;> simp_all
  rw [e2] at hcd
  refine ⟨hcd, ?_⟩
  rcases h.2 with ⟨e, _⟩ | ⟨g2, cap2, cur, e, _, hh, _⟩
  · cases e
  · injection e with e1 e2 e3
    injection e1 with e1
    injection e1 with e1
    subst e1
    exact frozen_of hh
theorem own_put {w : World} {base n : Nat} {g cap : Nat} {ds : List Int} {j : Nat} {m : Int} (h : w.ownsRow base 3 1 (.slice (some ⟨g, 0, none⟩) n cap) n (i64s ds)) : (w.setCell ⟨g, j, none⟩ (.int .i64 m)).ownsRow base 3 1 (.slice (some ⟨g, 0, none⟩) n cap) n (i64s (ds.set j m)) := by
  have hs := own_set (i := j) h (.int .i64 m)
  have e : (i64s ds).set j (.int .i64 m) = i64s (ds.set j m) := by simp [i64s, List.map_set]
  rw [e] at hs; exact hs

set_option maxHeartbeats 16000000 in
theorem Times_fact (us vs : List Int) (ha : Ok us) (hb : Ok vs) (hla : us.length ≤ 1000) (hlb : vs.length ≤ 1000) (sa sb : Value) (w : World) (hA : RdI w.heap.size w sa us) (hB : RdI w.heap.size w sb vs) :
    Calls Try.prog 42 #[sa, sb] w fun e w' => (∃ v, e = .returned v ∧ RdI w'.heap.size w' v (dg (nv us * nv vs).toNat)) ∧ Below w.heap.size w w' := by
  obtain ⟨i0, hi, hz0, hz1, hz2⟩ := info_parts info_i64
  obtain ⟨L, hL⟩ : ∃ L, us.length + vs.length + 1 = L := ⟨_, rfl⟩
  have hLe : (us.length : Int) + (vs.length : Int) + 1 = (L : Int) := by omega
  have HA := Lib.hid hA; have HBB := Lib.hid hB; have HOA := Lib.hid ha; have HOB := Lib.hid hb; have HLL := Lib.hid hL
  clear hA hB ha hb hL
  obtain ⟨x1, c1, rfl⟩ := HA.out.some
  obtain ⟨x2, c2, rfl⟩ := HBB.out.some
  go_enter Try.func42, Try.ntmps42
  go_wp2_with (at_make; refine wpList_make_full _ rfl _ _ 31 rfl w.heap.size 3 i0 (.int .i64 0) 1 Try.underlying31 hi hz0 hz1 .i64 .i64 _ _ L rfl rfl (by first | rfl | exact hLe | omega) (by first | rfl | exact hLe | omega) (by rw [hz2]; have := HLL.out; omega) (by have := HLL.out; unfold maxLen; omega) (Nat.le_refl _) ?_; intro w0 hown0 hgrow0)
  rw [made_zeros] at hown0
  have HO0 := Lib.hid hown0
  have HB0 : Hid (Below w.heap.size w w0) := (Below.refl _ w).grown hgrow0 (Nat.le_refl _) (fun k e => by cases e)
  clear hown0 hgrow0 hLe
  go_loopg [19] us.length (fun kq v19 wr => ∃ (i : Nat) (ds : List Int), v19 = .int .i64 i ∧ Hid (kq + i = us.length) ∧ Hid (ds.length = us.length + vs.length + 1 ∧ Ok ds ∧ nv ds = nv (us.take i) * nv vs ∧ nv (ds.drop (i + vs.length)) = 0) ∧ Hid (wr.ownsRow w.heap.size 3 1 (.slice (some ⟨w.heap.size, 0, none⟩) L L) L (i64s ds)) ∧ Hid (Below w.heap.size w wr))
  case atStart =>
    refine ⟨0, List.replicate L 0, rfl, rfl, ⟨by rw [List.length_replicate, HLL.out], ok_zeros _, by simp [nv_zeros, nv], ?_⟩, HO0.out, HB0.out⟩
    rw [List.drop_replicate]; exact nv_zeros _
  case round =>
    obtain ⟨i, ds, rfl, HK, HD, HR, HB⟩ := hrel
    rcases gk with _ | kq
    · obtain rfl : i = us.length := by have := HK.out; omega
      have hdl : ds.length = L := by rw [HD.out.1]; exact HLL.out
      have hrd : RdI wr.heap.size wr (.slice (some ⟨w.heap.size, 0, none⟩) L L) ds := by
        have := HR.out
        rw [← hdl] at this ⊢
        exact rdi_owned this
      have HRD := Lib.hid hrd
      have T := Lib.hid (Trim_fact ds HD.out.2.1 (by have := HLL.out; omega))
      rw [HD.out.2.2.1, List.take_length] at T
      clear hrd hdl
      go_wp2_with (fail)
      go_at_call 44
      refine (T.out _ _ HRD.out).mono ?_
      rintro e wa ⟨⟨v, rfl, hv⟩, hb1⟩
      have HV := Lib.hid hv
      have HBX := Lib.hid (below_call HB.out HB.out.size hb1)
      clear hv hb1
      go_wp2
      go_ret
      exact ⟨⟨_, rfl, HV.out⟩, HBX.out⟩
    · have ia : i < us.length := by have := HK.out; omega
      have hia : (i : Int) < (us.length : Int) := by omega
      obtain ⟨x, hx⟩ : ∃ x, us[i] = x := ⟨_, rfl⟩
      have HX := Lib.hid hx
      have HOX := Lib.hid (HOA.out.at ia)
      rw [hx] at HOX
      have cellA : ∃ y, x1 = some y ∧ y.block < w.heap.size ∧ w.cell? (y.add i) = some (.int .i64 x) := by
        rcases HA.out with ⟨e, h0⟩ | ⟨y, cap, e, _, hyb, hcs⟩
        · rw [h0] at ia; simp at ia
        · injection e with e1 e2 e3
          exact ⟨y, e1, hyb, by rw [← hx]; exact ints_at hcs ia⟩
      obtain ⟨y1, rfl, hyb, cy0⟩ := cellA
      have HCY := Lib.hid cy0; have HYB := Lib.hid hyb
      have HST : Hid (TimesI us vs i 0 ds 0 x) := TimesI.start HD.out.1 HD.out.2.1 HD.out.2.2.1 HD.out.2.2.2
      clear hx cy0 hyb
      go_wp2
      go_loopg [7, 8] (vs.length + 1) (fun kk v7 v8 wr => ∃ (k : Nat) (ds : List Int) (c : Int), v7 = .int .i64 c ∧ v8 = .int .i64 k ∧ Hid (kk + k = vs.length + 1) ∧ Hid (TimesI us vs i k ds c x) ∧ Hid (wr.ownsRow w.heap.size 3 1 (.slice (some ⟨w.heap.size, 0, none⟩) L L) L (i64s ds)) ∧ Hid (Below w.heap.size w wr))
      case atStart => exact ⟨0, ds, 0, rfl, rfl, rfl, HST.out, HR.out, HB.out⟩
      case round =>
        clear HR HB HST HD
        obtain ⟨k, ds, c, rfl, rfl, HKK, HT, HR, HB⟩ := hrel
        have hk1 := HT.out.k1
        have c0 := HT.out.c0; have c1_ := HT.out.c1
        by_cases ik : k < vs.length
        · obtain ⟨kk, rfl⟩ : ∃ kk, gk = kk + 1 := ⟨gk - 1, by have := HKK.out; omega⟩
          have hik : (k : Int) < (vs.length : Int) := by omega
          have hj : i + k < ds.length := by rw [HT.out.len]; omega
          have hjL : ((i : Int) + (k : Int)) < (L : Int) := by have := HLL.out; omega
          obtain ⟨cd, hfz⟩ := own_cell HR.out hj
          have od := HT.out.ok.at hj
          have ox := HOX.out
          have ob := HOB.out.at ik
          have hmul := mul_digits ox ob
          have cellB : ∃ y, x2 = some y ∧ wr.cell? (y.add k) = some (.int .i64 vs[k]) := by
            rcases HBB.out with ⟨e, h0⟩ | ⟨y, cap, e, _, hyb, hcs⟩
            · rw [h0] at ik; simp at ik
            · injection e with e1 e2 e3
              exact ⟨y, e1, (HB.out.cell (p := y.add k) (by rw [add_block]; exact hyb)).trans (ints_at hcs ik)⟩
          obtain ⟨y2, rfl, cy2⟩ := cellB
          have cy1 : wr.cell? (y1.add i) = some (.int .i64 x) := (HB.out.cell (p := y1.add i) (by rw [add_block]; exact HYB.out)).trans HCY.out
          have hstep := HT.out.step ox HOB.out ia ik hj _ rfl
          obtain ⟨d, hd⟩ : ∃ d, ds[i + k] = d := ⟨_, rfl⟩
          obtain ⟨b, hbe⟩ : ∃ b, vs[k] = b := ⟨_, rfl⟩
          rw [hd] at cd od hstep
          rw [hbe] at cy2 ob hmul hstep
          obtain ⟨p, hp⟩ : ∃ p, x * b = p := ⟨_, rfl⟩
          rw [hp] at hmul hstep
          have hw1 : wrap64 (d + c) = d + c := Dg.wrap_ok (by omega) (by omega)
          have hw2 : wrap64 p = p := Dg.wrap_ok (by omega) (by omega)
          have hw3 : wrap64 (d + c + p) = d + c + p := Dg.wrap_ok (by omega) (by omega)
          obtain ⟨m, hm⟩ : ∃ m, (d + c + p) % 65536 = m := ⟨_, rfl⟩
          obtain ⟨q, hq⟩ : ∃ q, (d + c + p) / 65536 = q := ⟨_, rfl⟩
          rw [hm, hq] at hstep
          have hm1 : (d + c + p).tmod 65536 = m := by rw [Int.tmod_eq_emod_of_nonneg (by omega)]; exact hm
          have hq1 : (d + c + p).tdiv 65536 = q := by rw [Int.tdiv_eq_ediv_of_nonneg (by omega)]; exact hq
          have hqw : wrap64 q = q := Dg.wrap_ok (by omega) (by omega)
          have HN := Lib.hid hstep.2.2
          have HPUT := Lib.hid (own_put (j := i + k) (m := m) HR.out)
          clear hm hq hd hbe hstep hj
          go_wp2
          go_region
          go_wp2
          go_roundg kk
          case measure => exact Nat.lt_succ_self kk
          case rel => exact ⟨k + 1, _, q, by first | rfl | (simp; done) | simp [hqw], by simp, (by have := HKK.out; omega : kk + (k + 1) = vs.length + 1), HN.out, HPUT.out, (HB.out.setCell (p := ⟨w.heap.size, i + k, none⟩) (Nat.le_refl _) _).drew⟩
        · have hik : ¬ (k : Int) < (vs.length : Int) := by omega
          by_cases hc : 0 < c
          · obtain ⟨kk, rfl⟩ : ∃ kk, gk = kk + 1 := ⟨gk - 1, by
              have := HKK.out
              rcases Nat.lt_or_ge vs.length k with h1 | h1
              · have := HT.out.last (by omega); omega
              · omega⟩
            have hkv : k ≤ vs.length := by have := HKK.out; omega
            have hj : i + k < ds.length := by rw [HT.out.len]; omega
            have hjL : ((i : Int) + (k : Int)) < (L : Int) := by have := HLL.out; omega
            obtain ⟨cd, hfz⟩ := own_cell HR.out hj
            obtain ⟨h0, hover⟩ := HT.out.over ia ik hc hj
            rw [h0] at cd
            have hw1 : wrap64 c = c := Dg.wrap_ok (by omega) (by omega)
            have hm1 : c.tmod 65536 = c := by rw [Int.tmod_eq_emod_of_nonneg (by omega)]; omega
            have hq1 : c.tdiv 65536 = 0 := by rw [Int.tdiv_eq_ediv_of_nonneg (by omega)]; omega
            have HN := Lib.hid hover
            have HPUT := Lib.hid (own_put (j := i + k) (m := c) HR.out)
            clear hover h0 hj hkv
            go_wp2
            go_roundg kk
            case measure => exact Nat.lt_succ_self kk
            case rel => exact ⟨k + 1, _, 0, by first | rfl | simp, by simp, (by have := HKK.out; omega : kk + (k + 1) = vs.length + 1), HN.out, HPUT.out, HB.out.setCell (p := ⟨w.heap.size, i + k, none⟩) (Nat.le_refl _) _⟩
          · obtain rfl : c = 0 := by omega
            have hnx := HT.out.next ia HX.out ik
            have HN := Lib.hid hnx
            clear hnx
            go_wp2
            go_roundg kq
            case measure => exact Nat.lt_succ_self kq
            case rel => exact ⟨i + 1, ds, by simp, (by have := HK.out; omega : kq + (i + 1) = us.length), ⟨HT.out.len, HT.out.ok, HN.out.1, HN.out.2⟩, HR.out, HB.out⟩

end Go.Proofs.Ytldnjbpcdojffaa
/- @@NUM 25 The walk of the document's Prime as digits. Conditions: none. -/
namespace Go.Proofs.Ytldnjbpcdojffaa
set_option linter.unusedVariables false
set_option linter.unusedSimpArgs false
open Go Go.RowKit
open Dg (nv dg Ok Cn)

def primeD (k : Nat) : List Int := 65517 :: List.replicate k 65535
theorem primeD_succ (k : Nat) : primeD (k + 1) = primeD k ++ [65535] := by simp [primeD, List.replicate_succ']
def primeL : List Int := primeD 14 ++ [32767]
theorem primeL_ok : Ok primeL := by unfold Dg.Ok; decide
theorem primeL_v : nv primeL = (Pl.pP : Int) := by decide +kernel
theorem primeL_len : primeL.length = 16 := by decide

set_option maxHeartbeats 4000000 in
theorem RPrime_fact (w : World) : Calls Try.prog 31 #[] w fun e w' => (∃ v, e = .returned v ∧ RdI w'.heap.size w' v primeL) ∧ Below w.heap.size w w' := by
  obtain ⟨i0, hi, hz0, hz1, hz2⟩ := info_parts info_i64
  go_enter Try.func31, Try.ntmps31
  go_wp2
  go_loopg [1, 2] 14 (fun kq v1 v2 wr => ∃ k : Nat, v2 = .int .i64 ((k + 1 : Nat) : Int) ∧ Hid (kq + k = 14) ∧ Hid (wr.ownsRow w.heap.size 3 1 v1 (k + 1) (i64s (primeD k))) ∧ Hid (Below w.heap.size w wr))
  case atStart => exact ⟨0, rfl, rfl, ⟨rfl, .inr ⟨w.heap.size, 1, _, rfl, Nat.le_refl _, heap_new _ _, Nat.le_refl _, by unfold maxLen; omega, rfl, rfl⟩⟩, (Below.refl _ w).alloc (Nat.le_refl _) _⟩
  case round =>
    obtain ⟨k, rfl, HK, HR, HB⟩ := hrel
    have hown := HR.out
    have hb := HB.out
    have hlt := hown.lt
    rcases gk with _ | kq
    · obtain rfl : k = 14 := by have := HK.out; omega
      go_wp2_with (at_builtin; refine wpList_append_own _ rfl _ _ 31 rfl w.heap.size 3 i0 (.int .i64 0) 1 8 Try.underlying31 hi hz0 hz1 hz2 rfl (by decide) _ _ _ rfl (hown.alloc _) ⟨wr.heap.size, 0, none⟩ 1 1 [.int .i64 32767] rfl rfl (cell_one_new _ _ _) (fun x hx => by simp at hx; subst hx; rfl) (by unfold maxLen; omega) (by omega) (by have := hb.size; simp; omega) ?_; intro v' w1 hown' hgrow hnil)
      go_ret
      refine ⟨⟨_, rfl, rdi_owned (n := w.heap.size) ?_⟩, (hb.alloc hb.size _).grown hgrow (by have := hb.size; simp; omega) (fun j e => (hlt _ e).1)⟩
      show World.ownsRow _ _ _ _ _ 16 (i64s (primeD 14 ++ [32767]))
      rw [i64s_append]; exact hown'
    · have hk : k < 14 := by have := HK.out; omega
      go_wp2_with (at_builtin; refine wpList_append_own _ rfl _ _ 31 rfl w.heap.size 3 i0 (.int .i64 0) 1 8 Try.underlying31 hi hz0 hz1 hz2 rfl (by decide) _ _ _ rfl (hown.alloc _) ⟨wr.heap.size, 0, none⟩ 1 1 [.int .i64 65535] rfl rfl (cell_one_new _ _ _) (fun x hx => by simp at hx; subst hx; rfl) (by unfold maxLen; omega) (by omega) (by have := hb.size; simp; omega) ?_; intro v' w1 hown' hgrow hnil)
      go_roundg kq
      case measure => exact Nat.lt_succ_self kq
      case rel =>
        exact ⟨k + 1, by first | rfl | simp | (congr 1; push_cast; omega), (by have := HK.out; omega : kq + (k + 1) = 14), (by rw [primeD_succ, i64s_append]; exact hown' : World.ownsRow _ _ _ _ _ (k + 1 + 1) (i64s (primeD (k + 1)))), (hb.alloc hb.size _).grown hgrow (by have := hb.size; simp; omega) (fun j e => (hlt _ e).1)⟩

end Go.Proofs.Ytldnjbpcdojffaa
/- @@NUM 25 Plain law of the document's Fold on digits. Conditions: none. -/
namespace Go.Proofs.Ytldnjbpcdojffaa
set_option linter.unusedVariables false
set_option linter.unusedSimpArgs false
open Go Go.RowKit
open Dg (nv dg Ok Cn)
open Pl (pP)

/-- 2^255 -/
def q255 : Nat := 57896044618658097711785492504343953926634992332820282019728792003956564819968
theorem q255_p : q255 = pP + 19 := by decide +kernel
theorem q255_w : q255 = 65536 ^ 15 * 32768 := by decide +kernel
/-- One fold. -/
theorem fold_same (x : Nat) : (x % q255 + x / q255 * 19) % pP = x % pP := by
  have h := Nat.div_add_mod x q255
  have e : x = x % q255 + x / q255 * 19 + pP * (x / q255) := by
    rw [q255_p] at *
    generalize x % (pP + 19) = r at *
    generalize x / (pP + 19) = d at *
    rw [← h]; grind
  conv => rhs; rw [e]
  rw [Nat.add_mul_mod_self_left]
theorem fold_less {x : Nat} (h : q255 ≤ x) : x % q255 + x / q255 * 19 < x := by
  have h1 := Nat.div_add_mod x q255
  have hq : 19 < q255 := by decide +kernel
  have h2 : 0 < x / q255 := Nat.div_pos h (by omega)
  generalize x % q255 = r at *
  generalize x / q255 = d at *
  have h3 : d * 19 < d * q255 := Nat.mul_lt_mul_of_pos_left hq h2
  rw [Nat.mul_comm q255 d] at h1
  omega
def lowD (x : Nat) : List Int := dgs 15 x ++ [((x / 65536 ^ 15 % 65536 % 32768 : Nat) : Int)]
theorem lowD_ok (x : Nat) : Ok (lowD x) := (dgs_ok 15 x).append (Dg.Ok.one (by omega))
theorem lowD_len (x : Nat) : (lowD x).length = 16 := by rw [lowD, List.length_append, dgs_length]; rfl
theorem lowD_v (x : Nat) : (nv (lowD x)).toNat = x % q255 := by
  rw [lowD, Dg.nv_snoc, nv_dgs, dgs_length, q255_w, Nat.mod_mul, Nat.mod_mod_of_dvd _ (by decide : 32768 ∣ 65536)]
  have e := Int.natCast_pow 65536 15
  have e2 : ((65536 : Nat) : Int) = 65536 := rfl
  rw [e2] at e
  rw [← e, ← Int.natCast_mul, ← Int.natCast_add, Int.toNat_natCast]
/-- A digit of the high part. -/
theorem high_digit (x j : Nat) : x / q255 / 65536 ^ j % 65536 = x / 65536 ^ (15 + j) % 65536 / 32768 + x / 65536 ^ (15 + j + 1) % 65536 % 32768 * 2 := by
  have e1 : x / q255 / 65536 ^ j = x / 65536 ^ (15 + j) / 32768 := by
    rw [q255_w, Nat.div_div_eq_div_mul, Nat.div_div_eq_div_mul, Nat.pow_add]
    congr 1
    rw [Nat.mul_assoc, Nat.mul_assoc, Nat.mul_comm 32768]
  have e2 : x / 65536 ^ (15 + j + 1) = x / 65536 ^ (15 + j) / 65536 := by rw [Nat.pow_succ, Nat.div_div_eq_div_mul]
  rw [e1, e2]
  generalize x / 65536 ^ (15 + j) = Z
  omega
theorem high_v {x n : Nat} (h : x < 65536 ^ (15 + n)) : (nv (dgs n (x / q255))).toNat = x / q255 := by
  rw [nv_dgs, Int.toNat_natCast]
  apply Nat.mod_eq_of_lt
  rw [Nat.div_lt_iff_lt_mul (by decide +kernel)]
  rw [Nat.pow_add] at h
  have h2 : (65536 : Nat) ^ 15 ≤ q255 := by decide +kernel
  calc x < 65536 ^ 15 * 65536 ^ n := h
    _ ≤ q255 * 65536 ^ n := Nat.mul_le_mul_right _ h2
    _ = 65536 ^ n * q255 := Nat.mul_comm _ _
theorem dg_take {x n : Nat} (h : n ≤ (dg x).length) : (dg x).take n = dgs n x := by
  apply List.ext_getElem
  · rw [List.length_take, dgs_length]; omega
  · intro i h1 h2
    rw [dgs_length] at h2
    have e := dg_get x i
    rw [List.getElem?_eq_getElem (by omega), Option.getD_some] at e
    simp [dgs, e]
/-- Whether a number is to be folded is told by its digits. -/
theorem fold_long {x : Nat} (h : 16 < (dg x).length) : q255 ≤ x := by
  rcases Nat.lt_or_ge x q255 with h1 | h1
  · have := Dg.dg_length_le (n := x) (k := 16) (Nat.lt_of_lt_of_le h1 (by decide +kernel)); omega
  · exact h1
theorem fold_sixteen {x : Nat} (h : (dg x).length = 16) : q255 ≤ x ↔ 32767 < x / 65536 ^ 15 % 65536 := by
  have h1 : x < 65536 ^ 16 := by
    have h2 := Dg.nv_lt (Dg.dg_ok x)
    rw [Dg.nv_dg, h] at h2
    have e : ((65536 : Int) ^ 16) = ((65536 ^ 16 : Nat) : Int) := by decide +kernel
    rw [e] at h2
    exact Int.ofNat_lt.1 h2
  have h3 : x / 65536 ^ 15 < 65536 := by
    rw [Nat.div_lt_iff_lt_mul (by decide +kernel)]
    exact Nat.lt_of_lt_of_eq h1 (by decide +kernel)
  rw [Nat.mod_eq_of_lt h3, q255_w]
  have h4 : (32767 < x / 65536 ^ 15) ↔ 32768 * 65536 ^ 15 ≤ x := by
    rw [← Nat.le_div_iff_mul_le (by decide +kernel)]
    omega
  rw [h4, Nat.mul_comm]
theorem fold_short {x : Nat} (h : (dg x).length < 16) : x < q255 := by
  rcases Nat.lt_or_ge x q255 with h1 | h1
  · exact h1
  · exfalso
    have h2 := Dg.nv_lt (Dg.dg_ok x)
    rw [Dg.nv_dg] at h2
    have h5 : (65536 : Int) ^ (dg x).length ≤ 65536 ^ 15 := by
      obtain ⟨d, hd⟩ : ∃ d, 15 = (dg x).length + d := ⟨15 - (dg x).length, by omega⟩
      conv => rhs; rw [hd]
      rw [Int.pow_add]
      have h6 : (0 : Int) < 65536 ^ (dg x).length := Int.pow_pos (by decide)
      have h7 : (0 : Int) < 65536 ^ d := Int.pow_pos (by decide)
      have := Int.mul_le_mul_of_nonneg_left (show (1 : Int) ≤ 65536 ^ d by omega) (Int.le_of_lt h6)
      omega
    have h6 : ((65536 : Int) ^ 15) ≤ ((q255 : Nat) : Int) := by decide +kernel
    have h7 : ((q255 : Nat) : Int) ≤ (x : Int) := Int.ofNat_le.2 h1
    exact absurd (Int.lt_of_lt_of_le h2 (Int.le_trans h5 (Int.le_trans h6 h7))) (Int.lt_irrefl _)
theorem fold_end {x : Nat} (h : x < q255) : x < pP ∧ x = x % pP ∨ pP ≤ x ∧ x - pP = x % pP := by
  have hp := q255_p
  have h2 : 19 < pP := by decide +kernel
  rcases Nat.lt_or_ge x pP with h1 | h1
  · exact .inl ⟨h1, (Nat.mod_eq_of_lt h1).symm⟩
  · refine .inr ⟨h1, ?_⟩
    rw [Nat.mod_eq_sub_mod h1, Nat.mod_eq_of_lt (by omega)]

end Go.Proofs.Ytldnjbpcdojffaa
/- @@NUM 25 The walk of the document's Fold on digits: a number modulo the prime. Conditions: the number is below 65536^40. -/
namespace Go.Proofs.Ytldnjbpcdojffaa
set_option linter.unusedVariables false
set_option linter.unusedSimpArgs false
open Go Go.RowKit
open Dg (nv dg Ok Cn)
open Pl (pP)

theorem own_empty {w : World} {n : Nat} (h : n ≤ w.heap.size) (cs : Array Value) (hc : cs.size = 0) : (w.alloc (.cells cs 3)).ownsRow n 3 1 (.slice (some ⟨w.heap.size, 0, none⟩) 0 0) 0 (i64s []) :=
  ⟨rfl, .inr ⟨w.heap.size, 0, cs, rfl, h, heap_new _ _, Nat.le_refl _, Nat.zero_le _, by omega, by simp [i64s]⟩⟩
theorem i64s_one {l : List Int} : ∀ u ∈ i64s l, u.oneCell' = true := fun u hu => by
  simp only [i64s, List.mem_map] at hu
  obtain ⟨z, _, rfl⟩ := hu
  rfl
theorem rdi_cells {n : Nat} {w : World} {x : Addr} {len cap : Nat} {zs : List Int} (h : RdI n w (.slice (some x) len cap) zs) : ∀ j u, (i64s zs)[j]? = some u → w.cell? (x.add j) = some u := by
  rcases h with ⟨e, _⟩ | ⟨y, c, e, _, _, hc⟩
  · cases e
  · injection e with e1 e2 e3
    injection e1 with e1
    subst e1
    intro j u hj
    rcases Nat.lt_or_ge j zs.length with h1 | h1
    · rw [hc j h1]
      simp only [i64s, List.getElem?_map, List.getElem?_eq_getElem h1, Option.map_some] at hj
      rw [List.getElem?_eq_getElem h1, Option.getD_some]; exact hj
    · rw [List.getElem?_eq_none (by rw [i64s_length]; exact h1)] at hj; cases hj
theorem rdi_take {n : Nat} {w : World} {x : Addr} {len cap k : Nat} {zs : List Int} (h : RdI n w (.slice (some x) len cap) zs) (hk : k ≤ zs.length) : RdI n w (.slice (some x) k cap) (zs.take k) := by
  rcases h with ⟨e, _⟩ | ⟨y, c, e, hl, hb, hc⟩
  · cases e
  · injection e with e1 e2 e3
    injection e1 with e1
    subst e1 e3
    have hkl : (zs.take k).length = k := by rw [List.length_take]; omega
    refine .inr ⟨x, cap, by rw [hkl], by rw [hkl]; omega, hb, fun j hj => ?_⟩
    rw [hkl] at hj
    rw [hc j (by omega), List.getElem?_take_of_lt hj]

end Go.Proofs.Ytldnjbpcdojffaa
