/- @@NUM 25 The walks of the document's Less and Same on digits. Conditions: rows of at most 2^20 digits. -/
import Derived.Test.YtldnjbpcdojffaaI1
namespace Go.Proofs.Ytldnjbpcdojffaa
set_option linter.unusedVariables false
set_option linter.unusedSimpArgs false
open Go Go.RowKit
open Dg (nv dg Ok Cn)

theorem less_more {B x y a b : Int} (hx : 0 ≤ x) (hy : 0 ≤ y) (hx2 : x < B) (hy2 : y < B) (h : a < b) : x + B * a < y + B * b := by
  have h3 : B * (a + 1) ≤ B * b := Int.mul_le_mul_of_nonneg_left (by omega) (by omega)
  rw [Int.mul_add, Int.mul_one] at h3
  omega
theorem ints_at {w : World} {x : Addr} {zs : List Int} (h : ∀ j, j < zs.length → w.cell? (x.add j) = some (.int .i64 (zs[j]?.getD 0))) {i : Nat} (hi : i < zs.length) : w.cell? (x.add i) = some (.int .i64 zs[i]) := by
  rw [h i hi, List.getElem?_eq_getElem hi, Option.getD_some]

set_option maxHeartbeats 8000000 in
theorem Less_fact (us vs : List Int) (ha : Ok us) (hb : Ok vs) (hla : us.length ≤ 1048576) (hlb : vs.length ≤ 1048576) (sa sb : Value) (w : World) (hA : RdI w.heap.size w sa us) (hB : RdI w.heap.size w sb vs) :
    Calls Try.prog 22 #[sa, sb] w fun e w' => e = .returned (.bool (decide (nv us < nv vs))) ∧ Below w.heap.size w w' := by
  obtain ⟨p, hp⟩ : ∃ p : Nat, (nv us).toNat = p := ⟨_, rfl⟩
  obtain ⟨q, hq⟩ : ∃ q : Nat, (nv vs).toNat = q := ⟨_, rfl⟩
  have hpv : nv us = (p : Int) := by have := Dg.nv_nonneg ha; omega
  have hqv : nv vs = (q : Int) := by have := Dg.nv_nonneg hb; omega
  have lp := Dg.dg_nv_len ha; rw [hp] at lp
  have lq := Dg.dg_nv_len hb; rw [hq] at lq
  have T1 := Lib.hid (Trim_fact us ha hla); have T2 := Lib.hid (Trim_fact vs hb hlb)
  rw [hp] at T1; rw [hq] at T2
  obtain ⟨R, hR⟩ : ∃ R, decide (nv us < nv vs) = R := ⟨_, rfl⟩
  rw [hR]
  have HR : Hid (decide (p < q) = R) := by
    rw [← hR, hpv, hqv]
    exact decide_eq_decide.2 (by omega)
  have lp2 : (dg p).length ≤ 1048576 := by omega
  have lq2 : (dg q).length ≤ 1048576 := by omega
  have HA := Lib.hid hA; have HBb := Lib.hid hB
  clear hR hpv hqv hp hq lp lq hA hB ha hb hla hlb
  obtain ⟨a1, c1, rfl⟩ := HA.out.some
  obtain ⟨a2, c2, rfl⟩ := HBb.out.some
  go_enter Try.func22, Try.ntmps22
  go_wp2_with (fail)
  go_at_call 44
  refine (T1.out _ _ HA.out).mono ?_
  rintro e wa ⟨⟨v1, rfl, hv1⟩, hb1⟩
  have HB1 := Lib.hid (HBb.out.next hb1)
  have HV1 := Lib.hid hv1
  have HBW := Lib.hid hb1
  clear hv1 hb1 HA HBb T1
  go_wp2_with (fail)
  go_at_call 44
  refine (T2.out _ _ HB1.out).mono ?_
  rintro e wb ⟨⟨v2, rfl, hv2⟩, hb2⟩
  have HV2 := Lib.hid hv2
  have HV3 := Lib.hid (HV1.out.next hb2)
  have HBX : Hid (Below w.heap.size w wb) := below_call HBW.out HBW.out.size hb2
  clear hv2 hb2 HV1 HB1 HBW T2
  obtain ⟨x1, k1, e1⟩ := HV3.out.some
  obtain ⟨x2, k2, e2⟩ := HV2.out.some
  subst e1 e2
  by_cases hl : (dg p).length = (dg q).length
  · obtain ⟨n, hn⟩ : ∃ n, (dg p).length = n := ⟨_, rfl⟩
    have hn2 : (dg q).length = n := by rw [← hl, hn]
    have hv3 := HV3.out; have hv2 := HV2.out
    rw [hn] at hv3 lp2
    rw [hn2] at hv2
    rw [hn, hn2]
    have HN : Hid ((dg p).length = n) := hn
    have HN2 : Hid ((dg q).length = n) := hn2
    clear hl lq2 HV3 HV2
    have HV3 := Lib.hid hv3; have HV2 := Lib.hid hv2
    clear hv3 hv2 hn hn2
    go_wp2
    go_loopg [5] (n + 1) (fun kq v5 wr => ∃ z : Int, v5 = .int .i64 z ∧ Hid (z = (kq : Int) - 2 ∧ 1 ≤ kq ∧ kq ≤ n + 1) ∧ Hid (R = decide (nv ((dg p).take (kq - 1)) < nv ((dg q).take (kq - 1)))) ∧ Hid (Below wb.heap.size wb wr))
    case atStart =>
      refine ⟨_, rfl, ⟨by omega, by omega, by omega⟩, ?_, Below.refl _ _⟩
      have h1 := HR.out
      have e3 : (dg p).take (n + 1 - 1) = dg p := by rw [show n + 1 - 1 = n by omega, ← HN.out]; exact List.take_length
      have e4 : (dg q).take (n + 1 - 1) = dg q := by rw [show n + 1 - 1 = n by omega, ← HN2.out]; exact List.take_length
      show R = decide _
      rw [← h1, e3, e4, Dg.nv_dg, Dg.nv_dg]
      exact decide_eq_decide.2 (by omega)
    case round =>
      obtain ⟨z, rfl, HZ, HD, HB3⟩ := hrel
      obtain ⟨i, rfl⟩ : ∃ i, gk = i + 1 := ⟨gk - 1, by have := HZ.out.2.1; omega⟩
      rcases i with _ | i
      · obtain rfl : z = -1 := by have := HZ.out.1; omega
        have hd := HD.out
        simp [nv] at hd
        subst hd
        go_wp2
        go_ret
        exact ⟨rfl, HBX.out.trans (HB3.out.mono HBX.out.size)⟩
      · obtain rfl : z = (i : Int) := by have := HZ.out.1; omega
        have hi : i < n := by have := HZ.out.2.2; omega
        rcases HV3.out with ⟨e, h0⟩ | ⟨y1, j1, e, _, hb1, hc1⟩
        · rw [h0] at HN; have := HN.out; simp at this; omega
        rcases HV2.out with ⟨e', h0⟩ | ⟨y2, j2, e', _, hb2, hc2⟩
        · rw [h0] at HN2; have := HN2.out; simp at this; omega
        have hi1 : i < (dg p).length := by rw [HN.out]; exact hi
        have hi2 : i < (dg q).length := by rw [HN2.out]; exact hi
        injection e with e5 e6 e7; subst e5
        injection e' with e5 e6 e8; subst e5
        have cx := (HB3.out.cell (p := y1.add i) (by rw [add_block]; exact hb1)).trans (ints_at hc1 hi1)
        have cy := (HB3.out.cell (p := y2.add i) (by rw [add_block]; exact hb2)).trans (ints_at hc2 hi2)
        have hd := HD.out
        rw [show i + 1 + 1 - 1 = i + 1 by omega, Dg.nv_take hi1, Dg.nv_take hi2] at hd
        have n1 := Dg.nv_nonneg ((Dg.dg_ok p).take i)
        have n2 := Dg.nv_nonneg ((Dg.dg_ok q).take i)
        have l1 := Dg.nv_lt ((Dg.dg_ok p).take i)
        have l2 := Dg.nv_lt ((Dg.dg_ok q).take i)
        rw [List.length_take, Nat.min_eq_left (by omega)] at l1 l2
        obtain ⟨a, hae⟩ : ∃ a, (dg p)[i] = a := ⟨_, rfl⟩
        obtain ⟨b, hbe⟩ : ∃ b, (dg q)[i] = b := ⟨_, rfl⟩
        rw [hae] at cx hd; rw [hbe] at cy hd
        have HDD := Lib.hid hd
        have HL1 := Lib.hid l1; have HL2 := Lib.hid l2; have HN1 := Lib.hid n1; have HN3 := Lib.hid n2
        clear hd l1 l2 n1 n2 hae hbe hc1 hc2 hb1 hb2 e7 e8 hi1 hi2 e6
        by_cases hab : a = b
        · subst hab
          have hd := HDD.out
          have HD2 : Hid (R = decide (nv ((dg p).take i) < nv ((dg q).take i))) := hd.trans (decide_eq_decide.2 (by omega))
          clear hd HDD
          go_wp2
          go_region
          go_wp2
          go_roundg (i + 1)
          case measure => omega
          case rel => exact ⟨(i : Int) - 1, congrArg _ (by simp), ⟨by omega, by omega, by omega⟩, HD2.out, HB3.out.drew⟩
        · have HE : Hid (R = decide (a < b)) := by
            refine HDD.out.trans (decide_eq_decide.2 ⟨fun h => ?_, less_more HN1.out HN3.out HL1.out HL2.out⟩)
            rcases Int.lt_or_gt_of_ne hab with h2 | h2
            · exact h2
            · have := less_more HN3.out HN1.out HL2.out HL1.out h2
              omega
          clear HDD
          go_wp2
          go_region
          go_wp2
          go_region
          go_wp2
          go_ret
          rw [HE.out]
          exact ⟨rfl, HBX.out.trans ((HB3.out.drew.drew).mono HBX.out.size)⟩
  · have hlt : ¬ (((dg p).length : Int) = ((dg q).length : Int)) := by omega
    have HE : Hid (R = decide ((dg p).length < (dg q).length)) := by
      rw [← HR.out]
      refine decide_eq_decide.2 ⟨fun h => ?_, fun h => Dg.dg_len (by omega)⟩
      rcases Nat.lt_trichotomy (dg p).length (dg q).length with h4 | h4 | h4
      · omega
      · exact absurd h4 hl
      · have := Dg.dg_len h4; omega
    clear hl
    go_wp2
    go_ret
    rw [HE.out]
    exact ⟨rfl, HBX.out⟩

theorem same_dec {x y : Int} : (!decide (x < y) && !decide (y < x)) = decide (x = y) := by
  by_cases h : x < y
  · rw [decide_eq_true h, decide_eq_false (show ¬ x = y by omega)]; rfl
  · by_cases h2 : y < x
    · rw [decide_eq_false h, decide_eq_true h2, decide_eq_false (show ¬ x = y by omega)]; rfl
    · rw [decide_eq_false h, decide_eq_false h2, decide_eq_true (show x = y by omega)]; rfl

set_option maxHeartbeats 4000000 in
theorem Same_fact (us vs : List Int) (ha : Ok us) (hb : Ok vs) (hla : us.length ≤ 1048576) (hlb : vs.length ≤ 1048576) (sa sb : Value) (w : World) (hA : RdI w.heap.size w sa us) (hB : RdI w.heap.size w sb vs) :
    Calls Try.prog 43 #[sa, sb] w fun e w' => e = .returned (.bool (decide (nv us = nv vs))) ∧ Below w.heap.size w w' := by
  have L1 := Lib.hid (Less_fact us vs ha hb hla hlb); have L2 := Lib.hid (Less_fact vs us hb ha hlb hla)
  rw [← same_dec]
  obtain ⟨x, hx⟩ : ∃ x, decide (nv us < nv vs) = x := ⟨_, rfl⟩
  obtain ⟨y, hy⟩ : ∃ y, decide (nv vs < nv us) = y := ⟨_, rfl⟩
  rw [hx] at L1 ⊢; rw [hy] at L2 ⊢
  have HA := Lib.hid hA; have HBb := Lib.hid hB
  clear hA hB ha hb hla hlb hx hy
  obtain ⟨a1, c1, rfl⟩ := HA.out.some
  obtain ⟨a2, c2, rfl⟩ := HBb.out.some
  go_enter Try.func43, Try.ntmps43
  go_wp2_with (fail)
  go_at_call 22
  refine (L1.out _ _ _ HA.out HBb.out).mono ?_
  rintro e wa ⟨rfl, hb1⟩
  cases x
  · go_wp2_with (fail)
    go_at_call 22
    refine (L2.out _ _ _ (HBb.out.next hb1) (HA.out.next hb1)).mono ?_
    rintro e wb ⟨rfl, hb2⟩
    have HBX := Lib.hid (below_call hb1 hb1.size hb2)
    clear hb1 hb2
    go_wp2
    go_ret
    exact ⟨by cases y <;> rfl, HBX.out⟩
  · have HBX := Lib.hid hb1
    clear hb1
    go_wp2
    go_ret
    exact ⟨rfl, HBX.out⟩

end Go.Proofs.Ytldnjbpcdojffaa
