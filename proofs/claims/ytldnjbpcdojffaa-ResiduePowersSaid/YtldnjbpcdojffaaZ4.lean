/- @@NUM 25 The walk of the document's Fold on digits: a number modulo the prime. Conditions: the number is below 65536^40. -/
import Derived.Test.YtldnjbpcdojffaaZ3
import Derived.Test.YtldnjbpcdojffaaZ2
import Derived.Laws.Bits64b
import Derived.Laws.BytesArg
import Derived.WalkSmall
set_option linter.unusedSectionVars false
namespace Go.Proofs.Ytldnjbpcdojffaa
set_option linter.unusedVariables false
set_option linter.unusedSimpArgs false
open Go Go.RowKit
open Dg (nv dg Ok Cn)
open Pl (pP)

/-- 65536^40 -/
def b40 : Nat := 65536 ^ 40
theorem b40_len {x : Nat} (h : x < b40) : (dg x).length ≤ 40 := Dg.dg_length_le h
def d15 (x : Nat) : Nat := x / 65536 ^ 15 % 65536
theorem d15_lt (x : Nat) : d15 x < 65536 := Nat.mod_lt _ (by decide)
theorem dg_lt (x : Nat) : x < 65536 ^ (dg x).length := by
  have h2 := Dg.nv_lt (Dg.dg_ok x)
  rw [Dg.nv_dg] at h2
  have e := Int.natCast_pow 65536 (dg x).length
  have e2 : ((65536 : Nat) : Int) = 65536 := rfl
  rw [e2] at e
  rw [← e] at h2
  exact Int.ofNat_lt.1 h2
theorem rdi_at {n : Nat} {w : World} {sa : Option Addr} {len cap x i : Nat} (h : RdI n w (.slice sa len cap) (dg x)) (hi : i < (dg x).length) : ∃ y, sa = some y ∧ len ≤ cap ∧ w.cell? (y.add i) = some (.int .i64 ((x / 65536 ^ i % 65536 : Nat) : Int)) := by
  rcases h with ⟨e, h0⟩ | ⟨y, c, e, hl, hb, hc⟩
  · rw [h0] at hi; simp at hi
  · injection e with e1 e2 e3
    refine ⟨y, e1, by omega, ?_⟩
    rw [hc i hi, dg_get]

theorem rdi_19 (w : World) (n : Nat) (h : n = w.heap.size + 1 := by simp) : RdI n (w.alloc (.cells #[.int .i64 19] 3)) (.slice (some ⟨w.heap.size, 0, none⟩) 1 1) [19] := by
  subst h
  refine .inr ⟨⟨w.heap.size, 0, none⟩, 1, rfl, Nat.le_refl _, Nat.lt_succ_self _, fun j hj => ?_⟩
  obtain rfl : j = 0 := by simp at hj; omega
  exact cell_one_new _ _ _ 0 _ rfl
theorem fold_three {x : Nat} (h : x < b40) (hq : q255 ≤ x) : x / q255 < b40 ∧ x % q255 < b40 ∧ x / q255 * 19 < b40 ∧ x % q255 + x / q255 * 19 < x := by
  have h1 := fold_less hq
  have h2 := Nat.div_le_self x q255
  have h3 := Nat.mod_le x q255
  generalize x % q255 = r at *
  generalize x / q255 = d at *
  refine ⟨Nat.lt_of_le_of_lt h2 h, Nat.lt_of_le_of_lt h3 h, ?_, h1⟩
  exact Nat.lt_of_le_of_lt (by omega) h

theorem hL_back {n : Nat} {w : World} {sa : Option Addr} {L cap x : Nat} (h : RdI n w (.slice sa L cap) (dg x)) (_ : (dg x).length = L) : RdI n w (.slice sa L cap) (dg x) := h
theorem hL_to {n : Nat} {w : World} {sa : Option Addr} {L cap x : Nat} (h : RdI n w (.slice sa L cap) (dg x)) (_ : (dg x).length = L) : RdI n w (.slice sa L cap) (dg x) := h
theorem fold_nums {d1 d2 : Nat} (l1 : d1 < 65536) (l2 : d2 < 65536) : ∃ q m t z : Nat, (d1 : Int).tdiv 32768 = (q : Int) ∧ (d2 : Int).tmod 32768 = (m : Int) ∧ wrap64 (q : Int) = (q : Int) ∧ wrap64 (m : Int) = (m : Int) ∧ (m : Int) * 2 = (t : Int) ∧ wrap64 (t : Int) = (t : Int) ∧ (q : Int) + (t : Int) = (z : Int) ∧ wrap64 (z : Int) = (z : Int) ∧ d1 / 32768 + d2 % 32768 * 2 = z := by
  refine ⟨d1 / 32768, d2 % 32768, d2 % 32768 * 2, _, ?_, ?_, wrap_nat (by omega), wrap_nat (by omega), by omega, wrap_nat (by omega), (Int.natCast_add _ _).symm, wrap_nat (by omega), rfl⟩
  · rw [Int.tdiv_eq_ediv_of_nonneg (by omega)]; omega
  · rw [Int.tmod_eq_emod_of_nonneg (by omega)]; omega
theorem fold_num {d1 : Nat} (l1 : d1 < 65536) : ∃ q : Nat, (d1 : Int).tdiv 32768 = (q : Int) ∧ wrap64 (q : Int) = (q : Int) ∧ d1 / 32768 + 0 % 32768 * 2 = q := by
  refine ⟨d1 / 32768, ?_, wrap_nat (by omega), by omega⟩
  rw [Int.tdiv_eq_ediv_of_nonneg (by omega)]; omega
theorem digit_past {x i : Nat} (h : (dg x).length ≤ i) : x / 65536 ^ i % 65536 = 0 := by
  have e := dg_get x i
  rw [List.getElem?_eq_none h, Option.getD_none] at e
  omega
theorem trim_low (x : Nat) (sv : Value) (w : World) (h : RdI w.heap.size w sv (lowD x)) : Calls Try.prog 44 #[sv] w fun e w' => (∃ v, e = .returned v ∧ RdI w'.heap.size w' v (dg (x % q255))) ∧ Below w.heap.size w w' := by
  have T := Trim_fact (lowD x) (lowD_ok x) (by rw [lowD_len]; omega) sv w h
  rw [lowD_v] at T; exact T
theorem trim_high (x n : Nat) (hn : n ≤ 40) (hx : x < 65536 ^ (15 + n)) (sv : Value) (w : World) (h : RdI w.heap.size w sv (dgs n (x / q255))) : Calls Try.prog 44 #[sv] w fun e w' => (∃ v, e = .returned v ∧ RdI w'.heap.size w' v (dg (x / q255))) ∧ Below w.heap.size w w' := by
  have T := Trim_fact (dgs n (x / q255)) (dgs_ok _ _) (by rw [dgs_length]; omega) sv w h
  rw [high_v hx] at T; exact T
theorem times_19 (y : Nat) (hy : y < b40) (s t : Value) (w : World) (h : RdI w.heap.size w s (dg y)) (h2 : RdI w.heap.size w t [19]) : Calls Try.prog 42 #[s, t] w fun e w' => (∃ v, e = .returned v ∧ RdI w'.heap.size w' v (dg (y * 19))) ∧ Below w.heap.size w w' := by
  have T := Times_fact (dg y) [19] (Dg.dg_ok _) (Dg.Ok.one (by decide)) (by have := b40_len hy; omega) (by decide) s t w h h2
  rw [Dg.nv_dg, Dg.nv_one, show ((y : Int) * 19).toNat = y * 19 by omega] at T
  exact T
theorem plus_40 (x y : Nat) (hx : x < b40) (hy : y < b40) (s t : Value) (w : World) (h : RdI w.heap.size w s (dg x)) (h2 : RdI w.heap.size w t (dg y)) : Calls Try.prog 40 #[s, t] w fun e w' => (∃ v, e = .returned v ∧ RdI w'.heap.size w' v (dg (x + y))) ∧ Below w.heap.size w w' := by
  have T := Plus_fact (dg x) (dg y) (Dg.dg_ok _) (Dg.dg_ok _) (by have := b40_len hx; omega) (by have := b40_len hy; omega) s t w h h2
  rw [Dg.nv_dg, Dg.nv_dg, show ((x : Int) + (y : Int)).toNat = x + y by omega] at T
  exact T
theorem less_prime (x : Nat) (hx : x < b40) (s t : Value) (w : World) (h : RdI w.heap.size w s (dg x)) (h2 : RdI w.heap.size w t primeL) : Calls Try.prog 22 #[s, t] w fun e w' => e = .returned (.bool (decide (x < pP))) ∧ Below w.heap.size w w' := by
  have T := Less_fact (dg x) primeL (Dg.dg_ok _) primeL_ok (by have := b40_len hx; omega) (by rw [primeL_len]; omega) s t w h h2
  rw [Dg.nv_dg, primeL_v, show decide ((x : Int) < (pP : Int)) = decide (x < pP) from decide_eq_decide.2 (by omega)] at T
  exact T
theorem minus_prime (x : Nat) (hx : x < b40) (hp : pP ≤ x) (s t : Value) (w : World) (h : RdI w.heap.size w s (dg x)) (h2 : RdI w.heap.size w t primeL) : Calls Try.prog 49 #[s, t] w fun e w' => (∃ v, e = .returned v ∧ RdI w'.heap.size w' v (dg (x - pP))) ∧ Below w.heap.size w w' := by
  have T := Minus_fact (dg x) primeL (Dg.dg_ok _) primeL_ok (by have := b40_len hx; omega) (by rw [Dg.nv_dg, primeL_v]; omega) s t w h h2
  rw [Dg.nv_dg, primeL_v, show ((x : Int) - (pP : Int)).toNat = x - pP by omega] at T
  exact T

set_option maxHeartbeats 16000000 in
theorem Fold_fact (X : Nat) (hX : X < b40) (sv : Value) (w : World) (hI : RdI w.heap.size w sv (dg X)) :
    Calls Try.prog 27 #[sv] w fun e w' => (∃ v, e = .returned v ∧ RdI w'.heap.size w' v (dg (X % pP))) ∧ Below w.heap.size w w' := by
  obtain ⟨i0, hi, hz0, hz1, hz2⟩ := info_parts info_i64
  have HTL := Lib.hid trim_low; have HTH := Lib.hid trim_high; have HTM := Lib.hid times_19; have HPS := Lib.hid plus_40; have HLS := Lib.hid less_prime; have HMI := Lib.hid minus_prime
  have HI := Lib.hid hI; have HX := Lib.hid hX
  clear hI hX
  go_enter Try.func27, Try.ntmps27
  go_wp2
  go_loopg [0] (X + 1) (fun kq v0 wr => ∃ x : Nat, Hid (kq = x + 1 ∧ x < b40 ∧ x % pP = X % pP) ∧ Hid (RdI wr.heap.size wr v0 (dg x)) ∧ Hid (Below w.heap.size w wr))
  case atStart => exact ⟨X, ⟨rfl, HX.out, rfl⟩, HI.out, Below.refl _ _⟩
  case round =>
    obtain ⟨x, HK, HR, HB⟩ := hrel
    obtain ⟨L, hL⟩ : ∃ L, (dg x).length = L := ⟨_, rfl⟩
    have hLL : L ≤ 40 := by rw [← hL]; exact b40_len HK.out.2.1
    have hrd := HR.out
    obtain ⟨sa, cap, e0⟩ := hrd.some
    subst e0
    rw [hL] at hrd ⊢
    have HRD := Lib.hid hrd; have HL := Lib.hid hL
    obtain ⟨b, hb⟩ : ∃ b, decide (q255 ≤ x) = b := ⟨_, rfl⟩
    have HBB := Lib.hid hb
    clear hrd hL HR hb
    go_upto_region 1 with (fail)
    go_cut [20] from 7 to 73 (fun v20 wc => v20 = .bool b ∧ wr = wc)
    case first =>
      by_cases h16 : 16 < L
      · obtain rfl : b = true := by
          have h1 := HBB.out
          rw [decide_eq_true (fold_long (by rw [HL.out]; exact h16))] at h1; exact h1.symm
        have hL16 : (16 : Int) < (L : Int) := by omega
        go_wp2
        go_meet
        case rel => exact ⟨rfl, rfl⟩
      · by_cases he : L = 16
        · obtain ⟨y, rfl, hcap, hc⟩ := rdi_at (i := 15) HRD.out (by rw [HL.out, he]; decide)
          have hbb := HBB.out
          obtain ⟨d, hd⟩ : ∃ d, x / 65536 ^ 15 % 65536 = d := ⟨_, rfl⟩
          replace hbb : decide (32767 < d) = b := by
            rw [← hbb]; exact decide_eq_decide.2 (by rw [← hd]; exact (fold_sixteen (by rw [HL.out, he])).symm)
          rw [hd] at hc
          replace hc : wr.cell? ⟨y.block, y.off + 15, none⟩ = some (.int .i64 (d : Int)) := hc
          subst he
          clear hd h16
          by_cases hdd : 32767 < d
          · obtain rfl : b = true := by rw [decide_eq_true hdd] at hbb; exact hbb.symm
            have hdi : (32767 : Int) < (d : Int) := by omega
            clear hbb hdd
            go_wp2
            go_meet
            case rel => exact ⟨rfl, rfl⟩
          · obtain rfl : b = false := by rw [decide_eq_false hdd] at hbb; exact hbb.symm
            have hdi : ¬ (32767 : Int) < (d : Int) := by omega
            clear hbb hdd
            go_wp2
            go_meet
            case rel => exact ⟨rfl, rfl⟩
        · obtain rfl : b = false := by
            have h1 := HBB.out
            rw [decide_eq_false (Nat.not_le_of_lt (fold_short (by rw [HL.out]; omega)))] at h1; exact h1.symm
          have hL16 : ¬ (16 : Int) < (L : Int) := by omega
          have hLe : ¬ (L : Int) = 16 := by omega
          clear he h16
          go_wp2
          go_meet
          case rel => exact ⟨rfl, rfl⟩
    case rest =>
      obtain ⟨rfl, rfl⟩ := hcut
      cases b
      · have HXQ : Hid (x < q255) := Nat.lt_of_not_le (of_decide_eq_false HBB.out)
        have HR1 := Lib.hid (hL_back HRD.out HL.out)
        clear HRD
        go_wp2_with (fail)
        go_at_call 31
        refine (RPrime_fact _).mono ?_
        rintro e wa ⟨⟨v1, rfl, hv1⟩, hb1⟩
        have HV1 := Lib.hid hv1
        have HR2 := Lib.hid (HR1.out.next hb1)
        have HB1 : Hid (Below w.heap.size w wa) := below_call HB.out HB.out.size hb1
        clear hv1 hb1
        go_wp2_with (fail)
        go_at_call 22
        refine (HLS.out _ HK.out.2.1 _ _ _ (hL_to HR2.out HL.out) HV1.out).mono ?_
        rintro e wb ⟨rfl, hb2⟩
        have HR3 := Lib.hid (HR2.out.next hb2)
        have HB2 : Hid (Below w.heap.size w wb) := below_call HB1.out HB1.out.size hb2
        clear hb2
        obtain ⟨f, hf⟩ : ∃ f, decide (x < pP) = f := ⟨_, rfl⟩
        have HF := Lib.hid hf
        rw [hf]
        clear hf
        have HEND := fold_end HXQ.out
        have HEND := Lib.hid HEND
        cases f
        · have hp : pP ≤ x := Nat.le_of_not_lt (of_decide_eq_false HF.out)
          have he : x - pP = X % pP := by
            rcases HEND.out with h | h
            · exact absurd h.1 (Nat.not_lt_of_le hp)
            · rw [h.2]; exact HK.out.2.2
          have HE := Lib.hid he; have HP := Lib.hid hp
          clear he hp HEND
          go_wp2_with (fail)
          go_at_call 31
          refine (RPrime_fact _).mono ?_
          rintro e wc ⟨⟨v1, rfl, hv1⟩, hb1⟩
          have HV1 := Lib.hid hv1
          have HR4 := Lib.hid (HR3.out.next hb1)
          have HB3 : Hid (Below w.heap.size w wc) := below_call HB2.out HB2.out.size hb1
          clear hv1 hb1
          go_wp2_with (fail)
          go_at_call 49
          refine (HMI.out _ HK.out.2.1 HP.out _ _ _ (hL_to HR4.out HL.out) HV1.out).mono ?_
          rintro e wd ⟨⟨v2, rfl, hv2⟩, hb2⟩
          have hv2' := hv2
          rw [HE.out] at hv2'
          have HV2 := Lib.hid hv2'
          have HB4 : Hid (Below w.heap.size w wd) := below_call HB3.out HB3.out.size hb2
          clear hv2 hv2' hb2
          go_wp2
          go_ret
          exact ⟨⟨_, rfl, HV2.out⟩, HB4.out⟩
        · have hp : x < pP := of_decide_eq_true HF.out
          have he : x = X % pP := by
            rcases HEND.out with h | h
            · rw [h.2]; exact HK.out.2.2
            · exact absurd hp (Nat.not_lt_of_le h.1)
          have hr := HR3.out
          have HE : Hid (dg x = dg (X % pP)) := congrArg dg he
          have HR4 := Lib.hid (hL_to hr HL.out)
          clear he hp HEND hr HR3
          go_wp2
          go_ret
          exact ⟨⟨_, rfl, by rw [← HE.out]; exact HR4.out⟩, HB2.out⟩
      · have hge : q255 ≤ x := of_decide_eq_true HBB.out
        have h15 : 15 < L := by
          rcases Nat.lt_or_ge (dg x).length 16 with h | h
          · exact absurd hge (Nat.not_le_of_lt (fold_short h))
          · rw [HL.out] at h; exact h
        obtain ⟨y, rfl, hcap, hc15⟩ := rdi_at (i := 15) HRD.out (by rw [HL.out]; exact h15)
        obtain ⟨d, hd⟩ : ∃ d, x / 65536 ^ 15 % 65536 = d := ⟨_, rfl⟩
        have hdl : d < 65536 := by rw [← hd]; exact Nat.mod_lt _ (by decide)
        have HD := Lib.hid hd
        have HGE := Lib.hid hge
        clear hge hd hc15
        have hL15 : (15 : Int) < (L : Int) := by omega
        have hbs : wr.heap.size ≤ wr.heap.size := Nat.le_refl _
        go_upto_region 3 with (at_builtin; refine wpList_append_own _ rfl _ _ 31 rfl wr.heap.size 3 i0 (.int .i64 0) 1 8 Try.underlying31 hi hz0 hz1 hz2 rfl (by decide) _ _ _ rfl (own_empty hbs _ rfl) y L cap (i64s (dg x)) rfl (by rw [i64s_length, HL.out]; omega) (rdi_cells (HRD.out.next ((Below.refl _ _).alloc (Nat.le_refl _) _))) i64s_one (by unfold maxLen; omega) (by omega) (by simp) ?_; intro v1 w1 hown1 hgrow1 hnil1)
        have HB1 : Hid (Below wr.heap.size wr w1) := ((Below.refl _ wr).alloc (Nat.le_refl _) _).grown hgrow1 (by simp) (fun j e => by cases e; exact Nat.le_refl _)
        clear hown1 hgrow1 hnil1 hbs
        have hbs : wr.heap.size ≤ w1.heap.size := HB1.out.size
        go_upto_region 6 with (at_builtin; refine wpList_append_own _ rfl _ _ 31 rfl wr.heap.size 3 i0 (.int .i64 0) 1 8 Try.underlying31 hi hz0 hz1 hz2 rfl (by decide) _ _ _ rfl (own_empty hbs _ rfl) y 15 cap (i64s ((dg x).take 15)) rfl (by rw [i64s_length, List.length_take, HL.out]; omega) (rdi_cells (rdi_take ((HRD.out.next HB1.out).next ((Below.refl _ _).alloc (Nat.le_refl _) _)) (by rw [HL.out]; omega))) i64s_one (by unfold maxLen; omega) (by omega) (by simp; omega) ?_; intro v2 w2 hown2 hgrow2 hnil2)
        have HB2 : Hid (Below wr.heap.size wr w2) := (HB1.out.alloc hbs _).grown hgrow2 (by simp; omega) (fun j e => by cases e; exact hbs)
        rw [dg_take (by rw [HL.out]; omega)] at hown2
        have hown3 : w2.ownsRow wr.heap.size 3 1 v2 15 (i64s (dgs 15 x)) := hown2
        have hlt2 := hown3.lt
        clear hown2 hgrow2 hnil2 hbs HB1
        have hcell15 : w2.cell? ⟨y.block, y.off + 15, none⟩ = some (.int .i64 (d : Int)) := by
          obtain ⟨y', e', _, h1⟩ := rdi_at (i := 15) (HRD.out.next HB2.out) (by rw [HL.out]; exact h15)
          injection e' with e'; subst e'
          rw [HD.out] at h1; exact h1
        obtain ⟨m, hm⟩ : ∃ m, d % 32768 = m := ⟨_, rfl⟩
        have hm1 : (d : Int).tmod 32768 = (m : Int) := by rw [Int.tmod_eq_emod_of_nonneg (by omega)]; omega
        have hmw : wrap64 (m : Int) = (m : Int) := wrap_nat (by omega)
        have hdm : lowD x = dgs 15 x ++ [(m : Int)] := by rw [← hm, ← HD.out]; rfl
        have HDM := Lib.hid hdm
        have hbs : wr.heap.size ≤ w2.heap.size := HB2.out.size
        clear hm hdm
        go_upto_region 7 with (at_builtin; refine wpList_append_own _ rfl _ _ 31 rfl wr.heap.size 3 i0 (.int .i64 0) 1 8 Try.underlying31 hi hz0 hz1 hz2 rfl (by decide) _ _ _ rfl (hown3.alloc _) ⟨w2.heap.size, 0, none⟩ 1 1 [.int .i64 (m : Int)] rfl rfl (cell_one_new _ _ _) (fun x hx => by simp at hx; subst hx; rfl) (by unfold maxLen; omega) (by omega) (by simp; omega) ?_; intro v3 w3 hown4 hgrow3 hnil3)
        have HB3 : Hid (Below wr.heap.size wr w3) := (HB2.out.alloc hbs _).grown hgrow3 (by simp; omega) (fun j e => (hlt2 _ e).1)
        have hrl : RdI w3.heap.size w3 v3 (lowD x) := by
          refine rdi_owned (n := wr.heap.size) ?_
          rw [lowD_len, HDM.out, i64s_append]; exact hown4
        have HRL := Lib.hid hrl
        have HR3 := Lib.hid (HRD.out.next HB3.out)
        have HB4 : Hid (Below w.heap.size w w3) := below_call HB.out HB.out.size HB3.out
        clear hrl hown4 hgrow3 hnil3 hlt2 hown3 hbs hcell15 hm1 hmw HDM HB2 HB3 HB HRD hdl HD
        obtain ⟨h, hh⟩ : ∃ h, x / q255 = h := ⟨_, rfl⟩
        have HHQ := Lib.hid hh
        clear hh
        obtain ⟨n0, hn0⟩ : ∃ n0, L = 15 + n0 := ⟨L - 15, by omega⟩
        have HN0 := Lib.hid hn0
        clear hn0
        go_wp2
        go_loopg [4, 5] n0 (fun kn v4 v5 wq => ∃ n i : Nat, v5 = .int .i64 (i : Int) ∧ Hid (kn + n = n0 ∧ i = 15 + n) ∧ Hid (wq.ownsRow w3.heap.size 3 1 v4 n (i64s (dgs n h))) ∧ Hid (Below w3.heap.size w3 wq))
        case atStart => exact ⟨0, 15, rfl, ⟨by omega, rfl⟩, World.ownsRow_nil _ _ _ _, Below.refl _ _⟩
        case round =>
          obtain ⟨n, i, rfl, HN, HO, HB5⟩ := hrel
          have hown := HO.out
          have hb := HB5.out
          have hlt := hown.lt
          have HRX := Lib.hid (HR3.out.next hb)
          rcases gk with _ | kn
          · obtain rfl : n = n0 := by have := HN.out.1; omega
            have hiL : ¬ (i : Int) < (L : Int) := by have := HN0.out; have := HN.out.2; omega
            have hhi : RdI wr.heap.size wr u4 (dgs n h) := by
              refine rdi_owned (n := w3.heap.size) ?_
              rw [dgs_length]; exact hown
            have HHI := Lib.hid hhi
            have HRL2 := Lib.hid (HRL.out.next hb)
            have HBB6 : Hid (Below w.heap.size w wr) := below_call HB4.out HB4.out.size hb
            have hxn : x < 65536 ^ (15 + n) := by rw [← HN0.out, ← HL.out]; exact dg_lt x
            have HXN := Lib.hid hxn
            have HF3 := fold_three HK.out.2.1 HGE.out
            rw [HHQ.out] at HF3
            have HH40 := Lib.hid HF3.1; have HLO40 := Lib.hid HF3.2.1; have HHI40 := Lib.hid HF3.2.2.1; have HLT := Lib.hid HF3.2.2.2
            clear HF3
            have hn40 : n ≤ 40 := by have := HN0.out; omega
            clear hown hb hlt hhi hxn HO HB5 HRL HR3 HB4 HRX
            obtain ⟨sl, cl, el⟩ := HRL2.out.some
            obtain ⟨sh, ch, eh⟩ := HHI.out.some
            subst eh el
            rw [dgs_length] at HHI ⊢
            rw [lowD_len] at HRL2 ⊢
            go_wp2_with (fail)
            go_at_call 44
            refine (HTL.out x _ _ HRL2.out).mono ?_
            rintro e wa ⟨⟨va, rfl, hva⟩, hba⟩
            have HVA := Lib.hid hva
            have HHI2 := Lib.hid (HHI.out.next hba)
            have HBA : Hid (Below w.heap.size w wa) := below_call HBB6.out HBB6.out.size hba
            clear hva hba HHI HRL2 HBB6
            go_wp2_with (fail)
            go_at_call 44
            refine (HTH.out x n hn40 HXN.out _ _ (by rw [HHQ.out]; exact HHI2.out)).mono ?_
            rintro e wb ⟨⟨vb, rfl, hvb⟩, hbb⟩
            rw [HHQ.out] at hvb
            have HVB := Lib.hid (hvb.next ((Below.refl _ wb).alloc (Nat.le_refl _) (.cells #[.int .i64 19] 3)))
            have HVA2 := Lib.hid ((HVA.out.next hbb).next ((Below.refl _ wb).alloc (Nat.le_refl _) (.cells #[.int .i64 19] 3)))
            have HBB : Hid (Below w.heap.size w (wb.alloc (.cells #[.int .i64 19] 3))) := (below_call HBA.out HBA.out.size hbb).alloc (below_call HBA.out HBA.out.size hbb).size _
            clear hvb hbb HHI2 HVA HBA
            go_wp2_with (fail)
            go_at_call 42
            refine (HTM.out h HH40.out _ _ _ HVB.out (rdi_19 _ _)).mono ?_
            rintro e wc ⟨⟨vc, rfl, hvc⟩, hbc⟩
            have HVC := Lib.hid hvc
            have HVA3 := Lib.hid (HVA2.out.next hbc)
            have HBC : Hid (Below w.heap.size w wc) := below_call HBB.out HBB.out.size hbc
            clear hvc hbc HVB HVA2 HBB
            go_wp2_with (fail)
            go_at_call 40
            refine (HPS.out _ _ HLO40.out HHI40.out _ _ _ HVA3.out HVC.out).mono ?_
            rintro e wd ⟨⟨vd, rfl, hvd⟩, hbd⟩
            have HVD := Lib.hid hvd
            have HBD : Hid (Below w.heap.size w wd) := below_call HBC.out HBC.out.size hbd
            clear hvd hbd HVC HVA3 HBC
            have HMS : Hid (x % q255 + h * 19 + 1 < gk) := by
              have h1 := HLT.out
              have h2 := HK.out.1
              show _ < _
              omega
            have HNX : Hid ((x % q255 + h * 19) % pP = X % pP ∧ x % q255 + h * 19 < b40) := by
              refine ⟨?_, Nat.lt_trans HLT.out HK.out.2.1⟩
              rw [← HHQ.out, fold_same]; exact HK.out.2.2
            go_wp2
            go_roundg (x % q255 + h * 19 + 1)
            case measure => exact HMS.out
            case rel => exact ⟨x % q255 + h * 19, ⟨rfl, HNX.out.2, HNX.out.1⟩, HVD.out, HBD.out⟩
          · have hiL1 : i < L := by have := HN0.out; have := HN.out; omega
            have hn40 : n ≤ 40 := by have := HN.out; omega
            have hiL : (i : Int) < (L : Int) := by omega
            obtain ⟨y', e', _, cell1⟩ := rdi_at HRX.out (by rw [HL.out]; exact hiL1)
            injection e' with e'; subst e'
            have hdig := high_digit x n
            rw [← HN.out.2, HHQ.out] at hdig
            by_cases hj : i + 1 < L
            · obtain ⟨y', e', _, cell2⟩ := rdi_at HRX.out (by rw [HL.out]; exact hj)
              injection e' with e'; subst e'
              obtain ⟨d1, hd1⟩ : ∃ d1, x / 65536 ^ i % 65536 = d1 := ⟨_, rfl⟩
              obtain ⟨d2, hd2⟩ : ∃ d2, x / 65536 ^ (i + 1) % 65536 = d2 := ⟨_, rfl⟩
              have l1 : d1 < 65536 := by rw [← hd1]; exact Nat.mod_lt _ (by decide)
              have l2 : d2 < 65536 := by rw [← hd2]; exact Nat.mod_lt _ (by decide)
              rw [hd1] at cell1 hdig
              rw [hd2] at cell2 hdig
              replace cell2 : wr.cell? ⟨y.block, y.off + (i + 1), none⟩ = some (.int .i64 (d2 : Int)) := cell2
              obtain ⟨q, m, t, z, hq1, hm1, hqw, hmw, ht1, htw, hz1', hzw, hz⟩ := fold_nums l1 l2
              rw [hz] at hdig
              have HDG := Lib.hid hdig
              have hji : (i : Int) + 1 < (L : Int) := by omega

              clear hz hd1 hd2 hdig l1 l2
              go_wp2_with (at_builtin; refine wpList_append_own _ rfl _ _ 31 rfl w3.heap.size 3 i0 (.int .i64 0) 1 8 Try.underlying31 hi hz0 hz1 hz2 rfl (by decide) _ _ _ rfl (hown.alloc _) ⟨wr.heap.size, 0, none⟩ 1 1 [.int .i64 (z : Int)] rfl rfl (cell_one_new _ _ _) (fun x hx => by simp at hx; subst hx; rfl) (by unfold maxLen; omega) (by omega) (by have := hb.size; simp; omega) ?_; intro v' w4 hown' hgrow hnil)
              go_roundg kn
              case measure => exact Nat.lt_succ_self kn
              case rel =>
                refine ⟨n + 1, i + 1, by simp, ⟨by have := HN.out.1; omega, by have := HN.out.2; omega⟩, ?_, (hb.alloc hb.size _).grown hgrow (by have := hb.size; simp; omega) (fun j e => (hlt _ e).1)⟩
                show World.ownsRow _ _ _ _ _ (n + 1) (i64s (dgs (n + 1) h))
                rw [dgs_succ, i64s_append, HDG.out]; exact hown'
            · obtain ⟨d1, hd1⟩ : ∃ d1, x / 65536 ^ i % 65536 = d1 := ⟨_, rfl⟩
              have l1 : d1 < 65536 := by rw [← hd1]; exact Nat.mod_lt _ (by decide)
              rw [hd1] at cell1 hdig
              have hpast := digit_past (x := x) (i := i + 1) (by rw [HL.out]; exact Nat.le_of_not_lt hj)
              rw [hpast] at hdig
              clear hpast
              obtain ⟨z, hq1, hqw, hz⟩ := fold_num l1
              rw [hz] at hdig
              have HDG := Lib.hid hdig
              clear hz hd1 hdig l1
              have hji : ¬ (i : Int) + 1 < (L : Int) := by omega

              go_wp2_with (at_builtin; refine wpList_append_own _ rfl _ _ 31 rfl w3.heap.size 3 i0 (.int .i64 0) 1 8 Try.underlying31 hi hz0 hz1 hz2 rfl (by decide) _ _ _ rfl (hown.alloc _) ⟨wr.heap.size, 0, none⟩ 1 1 [.int .i64 (z : Int)] rfl rfl (cell_one_new _ _ _) (fun x hx => by simp at hx; subst hx; rfl) (by unfold maxLen; omega) (by omega) (by have := hb.size; simp; omega) ?_; intro v' w4 hown' hgrow hnil)
              go_roundg kn
              case measure => exact Nat.lt_succ_self kn
              case rel =>
                refine ⟨n + 1, i + 1, by simp, ⟨by have := HN.out.1; omega, by have := HN.out.2; omega⟩, ?_, (hb.alloc hb.size _).grown hgrow (by have := hb.size; simp; omega) (fun j e => (hlt _ e).1)⟩
                show World.ownsRow _ _ _ _ _ (n + 1) (i64s (dgs (n + 1) h))
                rw [dgs_succ, i64s_append, HDG.out]; exact hown'

end Go.Proofs.Ytldnjbpcdojffaa
/- @@NUM 25 The walk of the document's Mul, Add, Sub on digits: products, sums, differences modulo the prime. Conditions: the numbers are below the prime. -/
namespace Go.Proofs.Ytldnjbpcdojffaa
set_option linter.unusedVariables false
set_option linter.unusedSimpArgs false
open Go Go.RowKit
open Dg (nv dg Ok Cn)
open Pl (pP)

theorem b40_prod {x y : Nat} (hx : x < pP) (hy : y < pP) : x * y < b40 := by
  have h1 : x * y < pP * pP := Nat.mul_lt_mul'' hx hy
  have h2 : pP * pP ≤ b40 := by unfold b40; decide +kernel
  omega
theorem b40_two {x : Nat} (hx : x ≤ 2 * pP) : x < b40 := by
  have h2 : 2 * pP < b40 := by unfold b40; decide +kernel
  omega
theorem times_40 (x y : Nat) (hx : x < pP) (hy : y < pP) (s t : Value) (w : World) (h : RdI w.heap.size w s (dg x)) (h2 : RdI w.heap.size w t (dg y)) : Calls Try.prog 42 #[s, t] w fun e w' => (∃ v, e = .returned v ∧ RdI w'.heap.size w' v (dg (x * y))) ∧ Below w.heap.size w w' := by
  have T := Times_fact (dg x) (dg y) (Dg.dg_ok _) (Dg.dg_ok _) (by have := b40_len (b40_two (x := x) (by omega)); omega) (by have := b40_len (b40_two (x := y) (by omega)); omega) s t w h h2
  rw [Dg.nv_dg, Dg.nv_dg, show ((x : Int) * (y : Int)).toNat = x * y by rw [← Int.natCast_mul, Int.toNat_natCast]] at T
  exact T

set_option maxHeartbeats 4000000 in
theorem RMul_fact (x y : Nat) (hx : x < pP) (hy : y < pP) (sa sb : Value) (w : World) (hA : RdI w.heap.size w sa (dg x)) (hB : RdI w.heap.size w sb (dg y)) :
    Calls Try.prog 29 #[sa, sb] w fun e w' => (∃ v, e = .returned v ∧ RdI w'.heap.size w' v (dg (x * y % pP))) ∧ Below w.heap.size w w' := by
  have L1 := Lib.hid (times_40 x y hx hy); have L2 := Lib.hid (Fold_fact (x * y) (b40_prod hx hy))
  have HA := Lib.hid hA; have HBb := Lib.hid hB
  clear hA hB hx hy
  go_enter Try.func29, Try.ntmps29
  go_wp2_with (fail)
  go_at_call 42
  refine (L1.out _ _ _ HA.out HBb.out).mono ?_
  rintro e wa ⟨⟨v, rfl, hv⟩, hb1⟩
  go_wp2_with (fail)
  go_at_call 27
  refine (L2.out _ _ hv).mono ?_
  rintro e wb ⟨⟨u, rfl, hu⟩, hb2⟩
  have HBX := Lib.hid (below_call hb1 hb1.size hb2)
  have HU := Lib.hid hu
  clear hb1 hb2 hv hu
  go_wp2
  go_ret
  exact ⟨⟨_, rfl, HU.out⟩, HBX.out⟩
set_option maxHeartbeats 4000000 in
theorem RAdd_fact (x y : Nat) (hx : x < pP) (hy : y < pP) (sa sb : Value) (w : World) (hA : RdI w.heap.size w sa (dg x)) (hB : RdI w.heap.size w sb (dg y)) :
    Calls Try.prog 28 #[sa, sb] w fun e w' => (∃ v, e = .returned v ∧ RdI w'.heap.size w' v (dg ((x + y) % pP))) ∧ Below w.heap.size w w' := by
  have L1 := Lib.hid (plus_40 x y (b40_two (by omega)) (b40_two (by omega))); have L2 := Lib.hid (Fold_fact (x + y) (b40_two (by omega)))
  have HA := Lib.hid hA; have HBb := Lib.hid hB
  clear hA hB hx hy
  go_enter Try.func28, Try.ntmps28
  go_wp2_with (fail)
  go_at_call 40
  refine (L1.out _ _ _ HA.out HBb.out).mono ?_
  rintro e wa ⟨⟨v, rfl, hv⟩, hb1⟩
  go_wp2_with (fail)
  go_at_call 27
  refine (L2.out _ _ hv).mono ?_
  rintro e wb ⟨⟨u, rfl, hu⟩, hb2⟩
  have HBX := Lib.hid (below_call hb1 hb1.size hb2)
  have HU := Lib.hid hu
  clear hb1 hb2 hv hu
  go_wp2
  go_ret
  exact ⟨⟨_, rfl, HU.out⟩, HBX.out⟩
theorem primeL_dg : primeL = dg pP := by
  have h := Dg.dg_nv primeL_ok (fun a x e => by
    have e2 : primeL = primeD 14 ++ [32767] := rfl
    rw [e2] at e
    have := (List.append_inj' e rfl).2
    simp at this
    omega)
  rw [primeL_v, Int.toNat_natCast] at h
  exact h.symm
theorem minus_from (y : Nat) (hy : y < pP) (s t : Value) (w : World) (h : RdI w.heap.size w s primeL) (h2 : RdI w.heap.size w t (dg y)) : Calls Try.prog 49 #[s, t] w fun e w' => (∃ v, e = .returned v ∧ RdI w'.heap.size w' v (dg (pP - y))) ∧ Below w.heap.size w w' := by
  have T := Minus_fact primeL (dg y) primeL_ok (Dg.dg_ok _) (by rw [primeL_len]; omega) (by rw [Dg.nv_dg, primeL_v]; omega) s t w h h2
  rw [Dg.nv_dg, primeL_v, show ((pP : Int) - (y : Int)).toNat = pP - y by omega] at T
  exact T

set_option maxHeartbeats 8000000 in
theorem RSub_fact (x y : Nat) (hx : x < pP) (hy : y < pP) (sa sb : Value) (w : World) (hA : RdI w.heap.size w sa (dg x)) (hB : RdI w.heap.size w sb (dg y)) :
    Calls Try.prog 30 #[sa, sb] w fun e w' => (∃ v, e = .returned v ∧ RdI w'.heap.size w' v (dg ((x + (pP - y)) % pP))) ∧ Below w.heap.size w w' := by
  have L1 := Lib.hid (Fold_fact x (b40_two (by omega))); have L2 := Lib.hid RPrime_fact; have L3 := Lib.hid (Fold_fact y (b40_two (by omega))); have L4 := Lib.hid (minus_from y hy)
  have L5 := Lib.hid (plus_40 x (pP - y) (b40_two (by omega)) (b40_two (by omega))); have L6 := Lib.hid (Fold_fact (x + (pP - y)) (b40_two (by omega)))
  rw [Nat.mod_eq_of_lt hx] at L1
  rw [Nat.mod_eq_of_lt hy] at L3
  have HA := Lib.hid hA; have HBb := Lib.hid hB
  clear hA hB hx hy
  go_enter Try.func30, Try.ntmps30
  go_wp2_with (fail)
  go_at_call 27
  refine (L1.out _ _ HA.out).mono ?_
  rintro e wa ⟨⟨v1, rfl, hv1⟩, hb1⟩
  go_wp2_with (fail)
  go_at_call 31
  refine (L2.out _).mono ?_
  rintro e wb ⟨⟨v2, rfl, hv2⟩, hb2⟩
  go_wp2_with (fail)
  go_at_call 27
  refine (L3.out _ _ ((HBb.out.next hb1).next hb2)).mono ?_
  rintro e wc ⟨⟨v3, rfl, hv3⟩, hb3⟩
  go_wp2_with (fail)
  go_at_call 49
  refine (L4.out _ _ _ (hv2.next hb3) hv3).mono ?_
  rintro e wd ⟨⟨v4, rfl, hv4⟩, hb4⟩
  go_wp2_with (fail)
  go_at_call 40
  refine (L5.out _ _ _ (((hv1.next hb2).next hb3).next hb4) hv4).mono ?_
  rintro e we ⟨⟨v5, rfl, hv5⟩, hb5⟩
  go_wp2_with (fail)
  go_at_call 27
  refine (L6.out _ _ hv5).mono ?_
  rintro e wf ⟨⟨u, rfl, hu⟩, hb6⟩
  have B2 := below_call hb1 hb1.size hb2
  have B3 := below_call B2 B2.size hb3
  have B4 := below_call B3 B3.size hb4
  have B5 := below_call B4 B4.size hb5
  have HBX := Lib.hid (below_call B5 B5.size hb6)
  have HU := Lib.hid hu
  clear B2 B3 B4 B5 hb1 hb2 hb3 hb4 hb5 hb6 hv1 hv2 hv3 hv4 hv5 hu
  go_wp2
  go_ret
  exact ⟨⟨_, rfl, HU.out⟩, HBX.out⟩

end Go.Proofs.Ytldnjbpcdojffaa
/- @@NUM 25 The walk of residue's Of: a number out of 32 bytes. Conditions: none. -/
namespace Go.Proofs.Ytldnjbpcdojffaa
set_option linter.unusedVariables false
set_option linter.unusedSimpArgs false
open Go Go.RowKit
open Pl (V W4 T256 le lw)

/-- Words as values. -/
def u64s (l : List Nat) : Array Value := (l.map fun (z : Nat) => .int .u64 (z : Int)).toArray

set_option maxHeartbeats 4000000 in
theorem Of_fact (zs : List Nat) (hz : ∀ x ∈ zs, x < 256) (h32 : zs.length = 32) : ∃ r0 r1 r2 r3 : Nat, (W4 r0 r1 r2 r3 ∧ V r0 r1 r2 r3 = le zs) ∧ ∀ (sv : Value) (w : World), Bts w.heap.size w sv zs →
    Calls Try.prog 14 #[sv] w fun e w' => e = .returned (.tuple #[.agg #[.int .u64 r0, .int .u64 r1, .int .u64 r2, .int .u64 r3], .int .i64 0]) ∧ Below w.heap.size w w' := by
  obtain ⟨r0, r1, r2, r3, hr, hrv⟩ := Pl.words (le zs) (by have h := Pl.le_lt zs hz; rw [h32] at h; exact Nat.lt_of_lt_of_eq h (by decide +kernel))
  refine ⟨r0, r1, r2, r3, ⟨hr, hrv⟩, fun sv w hI => ?_⟩
  rcases hI with ⟨rfl, rfl⟩ | ⟨x, cap, rfl, hb, hcs⟩
  · cases h32
  rw [h32] at hcs ⊢
  have HCS := Lib.hid hcs; have HXB := Lib.hid hb
  have HR := Lib.hid hr; have HV := Lib.hid hrv
  clear hcs hb hr hrv
  go_enter Try.func14, Try.ntmps14
  go_wp2
  go_loopg [13] 32 (fun kq v13 wr => ∃ (k : Nat) (ws : List Nat), v13 = .int .i64 k ∧ Hid (kq + k = 32) ∧ Hid (ws.length = 4 ∧ (∀ y ∈ ws, y < 18446744073709551616) ∧ lw ws = le (zs.take k)) ∧ Hid (wr.heap[w.heap.size + 1]? = some (.cells (u64s ws) 25 (0, 0))) ∧ Hid (wr.heap[w.heap.size]? = some (.cells #[.int .u64 0, .int .u64 0, .int .u64 0, .int .u64 0] 25 (0, 0))) ∧ Hid (Below w.heap.size w wr))
  case atStart => exact ⟨0, [0, 0, 0, 0], rfl, rfl, ⟨rfl, by decide, rfl⟩, heap_new' (by simp) _, heap_old (heap_new _ _) _, ((Below.refl _ w).alloc (Nat.le_refl _) _).alloc (by simp) _⟩
  case round =>
    obtain ⟨k, ws, rfl, HK, HW, HO, HR0, HB⟩ := hrel
    rcases gk with _ | kq
    · obtain rfl : k = 32 := by have := HK.out; omega
      obtain ⟨o0, o1, o2, o3, rfl⟩ : ∃ o0 o1 o2 o3, ws = [o0, o1, o2, o3] := by
        have h := HW.out.1
        match ws, h with
        | [a, b, c, d], _ => exact ⟨a, b, c, d, rfl⟩
      have h := HW.out.2
      rw [Pl.lw_four, show zs.take 32 = zs by rw [← h32]; exact List.take_length] at h
      obtain ⟨rfl, rfl, rfl, rfl⟩ := Pl.V_inj (by unfold W4; exact ⟨h.1 _ (by simp), h.1 _ (by simp), h.1 _ (by simp), h.1 _ (by simp)⟩) HR.out (h.2.trans HV.out.symm)
      clear h
      have hO : wr.heap[w.heap.size + 1]? = some (.cells #[.int .u64 o0, .int .u64 o1, .int .u64 o2, .int .u64 o3] 25 (0, 0)) := HO.out
      have cO := cells4 hO; have cR := cells4 HR0.out; have fR := frozen_of HR0.out
      have hK := set4 HR0.out (.int .u64 o0) (.int .u64 o1) (.int .u64 o2) (.int .u64 o3)
      have hL := set4_below HB.out (b := w.heap.size) (by omega) (.int .u64 o0) (.int .u64 o1) (.int .u64 o2) (.int .u64 o3)
      have hQ := cells4 hK
      go_wp2
      exact bodyPost_ret (v := .tuple #[.agg #[.int .u64 o0, .int .u64 o1, .int .u64 o2, .int .u64 o3], .int .i64 0]) (by simp [results, Try.results14, go_sem, hQ]) rfl ⟨rfl, hL⟩
    · have hk : k < 32 := by have := HK.out; omega
      have hq : k / 8 < ws.length := by rw [HW.out.1]; omega
      obtain ⟨c, hc⟩ : ∃ c, zs[k]'(by omega) = c := ⟨_, rfl⟩
      have hc256 : c < 256 := by rw [← hc]; exact hz _ (List.getElem_mem _)
      obtain ⟨y, hy⟩ : ∃ y, ws[k / 8] = y := ⟨_, rfl⟩
      obtain ⟨hy1, hy2, hy3⟩ := Pl.lw_byte (k := k) (r := k % 8) (c := c) (n := le (zs.take k)) (by omega) (Nat.mod_lt _ (by omega)) hq HW.out.2.1 hc256 (Pl.le_take_lt hz (by omega)) HW.out.2.2
      rw [hy] at hy1 hy2 hy3
      have hor := Pl.or_add (c := c) hy1
      rw [← hc, ← Pl.le_take (by omega)] at hy3
      have hcx : wr.cell? (x.add k) = some (.int .u8 (c : Int)) := by
        rw [HB.out.cell (p := x.add k) (by rw [add_block]; exact HXB.out), HCS.out k hk, List.getElem?_eq_getElem (by omega), Option.getD_some, hc]
      have hcy : wr.cell? ⟨w.heap.size + 1, k / 8, none⟩ = some (.int .u64 (y : Int)) := cell_at HO.out (by simp [u64s, hq, hy])
      have fO := frozen_of HO.out
      have cw : IntKind.u64.wrap (c : Int) = (c : Int) := by rw [IntKind.wrap_u64]; omega
      have HN : Hid (lw (ws.set (k / 8) (y + c * 256 ^ (k % 8))) = le (zs.take (k + 1)) ∧ y + c * 256 ^ (k % 8) < 18446744073709551616) := ⟨by rw [hc] at hy3; exact hy3, hy2⟩
      have hval : bits .or .u64 (y : Int) (IntKind.u64.wrap ((c : Int) * 2 ^ (8 * (k % 8)))) = ((y + c * 256 ^ (k % 8) : Nat) : Int) := by
        have e : ((c : Int) * 2 ^ (8 * (k % 8))) = ((c * 256 ^ (k % 8) : Nat) : Int) := by
          rw [show (256 : Nat) = 2 ^ 8 from rfl, ← Nat.pow_mul]
          generalize 8 * (k % 8) = m
          push_cast; rfl
        rw [e, ← hor]
        have h1 : IntKind.u64.wrap ((c * 256 ^ (k % 8) : Nat) : Int) = ((c * 256 ^ (k % 8) : Nat) : Int) := by rw [IntKind.wrap_u64]; omega
        rw [h1, bits_or_u64_nat _ _ (by omega) (by omega)]
      obtain ⟨y2, hy4⟩ : ∃ y2, y + c * 256 ^ (k % 8) = y2 := ⟨_, rfl⟩
      rw [hy4] at hval HN
      have hset : (u64s ws).setIfInBounds (k / 8) (.int .u64 (y2 : Int)) = u64s (ws.set (k / 8) y2) := by simp [u64s, List.map_set]
      have HOR := Lib.hid hval
      clear hy3 hy2 hor hy4 hval hy1
      go_wp2
      go_region
      go_wp2
      rw [HOR.out]
      go_roundg kq
      case measure => exact Nat.lt_succ_self kq
      case rel =>
        have hW := HW.out; have hN := HN.out
        refine ⟨k + 1, ws.set (k / 8) y2, by simp, (by have := HK.out; omega : kq + (k + 1) = 32), ⟨by rw [List.length_set]; exact hW.1, fun z hz => ?_, hN.1⟩, ?_, heap_drew (heap_set_ne HR0.out (by simp) _), (HB.out.setCell (p := ⟨w.heap.size + 1, k / 8, none⟩) (by simp) _).drew⟩
        · rcases List.mem_or_eq_of_mem_set hz with h | rfl
          · exact hW.2.1 _ h
          · exact hN.2
        · rw [← hset]; exact heap_drew (heap_set HO.out _)

end Go.Proofs.Ytldnjbpcdojffaa
/- @@NUM 25 Bytes as strings; Of at a row that has not 32 bytes. Conditions: none. -/
namespace Go.Proofs.Ytldnjbpcdojffaa
set_option linter.unusedVariables false
set_option linter.unusedSimpArgs false
open Go Go.RowKit
open Pl (V W4 T256)

def strOf (zs : List Nat) : ByteArray := strOfNums (zs.map fun (z : Nat) => (z : Int))
theorem bts_string {n : Nat} {w : World} {sv : Value} {zs : List Nat} (h : Bts n w sv zs) : (convert 22 9 sv).run Try.prog w = .ok (.string (strOf zs)) w := by
  rcases h with ⟨rfl, rfl⟩ | ⟨x, cap, rfl, hb, hc⟩
  · rw [run_convert_bytes_nil w 22 5 Try.underlying22 Try.underlying5 0 0 9 Try.underlying9]
    rfl
  · have hl : (loadCells x zs.length).run Try.prog w = .ok ((zs.map fun (z : Nat) => (z : Int)).map (Value.int .u8)).toArray w := by
      have := run_loadCells_list (P := Try.prog) w x ((zs.map fun (z : Nat) => (z : Int)).map (Value.int .u8)) (fun j v hj => by
        have hjl : j < zs.length := by
          rcases Nat.lt_or_ge j zs.length with h | h
          · exact h
          · rw [List.getElem?_eq_none (by simpa using h)] at hj; cases hj
        rw [hc j hjl]
        rw [List.getElem?_map, List.getElem?_map, List.getElem?_eq_getElem hjl] at hj
        rw [List.getElem?_eq_getElem hjl, Option.getD_some]
        simpa using hj)
      simpa using this
    rw [run_convert_bytes_string w 22 9 5 _ _ cap Try.underlying22 Try.underlying5 Try.underlying9, run_bytesToString w x _ cap _ hl, foldl_push_bytes]
    simp [strOf, strOfNums, ByteArray.empty, ByteArray.emptyWithCapacity]
    rfl
theorem conv_exec {n : Nat} {o : Oper} {a : Act} {w : World} {s : Tmp} {zs : List Nat} (ho : o.op = .convert 22 9 (.tmp s)) (h : Bts n w (a.eval (.tmp s)) zs) : (execOp a.eval o).run Try.prog w = .ok (.value (.string (strOf zs))) w := by
  have := bts_string h
  simp only [execOp, ho, Sem.run_bind, this, Result.andThen]
  rfl
theorem stable_bts (zs : List Nat) : Rg.Stable (fun w v => Bts w.heap.size w v zs) := fun w w' v hb h => (h.below hb).up hb.size
theorem stable_rdi (zs : List Int) : Rg.Stable (fun w v => RdI w.heap.size w v zs) := fun w w' v hb h => h.next hb

set_option maxHeartbeats 2000000 in
theorem Of_bad (a : Option Addr) (len cap : Nat) (hl : len ≤ 1048576) (hn : len ≠ 32) (w : World) : Calls Try.prog 14 #[.slice a len cap] w fun e w' => e = .returned (.tuple #[.agg #[.int .u64 0, .int .u64 0, .int .u64 0, .int .u64 0], .int .i64 3]) ∧ Below w.heap.size w w' := by
  have h1 : ¬ ((len : Int) = 32) := by omega
  go_enter Try.func14, Try.ntmps14
  go_wp2
  refine bodyPost_ret (v := .tuple #[.agg #[.int .u64 0, .int .u64 0, .int .u64 0, .int .u64 0], .int .i64 3]) (by simp [results, Try.results14, go_sem]) rfl ⟨rfl, ?_⟩
  go_grown

end Go.Proofs.Ytldnjbpcdojffaa
/- @@NUM 25 The walks of residue's Order and double. Conditions: words are below 2^64. -/
namespace Go.Proofs.Ytldnjbpcdojffaa
set_option linter.unusedVariables false
set_option linter.unusedSimpArgs false
open Go Go.RowKit
open Pl (V V8 W4 T256 pL)

theorem Order_fact : ∀ w : World, Calls Try.prog 32 #[] w fun e w' => e = .returned (.agg #[.int .u64 6346243789798364141, .int .u64 1503914060200516822, .int .u64 0, .int .u64 1152921504606846976]) ∧ Below w.heap.size w w' := by
  intro w
  go_enter Try.func32, Try.ntmps32
  go_wp2
  refine bodyPost_ret (v := .agg #[.int .u64 6346243789798364141, .int .u64 1503914060200516822, .int .u64 0, .int .u64 1152921504606846976]) (by simp [results, Try.results32, go_sem]) rfl ⟨rfl, ?_⟩
  go_grown

theorem or_bit {s one : Nat} (hs : s < 18446744073709551616) (he : s % 2 = 0) (h1 : one ≤ 1) : bits .or .u64 (s : Int) (one : Int) = ((s + one : Nat) : Int) := by
  rw [bits_or_u64_nat s one hs (by omega)]
  congr 1
  rcases (show one = 0 ∨ one = 1 by omega) with rfl | rfl
  · simp
  · obtain ⟨k, rfl⟩ : ∃ k, s = 2 * k := ⟨s / 2, by omega⟩
    exact (Nat.two_pow_add_eq_or_of_lt (i := 1) (b := 1) (by omega) k).symm

theorem double_spec {n0 n1 n2 n3 s0 s1 s2 s3 c one : Nat} (hn : W4 n0 n1 n2 n3) (hl : V n0 n1 n2 n3 < pL) (h1 : one ≤ 1) (h : W4 s0 s1 s2 s3 ∧ c ≤ 1 ∧ V s0 s1 s2 s3 + T256 * c = V n0 n1 n2 n3 + V n0 n1 n2 n3) : s0 % 2 = 0 ∧ W4 (s0 + one) s1 s2 s3 ∧ V (s0 + one) s1 s2 s3 = 2 * V n0 n1 n2 n3 + one := by
  obtain ⟨hs, hc, h⟩ := h
  have hp := Pl.pL_small
  have hv : V (s0 + one) s1 s2 s3 = V s0 s1 s2 s3 + one := by unfold V; omega
  have hc0 : c = 0 := by
    rcases (show c = 0 ∨ c = 1 by omega) with rfl | rfl
    · rfl
    · omega
  subst hc0
  have he : s0 % 2 = 0 := by
    have h2 : V s0 s1 s2 s3 % 2 = 0 := by omega
    unfold V at h2; omega
  refine ⟨he, ?_, by omega⟩
  unfold W4 at hs ⊢
  omega

set_option maxHeartbeats 2000000 in
theorem double_fact (n0 n1 n2 n3 one : Nat) (hn : W4 n0 n1 n2 n3) (hl : V n0 n1 n2 n3 < pL) (h1 : one ≤ 1) : ∃ r0 r1 r2 r3 : Nat, (W4 r0 r1 r2 r3 ∧ V r0 r1 r2 r3 = (2 * V n0 n1 n2 n3 + one) % pL) ∧ ∀ w : World,
    Calls Try.prog 52 #[.agg #[.int .u64 n0, .int .u64 n1, .int .u64 n2, .int .u64 n3], .int .u64 one] w fun e w' => e = .returned (.agg #[.int .u64 r0, .int .u64 r1, .int .u64 r2, .int .u64 r3]) ∧ Below w.heap.size w w' := by
  obtain ⟨s0, s1, s2, s3, c, hs, FP⟩ := plus_fact n0 n1 n2 n3 n0 n1 n2 n3 hn hn
  obtain ⟨he, ht, hv⟩ := double_spec hn hl h1 hs
  have hor := or_bit hs.1.1 he h1
  obtain ⟨t0, ht0⟩ : ∃ t0, s0 + one = t0 := ⟨_, rfl⟩
  rw [ht0] at ht hv hor
  obtain ⟨z, hz, FL⟩ := less_fact t0 s1 s2 s3 _ _ _ _ ht Pl.pL_W
  rw [Pl.pL_words, hv] at hz
  have HP := Lib.hid FP; have HL := Lib.hid FL; have HO := Lib.hid Order_fact
  clear FP FL ht0 hs he
  rcases Pl.twice_bit hl h1 with ⟨hlt, hm⟩ | ⟨hge, hm⟩
  · obtain rfl : z = true := hz.2 hlt
    refine ⟨t0, s1, s2, s3, ⟨ht, by rw [hv, hm]⟩, fun w => ?_⟩
    clear hz hm hlt hv ht hl hn h1
    go_enter Try.func52, Try.ntmps52
    go_wp2_with (fail)
    go_at_call 53
    refine (HP.out _).mono ?_
    rintro e wa ⟨rfl, hb⟩
    have HBn : Hid (Below w.heap.size w wa) := Lib.hid ((fun (h : Below _ _ _) => below_call h h.size hb) (by first | go_grown))
    have hBa_ : wa.heap[w.heap.size]? = some (.cells #[.int .u64 n0, .int .u64 n1, .int .u64 n2, .int .u64 n3] 25 (0, 0)) := heap_keep' hb (by repeat (first | (with_reducible refine heap_new' ?_ _; simp; done) | (with_reducible refine keep4 ?_ (by omega) _ _ _ _) | (with_reducible refine heap_old ?_ _) | (with_reducible refine heap_drew ?_) | (with_reducible refine heap_set_ne ?_ (by simp <;> omega) _)))
    have hBr_ : wa.heap[w.heap.size + 1]? = some (.cells #[.int .u64 0, .int .u64 0, .int .u64 0, .int .u64 0] 25 (0, 0)) := heap_keep' hb (by repeat (first | (with_reducible refine heap_new' ?_ _; simp; done) | (with_reducible refine keep4 ?_ (by omega) _ _ _ _) | (with_reducible refine heap_old ?_ _) | (with_reducible refine heap_drew ?_) | (with_reducible refine heap_set_ne ?_ (by simp <;> omega) _)))
    clear hb
    have HB := HBn; clear HBn
    have HBa := Lib.hid hBa_; have cBa := cells4 hBa_; have fBa := frozen_of hBa_; have zBa := lt_of_heap hBa_; clear hBa_
    have HBr := Lib.hid hBr_; have cBr := cells4 hBr_; have fBr := frozen_of hBr_; have zBr := lt_of_heap hBr_; clear hBr_
    go_wp2
    refine Rg.region_ (n := 29) [0, 0, 3, 7] [1, 1, 1, 0] [18, 19, 20, 21] [[(5, none)], [], [(18, some 0), (19, some 1)], [(20, some 2)]] 4 (by kernel_rfl) (by kernel_rfl) (by rfl) ?_
    intro W hW
    have hBa_ : W.heap[w.heap.size]? = some (.cells #[.int .u64 n0, .int .u64 n1, .int .u64 n2, .int .u64 n3] 25 (0, 0)) := by rw [hW]; exact (by repeat (first | (with_reducible exact HBa.out) | (with_reducible exact set4 HBa.out _ _ _ _) | (with_reducible apply set4) | (with_reducible refine heap_new' ?_ _; simp; done) | (with_reducible refine keep4 ?_ (by omega) _ _ _ _) | (with_reducible refine heap_old ?_ _) | (with_reducible refine heap_drew ?_) | (with_reducible refine heap_set_ne ?_ (by simp <;> omega) _)))
    have hBr_ : W.heap[w.heap.size + 1]? = some (.cells #[.int .u64 0, .int .u64 0, .int .u64 0, .int .u64 0] 25 (0, 0)) := by rw [hW]; exact (by repeat (first | (with_reducible exact HBr.out) | (with_reducible exact set4 HBr.out _ _ _ _) | (with_reducible apply set4) | (with_reducible refine heap_new' ?_ _; simp; done) | (with_reducible refine keep4 ?_ (by omega) _ _ _ _) | (with_reducible refine heap_old ?_ _) | (with_reducible refine heap_drew ?_) | (with_reducible refine heap_set_ne ?_ (by simp <;> omega) _)))
    have hBo_ : W.heap[wa.heap.size]? = some (.cells #[.int .u64 t0, .int .u64 s1, .int .u64 s2, .int .u64 s3] 25 (0, 0)) := by rw [hW]; exact (by repeat (first | (with_reducible refine heap_new' ?_ _; simp; done) | (with_reducible refine keep4 ?_ (by omega) _ _ _ _) | (with_reducible refine heap_old ?_ _) | (with_reducible refine heap_drew ?_) | (with_reducible refine heap_set_ne ?_ (by simp <;> omega) _)))
    have HB0 : Below w.heap.size w W := by rw [hW]; have hB0 := HB.out; have hS0 := hB0.size; first | exact hB0.drew | exact (set4_below hB0 (by omega) _ _ _ _).drew | go_grown
    change Rg.Chain' _ _ _ _ _ [(0, 1, 18, [(5, none)]), (1, 1, 19, []), (2, 1, 20, [(18, some 0), (19, some 1)]), (3, 0, 21, [(20, some 2)])] [(0, 1, 18, [(5, none)]), (1, 1, 19, []), (2, 1, 20, [(18, some 0), (19, some 1)]), (3, 0, 21, [(20, some 2)])] _
    apply Rg.ch_def (by rfl) (fun a w1 _ => Rg.wanted_none (by rfl))
    · rintro a w1 hb ⟨e5, -⟩
      conv at e5 => rhs; whnf
      have n5 := e5
      simp only [Act.eval, Array.getD_eq_getD_getElem?] at n5
      apply Rg.gives_value
      · conv => lhs; simp [go_sem, n5, cells4 (heap_keep' hb hBa_), cells4 (heap_keep' hb hBr_), cells4 (heap_keep' hb hBo_)]
      · exact ⟨rfl, Below.refl _ _⟩
    apply Rg.ch_def (by rfl) (fun a w1 _ => Rg.wanted_none (by rfl))
    · rintro a w1 hb -
      apply Rg.gives_enter
      · exact run_call Try.func32 (by kernel_rfl) rfl #[] (by rfl) (by simp)
      · refine (HO.out _).mono ?_
        rintro e w2 ⟨rfl, hb2⟩
        exact ⟨_, rfl, rfl, hb2⟩
    apply Rg.ch_def (by rfl) (fun a w1 _ => Rg.wanted_none (by rfl))
    · rintro a w1 hb ⟨e18, e19, -⟩
      replace e18 : a.eval (.tmp 18) = _ := e18
      replace e19 : a.eval (.tmp 19) = _ := e19
      apply Rg.gives_enter
      · apply run_call Try.func21 (by kernel_rfl) rfl _ (by rfl)
        conv => lhs; simp only [List.map_toArray, List.map_cons, List.map_nil, eval_const_, eval_global_, e18, e19]
      · refine (HL.out _).mono ?_
        rintro e w2 ⟨rfl, hb2⟩
        exact ⟨_, rfl, rfl, hb2⟩
    apply Rg.ch_pure (by rfl)
    · rintro a w1 ⟨e20, -⟩
      replace e20 : a.eval (.tmp 20) = _ := e20
      have n20 := e20
      simp only [Act.eval, Array.getD_eq_getD_getElem?] at n20
      apply Rg.yields_run (Rg.wanted_none (by rfl))
      intro w2
      conv => lhs; simp [go_sem, n20]
    intro w1 hb1
    rintro _ rfl _ rfl _ rfl _ rfl
    change Go.wpList _ _ _ _ _ _
    simp only [List.drop_succ_cons, List.drop_zero, List.drop_nil, Act.put, List.setIfInBounds_toArray, List.set_cons_succ, List.set_cons_zero]
    change Go.NoPanic _ _ _ _
    refine NoPanic.normal ?_
    have HBn : Hid (Below w.heap.size w w1) := Lib.hid (below_call HB0 HB0.size hb1)
    have hBa__ := heap_keep' hb1 hBa_
    have hBr__ := heap_keep' hb1 hBr_
    have hBo__ := heap_keep' hb1 hBo_
    clear hb1 HB0 HB hBa_ HBa cBa fBa zBa hBr_ HBr cBr fBr zBr hBo_
    clear hW
    obtain ⟨wb, rfl⟩ : ∃ x : World, x = w1 := ⟨_, rfl⟩
    have HB := HBn; clear HBn
    have HBa := Lib.hid hBa__; have cBa := cells4 hBa__; have fBa := frozen_of hBa__; have zBa := lt_of_heap hBa__; clear hBa__
    have HBr := Lib.hid hBr__; have cBr := cells4 hBr__; have fBr := frozen_of hBr__; have zBr := lt_of_heap hBr__; clear hBr__
    have HBo := Lib.hid hBo__; have cBo := cells4 hBo__; have fBo := frozen_of hBo__; have zBo := lt_of_heap hBo__; clear hBo__
    go_wp2
    have hK := set4 HBr.out (.int .u64 t0) (.int .u64 s1) (.int .u64 s2) (.int .u64 s3)
    have hQ := cells4 hK
    exact bodyPost_ret (v := .agg #[.int .u64 t0, .int .u64 s1, .int .u64 s2, .int .u64 s3]) (by simp [results, Try.results52, go_sem, hQ]) rfl ⟨rfl, set4_below HB.out (by omega) _ _ _ _⟩
  · obtain rfl : z = false := by
      cases z
      · rfl
      · exact absurd (hz.1 rfl) (by omega)
    obtain ⟨d0, d1, d2, d3, c2, ⟨hd, hc2, hdv⟩, FM⟩ := minus_fact t0 s1 s2 s3 _ _ _ _ ht Pl.pL_W
    rw [Pl.pL_words, hv] at hdv
    have hd2 := Pl.V_lt hd
    have hp := Pl.pL_small
    have hc0 : c2 = 0 := by
      rcases (show c2 = 0 ∨ c2 = 1 by omega) with rfl | rfl
      · rfl
      · omega
    subst hc0
    have HM := Lib.hid FM
    refine ⟨d0, d1, d2, d3, ⟨hd, by omega⟩, fun w => ?_⟩
    clear FM hz hm hge hv ht hl hn h1 hd hc2 hdv hd2 hp
    go_enter Try.func52, Try.ntmps52
    go_wp2_with (fail)
    go_at_call 53
    refine (HP.out _).mono ?_
    rintro e wa ⟨rfl, hb⟩
    have HBn : Hid (Below w.heap.size w wa) := Lib.hid ((fun (h : Below _ _ _) => below_call h h.size hb) (by first | go_grown))
    have hBa_ : wa.heap[w.heap.size]? = some (.cells #[.int .u64 n0, .int .u64 n1, .int .u64 n2, .int .u64 n3] 25 (0, 0)) := heap_keep' hb (by repeat (first | (with_reducible refine heap_new' ?_ _; simp; done) | (with_reducible refine keep4 ?_ (by omega) _ _ _ _) | (with_reducible refine heap_old ?_ _) | (with_reducible refine heap_drew ?_) | (with_reducible refine heap_set_ne ?_ (by simp <;> omega) _)))
    have hBr_ : wa.heap[w.heap.size + 1]? = some (.cells #[.int .u64 0, .int .u64 0, .int .u64 0, .int .u64 0] 25 (0, 0)) := heap_keep' hb (by repeat (first | (with_reducible refine heap_new' ?_ _; simp; done) | (with_reducible refine keep4 ?_ (by omega) _ _ _ _) | (with_reducible refine heap_old ?_ _) | (with_reducible refine heap_drew ?_) | (with_reducible refine heap_set_ne ?_ (by simp <;> omega) _)))
    clear hb
    have HB := HBn; clear HBn
    have HBa := Lib.hid hBa_; have cBa := cells4 hBa_; have fBa := frozen_of hBa_; have zBa := lt_of_heap hBa_; clear hBa_
    have HBr := Lib.hid hBr_; have cBr := cells4 hBr_; have fBr := frozen_of hBr_; have zBr := lt_of_heap hBr_; clear hBr_
    have kz1 := zBr
    go_wp2
    refine Rg.region_ (n := 29) [0, 0, 3, 7] [1, 1, 1, 0] [18, 19, 20, 21] [[(5, none)], [], [(18, some 0), (19, some 1)], [(20, some 2)]] 4 (by kernel_rfl) (by kernel_rfl) (by rfl) ?_
    intro W hW
    have hBa_ : W.heap[w.heap.size]? = some (.cells #[.int .u64 n0, .int .u64 n1, .int .u64 n2, .int .u64 n3] 25 (0, 0)) := by rw [hW]; exact (by repeat (first | (with_reducible exact HBa.out) | (with_reducible exact set4 HBa.out _ _ _ _) | (with_reducible apply set4) | (with_reducible refine heap_new' ?_ _; simp; done) | (with_reducible refine keep4 ?_ (by omega) _ _ _ _) | (with_reducible refine heap_old ?_ _) | (with_reducible refine heap_drew ?_) | (with_reducible refine heap_set_ne ?_ (by simp <;> omega) _)))
    have hBr_ : W.heap[w.heap.size + 1]? = some (.cells #[.int .u64 0, .int .u64 0, .int .u64 0, .int .u64 0] 25 (0, 0)) := by rw [hW]; exact (by repeat (first | (with_reducible exact HBr.out) | (with_reducible exact set4 HBr.out _ _ _ _) | (with_reducible apply set4) | (with_reducible refine heap_new' ?_ _; simp; done) | (with_reducible refine keep4 ?_ (by omega) _ _ _ _) | (with_reducible refine heap_old ?_ _) | (with_reducible refine heap_drew ?_) | (with_reducible refine heap_set_ne ?_ (by simp <;> omega) _)))
    have hBo_ : W.heap[wa.heap.size]? = some (.cells #[.int .u64 t0, .int .u64 s1, .int .u64 s2, .int .u64 s3] 25 (0, 0)) := by rw [hW]; exact (by repeat (first | (with_reducible refine heap_new' ?_ _; simp; done) | (with_reducible refine keep4 ?_ (by omega) _ _ _ _) | (with_reducible refine heap_old ?_ _) | (with_reducible refine heap_drew ?_) | (with_reducible refine heap_set_ne ?_ (by simp <;> omega) _)))
    have HB0 : Below w.heap.size w W := by rw [hW]; have hB0 := HB.out; have hS0 := hB0.size; first | exact hB0.drew | exact (set4_below hB0 (by omega) _ _ _ _).drew | go_grown
    change Rg.Chain' _ _ _ _ _ [(0, 1, 18, [(5, none)]), (1, 1, 19, []), (2, 1, 20, [(18, some 0), (19, some 1)]), (3, 0, 21, [(20, some 2)])] [(0, 1, 18, [(5, none)]), (1, 1, 19, []), (2, 1, 20, [(18, some 0), (19, some 1)]), (3, 0, 21, [(20, some 2)])] _
    apply Rg.ch_def (by rfl) (fun a w1 _ => Rg.wanted_none (by rfl))
    · rintro a w1 hb ⟨e5, -⟩
      conv at e5 => rhs; whnf
      have n5 := e5
      simp only [Act.eval, Array.getD_eq_getD_getElem?] at n5
      apply Rg.gives_value
      · conv => lhs; simp [go_sem, n5, cells4 (heap_keep' hb hBa_), cells4 (heap_keep' hb hBr_), cells4 (heap_keep' hb hBo_)]
      · exact ⟨rfl, Below.refl _ _⟩
    apply Rg.ch_def (by rfl) (fun a w1 _ => Rg.wanted_none (by rfl))
    · rintro a w1 hb -
      apply Rg.gives_enter
      · exact run_call Try.func32 (by kernel_rfl) rfl #[] (by rfl) (by simp)
      · refine (HO.out _).mono ?_
        rintro e w2 ⟨rfl, hb2⟩
        exact ⟨_, rfl, rfl, hb2⟩
    apply Rg.ch_def (by rfl) (fun a w1 _ => Rg.wanted_none (by rfl))
    · rintro a w1 hb ⟨e18, e19, -⟩
      replace e18 : a.eval (.tmp 18) = _ := e18
      replace e19 : a.eval (.tmp 19) = _ := e19
      apply Rg.gives_enter
      · apply run_call Try.func21 (by kernel_rfl) rfl _ (by rfl)
        conv => lhs; simp only [List.map_toArray, List.map_cons, List.map_nil, eval_const_, eval_global_, e18, e19]
      · refine (HL.out _).mono ?_
        rintro e w2 ⟨rfl, hb2⟩
        exact ⟨_, rfl, rfl, hb2⟩
    apply Rg.ch_pure (by rfl)
    · rintro a w1 ⟨e20, -⟩
      replace e20 : a.eval (.tmp 20) = _ := e20
      have n20 := e20
      simp only [Act.eval, Array.getD_eq_getD_getElem?] at n20
      apply Rg.yields_run (Rg.wanted_none (by rfl))
      intro w2
      conv => lhs; simp [go_sem, n20]
    intro w1 hb1
    rintro _ rfl _ rfl _ rfl _ rfl
    change Go.wpList _ _ _ _ _ _
    simp only [List.drop_succ_cons, List.drop_zero, List.drop_nil, Act.put, List.setIfInBounds_toArray, List.set_cons_succ, List.set_cons_zero]
    change Go.NoPanic _ _ _ _
    refine NoPanic.normal ?_
    have HBn : Hid (Below w.heap.size w w1) := Lib.hid (below_call HB0 HB0.size hb1)
    have hBa__ := heap_keep' hb1 hBa_
    have hBr__ := heap_keep' hb1 hBr_
    have hBo__ := heap_keep' hb1 hBo_
    clear hb1 HB0 HB hBa_ HBa cBa fBa zBa hBr_ HBr cBr fBr zBr hBo_
    clear hW
    obtain ⟨wb, rfl⟩ : ∃ x : World, x = w1 := ⟨_, rfl⟩
    have HB := HBn; clear HBn
    have HBa := Lib.hid hBa__; have cBa := cells4 hBa__; have fBa := frozen_of hBa__; have zBa := lt_of_heap hBa__; clear hBa__
    have HBr := Lib.hid hBr__; have cBr := cells4 hBr__; have fBr := frozen_of hBr__; have zBr := lt_of_heap hBr__; clear hBr__
    have HBo := Lib.hid hBo__; have cBo := cells4 hBo__; have fBo := frozen_of hBo__; have zBo := lt_of_heap hBo__; clear hBo__
    go_wp2
    refine Rg.region_ (n := 29) [0, 0, 3, 7, 15, 15, 31] [1, 1, 1, 0, 0, 0, 2] [23, 24, 25, 22, 26, 27, 0] [[(5, none)], [], [(23, some 0), (24, some 1)], [(25, some 2)], [(22, some 3)], [(22, some 3)], [(5, none), (26, some 4)]] 6 (by kernel_rfl) (by kernel_rfl) (by rfl) ?_
    intro W hW
    have hBa_ : W.heap[w.heap.size]? = some (.cells #[.int .u64 n0, .int .u64 n1, .int .u64 n2, .int .u64 n3] 25 (0, 0)) := by rw [hW]; exact (by repeat (first | (with_reducible exact HBa.out) | (with_reducible exact set4 HBa.out _ _ _ _) | (with_reducible apply set4) | (with_reducible refine heap_new' ?_ _; simp; done) | (with_reducible refine keep4 ?_ (by omega) _ _ _ _) | (with_reducible refine heap_old ?_ _) | (with_reducible refine heap_drew ?_) | (with_reducible refine heap_set_ne ?_ (by simp <;> omega) _)))
    have hBr_ : W.heap[w.heap.size + 1]? = some (.cells #[.int .u64 0, .int .u64 0, .int .u64 0, .int .u64 0] 25 (0, 0)) := by rw [hW]; exact (by repeat (first | (with_reducible exact HBr.out) | (with_reducible exact set4 HBr.out _ _ _ _) | (with_reducible apply set4) | (with_reducible refine heap_new' ?_ _; simp; done) | (with_reducible refine keep4 ?_ (by omega) _ _ _ _) | (with_reducible refine heap_old ?_ _) | (with_reducible refine heap_drew ?_) | (with_reducible refine heap_set_ne ?_ (by simp <;> omega) _)))
    have hBo_ : W.heap[wa.heap.size]? = some (.cells #[.int .u64 t0, .int .u64 s1, .int .u64 s2, .int .u64 s3] 25 (0, 0)) := by rw [hW]; exact (by repeat (first | (with_reducible exact HBo.out) | (with_reducible exact set4 HBo.out _ _ _ _) | (with_reducible apply set4) | (with_reducible refine heap_new' ?_ _; simp; done) | (with_reducible refine keep4 ?_ (by omega) _ _ _ _) | (with_reducible refine heap_old ?_ _) | (with_reducible refine heap_drew ?_) | (with_reducible refine heap_set_ne ?_ (by simp <;> omega) _)))
    have HB0 : Below w.heap.size w W := by rw [hW]; have hB0 := HB.out; have hS0 := hB0.size; first | exact hB0.drew | exact (set4_below hB0 (by omega) _ _ _ _).drew | go_grown
    change Rg.Chain' _ _ _ _ _ [(0, 1, 23, [(5, none)]), (1, 1, 24, []), (2, 1, 25, [(23, some 0), (24, some 1)]), (3, 0, 22, [(25, some 2)]), (4, 0, 26, [(22, some 3)]), (5, 0, 27, [(22, some 3)])] [(0, 1, 23, [(5, none)]), (1, 1, 24, []), (2, 1, 25, [(23, some 0), (24, some 1)]), (3, 0, 22, [(25, some 2)]), (4, 0, 26, [(22, some 3)]), (5, 0, 27, [(22, some 3)])] _
    apply Rg.ch_def (by rfl) (fun a w1 _ => Rg.wanted_none (by rfl))
    · rintro a w1 hb ⟨e5, -⟩
      conv at e5 => rhs; whnf
      have n5 := e5
      simp only [Act.eval, Array.getD_eq_getD_getElem?] at n5
      apply Rg.gives_value
      · conv => lhs; simp [go_sem, n5, cells4 (heap_keep' hb hBa_), cells4 (heap_keep' hb hBr_), cells4 (heap_keep' hb hBo_)]
      · exact ⟨rfl, Below.refl _ _⟩
    apply Rg.ch_def (by rfl) (fun a w1 _ => Rg.wanted_none (by rfl))
    · rintro a w1 hb -
      apply Rg.gives_enter
      · exact run_call Try.func32 (by kernel_rfl) rfl #[] (by rfl) (by simp)
      · refine (HO.out _).mono ?_
        rintro e w2 ⟨rfl, hb2⟩
        exact ⟨_, rfl, rfl, hb2⟩
    apply Rg.ch_def (by rfl) (fun a w1 _ => Rg.wanted_none (by rfl))
    · rintro a w1 hb ⟨e23, e24, -⟩
      replace e23 : a.eval (.tmp 23) = _ := e23
      replace e24 : a.eval (.tmp 24) = _ := e24
      apply Rg.gives_enter
      · apply run_call Try.func45 (by kernel_rfl) rfl _ (by rfl)
        conv => lhs; simp only [List.map_toArray, List.map_cons, List.map_nil, eval_const_, eval_global_, e23, e24]
      · refine (HM.out _).mono ?_
        rintro e w2 ⟨rfl, hb2⟩
        exact ⟨_, rfl, rfl, hb2⟩
    apply Rg.ch_pure (by rfl)
    · rintro a w1 ⟨e25, -⟩
      replace e25 : a.eval (.tmp 25) = _ := e25
      have n25 := e25
      simp only [Act.eval, Array.getD_eq_getD_getElem?] at n25
      apply Rg.yields_run (Rg.wanted_none (by rfl))
      intro w2
      conv => lhs; simp [go_sem, n25]
    apply Rg.ch_pure (by rfl)
    · rintro a w1 ⟨e22, -⟩
      replace e22 : a.eval (.tmp 22) = _ := e22
      have n22 := e22
      simp only [Act.eval, Array.getD_eq_getD_getElem?] at n22
      apply Rg.yields_run (Rg.wanted_none (by rfl))
      intro w2
      conv => lhs; simp [go_sem, n22]
    apply Rg.ch_pure (by rfl)
    · rintro a w1 ⟨e22, -⟩
      replace e22 : a.eval (.tmp 22) = _ := e22
      have n22 := e22
      simp only [Act.eval, Array.getD_eq_getD_getElem?] at n22
      apply Rg.yields_run (Rg.wanted_none (by rfl))
      intro w2
      conv => lhs; simp [go_sem, n22]
    intro w1 hb1
    rintro _ rfl _ rfl _ rfl _ rfl _ rfl _ rfl
    change Go.wpList _ _ _ _ _ _
    simp only [List.drop_succ_cons, List.drop_zero, List.drop_nil, Act.put, List.setIfInBounds_toArray, List.set_cons_succ, List.set_cons_zero]
    have HBn : Hid (Below w.heap.size w w1) := Lib.hid (below_call HB0 HB0.size hb1)
    have hBa__ := heap_keep' hb1 hBa_
    have hBr__ := heap_keep' hb1 hBr_
    have hBo__ := heap_keep' hb1 hBo_
    clear hb1 HB0 HB hBa_ HBa cBa fBa zBa hBr_ HBr cBr fBr zBr hBo_ HBo cBo fBo zBo
    clear hW
    obtain ⟨wc, rfl⟩ : ∃ x : World, x = w1 := ⟨_, rfl⟩
    have HB := HBn; clear HBn
    have HBa := Lib.hid hBa__; have cBa := cells4 hBa__; have fBa := frozen_of hBa__; have zBa := lt_of_heap hBa__; clear hBa__
    have HBr := Lib.hid hBr__; have cBr := cells4 hBr__; have fBr := frozen_of hBr__; have zBr := lt_of_heap hBr__; clear hBr__
    have HBo := Lib.hid hBo__; have cBo := cells4 hBo__; have fBo := frozen_of hBo__; have zBo := lt_of_heap hBo__; clear hBo__
    go_wp2
    refine NoPanic.normal ?_
    go_wp2
    have hK := set4 (keep4 (b' := wa.heap.size) HBr.out (by omega) (.int .u64 d0) (.int .u64 d1) (.int .u64 d2) (.int .u64 d3)) (.int .u64 d0) (.int .u64 d1) (.int .u64 d2) (.int .u64 d3)
    have hL := set4_below (set4_below HB.out (b := wa.heap.size) (by omega) (.int .u64 d0) (.int .u64 d1) (.int .u64 d2) (.int .u64 d3)) (b := w.heap.size + 1) (by omega) (.int .u64 d0) (.int .u64 d1) (.int .u64 d2) (.int .u64 d3)
    have hQ := cells4 hK
    exact bodyPost_ret (v := .agg #[.int .u64 d0, .int .u64 d1, .int .u64 d2, .int .u64 d3]) (by simp [results, Try.results52, go_sem, hQ]) rfl ⟨rfl, hL⟩

end Go.Proofs.Ytldnjbpcdojffaa
/- @@NUM 25 The walk of residue's Scalar: a row of bytes modulo the order. Conditions: the row has 1 to 64 bytes. -/
namespace Go.Proofs.Ytldnjbpcdojffaa
set_option linter.unusedVariables false
set_option linter.unusedSimpArgs false
open Go Go.RowKit Go.Shelf
open Pl (V W4 T256 pL le SC)
attribute [local go_sem] Oper.semAt_some

theorem bits_and_u8_nat (a b : Nat) (ha : a < 256) (hb : b < 256) : bits .and .u8 (a : Int) (b : Int) = ((a &&& b : Nat) : Int) := by
  have hx : a &&& b < 2 ^ 8 := Nat.and_lt_two_pow _ (by omega)
  have h1 : (BitVec.ofInt 8 (a : Int)).toNat = a := by
    rw [BitVec.ofInt_natCast, BitVec.toNat_ofNat]; exact Nat.mod_eq_of_lt (by omega)
  have h2 : (BitVec.ofInt 8 (b : Int)).toNat = b := by
    rw [BitVec.ofInt_natCast, BitVec.toNat_ofNat]; exact Nat.mod_eq_of_lt (by omega)
  show IntKind.u8.wrap ((BitVec.ofInt 8 (a : Int) &&& BitVec.ofInt 8 (b : Int)).toNat : Int) = _
  rw [BitVec.toNat_and, h1, h2, IntKind.wrap_u8]
  omega
theorem and_one_u8 {c q : Nat} (h : c < 256) : bits .and .u8 ((c : Int) / 2 ^ q) 1 = ((c / 2 ^ q % 2 : Nat) : Int) := by
  have e : ((c : Int) / 2 ^ q) = ((c / 2 ^ q : Nat) : Int) := by push_cast; rfl
  have h2 : c / 2 ^ q < 256 := Nat.lt_of_le_of_lt (Nat.div_le_self _ _) h
  rw [e]
  have h3 := bits_and_u8_nat (c / 2 ^ q) 1 h2 (by omega)
  rw [Nat.and_one_is_mod] at h3
  exact h3

/-- All that lay keeps, but block b. -/
structure KeepX (N b : Nat) (A B : World) : Prop where
  below : Below N A B
  same : ∀ j, j < A.heap.size → j ≠ b → B.heap[j]? = A.heap[j]?
theorem KeepX.refl (N b : Nat) (A : World) : KeepX N b A A := ⟨Below.refl _ _, fun _ _ _ => rfl⟩
theorem KeepX.call {N b : Nat} {A B C : World} (h : KeepX N b A B) (hN : N ≤ A.heap.size) (k : Below B.heap.size B C) : KeepX N b A C :=
  ⟨h.below.trans (k.mono (Nat.le_trans hN h.below.size)), fun j hj hne => (k.block j (Nat.lt_of_lt_of_le hj h.below.size)).trans (h.same j hj hne)⟩
theorem KeepX.drew {N b : Nat} {A B : World} (h : KeepX N b A B) : KeepX N b A B.drew := ⟨h.below.drew, h.same⟩
theorem KeepX.set {N b : Nat} {A B : World} (h : KeepX N b A B) (hN : N ≤ b) (i : Nat) (u : Value) : KeepX N b A (B.setCell ⟨b, i, none⟩ u) :=
  ⟨h.below.setCell hN u, fun j hj hne => (Below.heap_setCell _ _ _ _ hne).trans (h.same j hj hne)⟩
theorem KeepX.others {N b : Nat} {A B : World} (h : KeepX N b A B) {cs : Array Value} {t : TypeId} {mk : Nat × Nat} (hb : A.heap[b]? = some (.cells cs t mk)) : KeepsOthers A B :=
  ⟨h.below.size, fun k o hk ho => by
    have hlt := (Array.getElem?_eq_some_iff.1 hk).1
    by_cases e : k = b
    · subst e; rw [hb] at hk; injection hk with hk; subst hk; cases ho
    · exact (h.same k hlt e).trans hk⟩
theorem KeepX.kpb {N b Bs : Nat} {A B : World} (h : KeepX N b A B) (h1 : Bs < A.heap.size) (h2 : Bs ≠ b) : KpB N Bs A B := ⟨h.below, h.same Bs h1 h2⟩
theorem kpb_b {N Bs : Nat} {w : World} (hn : N ≤ w.heap.size) (hBs : Bs < w.heap.size) (W : World) (l : Nat) (o o' : Obj) (hl : w.heap.size ≤ l) (h : W.heap[l]? = some o) (h1 : o.isCells = false) (h2 : o.isWalk = false) : KpB N Bs W (W.putObj l o') :=
  ⟨belowK_b hn W l o o' hl h h1 h2, World.putObj_heap_other (by omega)⟩
theorem heap_own {W W' : World} {row : Option Nat} {b : Nat} {cs : Array Value} {t : TypeId} {mk : Nat × Nat} (h : W.heap[b]? = some (.cells cs t mk)) (hg : W.grownBy W' row) (hr : ∀ r, row = some r → ∃ o : Obj, W.heap[r]? = some o ∧ o.isCells = false) : W'.heap[b]? = some (.cells cs t mk) :=
  (grownBy_keeps_cells hg hr h rfl).trans h

theorem pbUp_rev (zs : List Nat) (hz : ∀ j, j < zs.length → zs[j]?.getD 0 < 256) : ((pbUp zs 0).map (·.1.2)).reverse = zs := by
  have h : (pbUp zs 0).map (·.1.2) = zs.reverse := by
    apply List.ext_getElem
    · simp [pbUp]
    · intro i h1 h2
      rw [List.length_reverse] at h2
      have h3 := hz (zs.length - 1 - i) (by omega)
      rw [List.getElem_reverse]
      simp only [pbUp, pbAt, List.getElem_map, List.getElem_range]
      rw [Nat.mod_eq_of_lt h3, List.getElem?_eq_getElem (by omega), Option.getD_some]
  rw [h, List.reverse_reverse]

set_option maxRecDepth 100000 in
set_option maxHeartbeats 4000000 in
theorem Scalar_fact (zs : List Nat) (hz : ∀ j, j < zs.length → zs[j]?.getD 0 < 256) (h1 : 1 ≤ zs.length) (h64 : zs.length ≤ 64) : ∃ r0 r1 r2 r3 : Nat, (W4 r0 r1 r2 r3 ∧ V r0 r1 r2 r3 = le zs % pL) ∧ ∀ (sv : Value) (w : World), Bts w.heap.size w sv zs →
    Calls Try.prog 37 #[sv] w fun e w' => e = .returned (.tuple #[.agg #[.int .u64 r0, .int .u64 r1, .int .u64 r2, .int .u64 r3], .int .i64 0]) ∧ Below w.heap.size w w' := by
  obtain ⟨r0, r1, r2, r3, hr, hrv⟩ := Pl.words (le zs % pL) (Nat.lt_trans (Nat.mod_lt _ Pl.pL_pos) (by decide +kernel))
  refine ⟨r0, r1, r2, r3, ⟨hr, hrv⟩, fun sv w hI => ?_⟩
  have hI0 := hI
  rcases hI with ⟨rfl, rfl⟩ | ⟨x, cap, rfl, hb, hcs⟩
  · cases h1
  refine (callsIn_wide (n := 4)).1 ?_
  refine callsIn_of_wp_marks Try.func37 rfl trivial ?_ rfl
  simp only [Try.ntmps37, List.size_toArray, List.length_cons, List.length_nil, Nat.reduceAdd, Nat.reduceSub, Array.replicate_succ, Array.replicate_zero, List.push_toArray, List.append_toArray, List.nil_append, List.cons_append]
  have hd1 : decide ((zs.length : Int) < 1) = false := by rw [decide_eq_false_iff_not]; omega
  have hd2 : decide ((64 : Int) < (zs.length : Int)) = false := by rw [decide_eq_false_iff_not]; omega
  gi_wp2_with (refine ⟨trivial, ?_⟩; refine (back_in Fence.wide _ trivial rfl _ _ _ _).mono ?_; rintro e w' ⟨rfl, rfl⟩)
  obtain ⟨w1, hw1⟩ : ∃ y : World, y = ((w.alloc (.cells #[.int .u64 0, .int .u64 0, .int .u64 0, .int .u64 0] 25)).alloc (.cells #[.int .u64 0, .int .u64 0, .int .u64 0, .int .u64 0] 25)).alloc (.cells #[.slice (some x) zs.length cap] 22) := ⟨_, rfl⟩
  have hsz : w1.heap.size = w.heap.size + 3 := by rw [hw1]; simp
  have hR1 : w1.heap[w.heap.size]? = some (.cells #[.int .u64 0, .int .u64 0, .int .u64 0, .int .u64 0] 25 (0, 0)) := by rw [hw1]; exact heap_old (heap_old (heap_new _ _) _) _
  have hO1 : w1.heap[w.heap.size + 1]? = some (.cells #[.int .u64 0, .int .u64 0, .int .u64 0, .int .u64 0] 25 (0, 0)) := by rw [hw1]; exact heap_old (heap_new' (by simp) _) _
  have hS1 : w1.heap[w.heap.size + 2]? = some (.cells #[.slice (some x) zs.length cap] 22 (0, 0)) := by rw [hw1]; exact heap_new' (by simp) _
  have hB1 : Below w.heap.size w w1 := by rw [hw1]; exact (((Below.refl _ w).alloc (Nat.le_refl _) _).alloc (by simp) _).alloc (by simp; omega) _
  have hc1 : w1.cell? ⟨w.heap.size + 2, 0, none⟩ = some (.slice (some x) zs.length cap) := by simp [World.cell?, hS1]
  rw [← hw1]
  clear hw1
  refine wpIn_rangeFunc_ownF (n := 4) rfl (by omega) (gf := 57) (lb := #[.pointer (some ⟨w.heap.size + 2, 0, none⟩)]) rfl trivial (enters_of Try.func57 (by kernel_rfl) rfl)
    (back_stops Fence.wide _ trivial rfl (by omega) (w.heap.size + 2) w.heap.size _ zs hz (by omega) w1 (by omega) (by omega) hc1 (hI0.below hB1)) KpB.trans (kpb_b (by omega) (by omega)) (Below.refl _ _) (fun _ => rfl)
    (fun pre W => ((∃ o0 o1 o2 o3 : Nat, W.heap[w.heap.size + 1]? = some (.cells #[.int .u64 o0, .int .u64 o1, .int .u64 o2, .int .u64 o3] 25 (0, 0)) ∧ W4 o0 o1 o2 o3 ∧ V o0 o1 o2 o3 = le ((pre.map (·.1.2)).reverse) % pL) ∧ W.heap[w.heap.size]? = some (.cells #[.int .u64 0, .int .u64 0, .int .u64 0, .int .u64 0] 25 (0, 0)) ∧ w.heap.size + 3 ≤ W.heap.size) ∧ Below w.heap.size w W)
    (fun _ _ _ => False)
    (OwnFrom.and (Own.from (fun s A B row hs hg hr => by
      obtain ⟨⟨o0, o1, o2, o3, h1, h2⟩, h3, h4⟩ := hs
      exact ⟨⟨o0, o1, o2, o3, heap_own h1 hg hr, h2⟩, heap_own h3 hg hr, Nat.le_trans h4 hg.size⟩) _) (ownFrom_below (Nat.le_refl _) (by omega)))
    (fun _ _ _ _ _ hs _ _ => hs)
    ⟨⟨⟨0, 0, 0, 0, hO1, by unfold W4; omega, by decide +kernel⟩, hR1, by omega⟩, hB1⟩
    (fun p => { tmps := #[.slice (some x) zs.length cap, undef, .pointer (some ⟨w.heap.size, 0, none⟩), .int .i64 0, .pointer (some ⟨w.heap.size + 1, 0, none⟩), undef, .int .u8 (p.1.2 : Int), undef, .slice (some x) zs.length cap, .int .i64 (zs.length : Int), .bool false, .bool false, .slice (some x) zs.length cap, .int .i64 (zs.length : Int), .bool false, .bool false, undef, .slice (some x) zs.length cap, .func (.func 57) #[] #[.pointer (some ⟨w.heap.size + 2, 0, none⟩)], .int .i64 (p.1.1 : Int), .int .u8 (p.1.2 : Int), undef, undef, undef, undef, undef, undef, undef, undef, undef, undef, undef, undef], defers := [] }) ?assign ?body ?done ?stop
  case assign =>
    intro l x W K hK
    gi_wp2
    exact hK
  case body =>
    rintro l pre ⟨⟨ix, c⟩, hc⟩ W ⟨⟨⟨o0, o1, o2, o3, hO, hw4, hv⟩, hR, hW3⟩, hB⟩ hlen
    simp only at hc
    obtain ⟨A, hA⟩ : ∃ A, V o0 o1 o2 o3 = A := ⟨_, rfl⟩
    rw [hA] at hv
    have HA : Hid (A = le (pre.map (·.1.2)).reverse % pL) := hv
    have HS : Hid (SC A c 8 (V o0 o1 o2 o3)) := by rw [hA]; exact Pl.SC_start (by rw [hv]; exact Nat.mod_lt _ Pl.pL_pos) hc
    have HL0 : Hid (V o0 o1 o2 o3 < pL) := by rw [hA, hv]; exact Nat.mod_lt _ Pl.pL_pos
    have HC := Lib.hid hc; have HR := Lib.hid hR; have HO1 := Lib.hid hO; have HB := Lib.hid hB; have HW4 := Lib.hid hw4; have HW3 := Lib.hid hW3
    clear hR hO hB hw4 hv hA hlen hW3 hB1 hS1 hR1 hO1 hc1 hcs hI0 hd1 hd2 hr hrv
    gi_wp2
    gi_loopw [7] (fun v7 wr => ∃ (i : Nat) (z : Int) (q0 q1 q2 q3 : Nat), v7 = .int .i64 z ∧ Hid (z = (i : Int) - 1 ∧ i ≤ 8) ∧ Hid (W4 q0 q1 q2 q3 ∧ SC A c i (V q0 q1 q2 q3) ∧ V q0 q1 q2 q3 < pL) ∧ Hid (wr.heap[w.heap.size + 1]? = some (.cells #[.int .u64 q0, .int .u64 q1, .int .u64 q2, .int .u64 q3] 25 (0, 0))) ∧ Hid (KeepX w.heap.size (w.heap.size + 1) W wr)) (fun v7 _ => (intOf v7 + 1).toNat)
    case atStart => exact ⟨8, 7, o0, o1, o2, o3, rfl, ⟨rfl, Nat.le_refl _⟩, ⟨HW4.out, HS.out, HL0.out⟩, HO1.out, KeepX.refl _ _ _⟩
    case round =>
      obtain ⟨i, z, q0, q1, q2, q3, rfl, HZ, HQ, HO, HX⟩ := hrel
      rcases i with _ | k
      · obtain rfl : z = -1 := by have := HZ.out.1; omega
        gi_wp2
        have hX := HX.out
        refine ⟨hX.others HO1.out, hX.kpb (by have := HW3.out; omega) (by omega), ⟨⟨q0, q1, q2, q3, HO.out, HQ.out.1, ?_⟩, (hX.same _ (by have := HW3.out; omega) (by omega)).trans HR.out, Nat.le_trans HW3.out hX.below.size⟩, HB.out.trans hX.below⟩
        rw [List.map_append, List.map_cons, List.map_nil, List.reverse_append]
        exact Pl.SC_row HA.out HQ.out.2.1
      · obtain rfl : z = (k : Int) := by have := HZ.out.1; omega
        have hk : k < 8 := by have := HZ.out.2; omega
        obtain ⟨bt, hbt⟩ : ∃ bt, c / 2 ^ k % 2 = bt := ⟨_, rfl⟩
        have hb1 : bt ≤ 1 := by omega
        obtain ⟨d0, d1, d2, d3, ⟨hd, hdv⟩, FD⟩ := double_fact q0 q1 q2 q3 bt HQ.out.1 HQ.out.2.2 hb1
        have hand := and_one_u8 (q := k) HC.out
        rw [hbt] at hand
        have hwr : IntKind.u64.wrap (bt : Int) = (bt : Int) := by rw [IntKind.wrap_u64]; omega
        have HN : Hid (SC A c k (V d0 d1 d2 d3) ∧ V d0 d1 d2 d3 < pL) := ⟨Pl.SC_step hk HQ.out.2.1 (by rw [hdv, hbt]), by rw [hdv]; exact Nat.mod_lt _ Pl.pL_pos⟩
        have HD := Lib.hid FD; have HDW := Lib.hid hd
        have cO := cells4 HO.out; have fO := frozen_of HO.out
        clear FD hd hdv hbt
        have hmx : Try.prog.follows .mixedOrders = true := by kernel_rfl
        gi_wp2
        gi_region_with_o (refine ⟨trivial, ?_⟩; refine (CallsIn.inRound l (callsIn_wide.2 (HD.out _))).mono ?_; rintro e w2 ⟨rfl, hb⟩; have hO2 := heap_keep' hb (heap_drew HO.out); have cO2 := cells4 hO2; have fO2 := frozen_of hO2)
        all_goals gi_wp2
        all_goals
          refine ⟨⟨k, (k : Int) - 1, d0, d1, d2, d3, rfl, ⟨rfl, by omega⟩, ⟨HDW.out, HN.out.1, HN.out.2⟩, set4 hO2 _ _ _ _, ?_⟩, ?_⟩
          · exact ((((HX.out.drew.call (by have := HW3.out; omega) hb).set (by omega) _ _).set (by omega) _ _).set (by omega) _ _).set (by omega) _ _
          · simp only [intOf]; omega
  case done =>
    rintro D ys W hD rfl ⟨⟨⟨o0, o1, o2, o3, hO, hw4, hv⟩, hR, hW3⟩, hB⟩ hK
    have cO := cells4 hO; have cR := cells4 hR; have fR := frozen_of hR
    obtain ⟨rfl, rfl, rfl, rfl⟩ := Pl.V_inj hw4 hr (by rw [hv, hrv, pbUp_rev zs hz])
    gi_wp2
    have hS := set4 hR (.int .u64 o0) (.int .u64 o1) (.int .u64 o2) (.int .u64 o3)
    have hKS := keep4 (b' := w.heap.size) hK (by omega) (.int .u64 o0) (.int .u64 o1) (.int .u64 o2) (.int .u64 o3)
    have hBS := set4_below (b := w.heap.size) hB (Nat.le_refl _) (.int .u64 o0) (.int .u64 o1) (.int .u64 o2) (.int .u64 o3)
    obtain ⟨v, hv2⟩ : ∃ y, y = ((((W.setCell ⟨w.heap.size, 0, none⟩ (.int .u64 o0)).setCell ⟨w.heap.size, 1, none⟩ (.int .u64 o1)).setCell ⟨w.heap.size, 2, none⟩ (.int .u64 o2)).setCell ⟨w.heap.size, 3, none⟩ (.int .u64 o3)) := ⟨_, rfl⟩
    rw [← hv2] at hS hKS hBS ⊢
    clear hv2
    refine ⟨by simp, .inl ⟨_, _, rfl, run_takeDeferred hKS, ?_⟩⟩
    have hQ := cells4 (heap_own hS (grownBy_putObj' v D (.deferred none)) (fun r e => by cases e; exact ⟨_, hKS, rfl⟩))
    refine ⟨.tuple #[.agg #[.int .u64 o0, .int .u64 o1, .int .u64 o2, .int .u64 o3], .int .i64 0], ?_, rfl, hBS.trans (belowK_b (w := w) (Nat.le_refl _) v D _ _ (by omega) hKS rfl rfl)⟩
    simp [results, Try.results37, Try.f37, go_sem, hQ]
  case stop =>
    rintro D c pre W _ _ h _
    exact h.elim

end Go.Proofs.Ytldnjbpcdojffaa
/- @@NUM 25 The walk of law 08's ResidueScalars. Conditions: words are below 2^64. -/
namespace Go.Proofs.Ytldnjbpcdojffaa
set_option linter.unusedVariables false
set_option linter.unusedSimpArgs false
open Go Go.RowKit
open Pl (V V8 W4 T256 le bytesOf)
open Dg (nv dg Ok)

set_option maxHeartbeats 2000000 in
theorem Scalar_bad (a : Option Addr) (len cap : Nat) (hl : len ≤ 1048576) (hn : len < 1 ∨ 64 < len) (w : World) : Calls Try.prog 37 #[.slice a len cap] w fun e w' => e = .returned (.tuple #[.agg #[.int .u64 0, .int .u64 0, .int .u64 0, .int .u64 0], .int .i64 3]) ∧ Below w.heap.size w w' := by
  by_cases h1 : len < 1
  · obtain rfl : len = 0 := by omega
    go_enter Try.func37, Try.ntmps37
    go_wp2
    refine bodyPost_ret (v := .tuple #[.agg #[.int .u64 0, .int .u64 0, .int .u64 0, .int .u64 0], .int .i64 3]) (by simp [results, Try.results37, go_sem]) rfl ⟨rfl, ?_⟩
    go_grown
  · have h2 : ¬ (len : Int) < 1 := by omega
    have h3 : (64 : Int) < (len : Int) := by omega
    go_enter Try.func37, Try.ntmps37
    go_wp2
    refine bodyPost_ret (v := .tuple #[.agg #[.int .u64 0, .int .u64 0, .int .u64 0, .int .u64 0], .int .i64 3]) (by simp [results, Try.results37, go_sem]) rfl ⟨rfl, ?_⟩
    go_grown

set_option maxHeartbeats 8000000 in
theorem sc_C (n0 n1 n2 n3 m0 m1 m2 m3 x0 x1 x2 x3 s0 s1 s2 s3 t0 t1 t2 t3 : Nat) (zs : List Nat) (dn dm d1 e1 d2 e2 d3 e3 : List Int) (sa : Option Addr) (len cap : Nat) (w : World)
    (H0 : Hid (∀ w : World, Calls Try.prog 13 #[] w fun e w' => e = .returned (.bool true) ∧ Below w.heap.size w w'))
    (HRn : Hid (∀ w : World, Calls Try.prog 20 #[.agg #[.int .u64 n0, .int .u64 n1, .int .u64 n2, .int .u64 n3]] w fun e w' => (∃ v, e = .returned v ∧ RdI w'.heap.size w' v dn) ∧ Below w.heap.size w w'))
    (HRm : Hid (∀ w : World, Calls Try.prog 20 #[.agg #[.int .u64 m0, .int .u64 m1, .int .u64 m2, .int .u64 m3]] w fun e w' => (∃ v, e = .returned v ∧ RdI w'.heap.size w' v dm) ∧ Below w.heap.size w w'))
    (HP : Hid (∀ (sa sb : Value) (w : World), RdI w.heap.size w sa dn → RdI w.heap.size w sb dm → Calls Try.prog 40 #[sa, sb] w fun e w' => (∃ v, e = .returned v ∧ RdI w'.heap.size w' v d2) ∧ Below w.heap.size w w'))
    (HT : Hid (∀ (sa sb : Value) (w : World), RdI w.heap.size w sa dn → RdI w.heap.size w sb dm → Calls Try.prog 42 #[sa, sb] w fun e w' => (∃ v, e = .returned v ∧ RdI w'.heap.size w' v d3) ∧ Below w.heap.size w w'))
    (HM2 : Hid (∀ (sa sb : Value) (w : World), RdI w.heap.size w sa d2 → RdI w.heap.size w sb orderD → Calls Try.prog 38 #[sa, sb] w fun e w' => (∃ v, e = .returned v ∧ RdI w'.heap.size w' v e2) ∧ Below w.heap.size w w'))
    (HM3 : Hid (∀ (sa sb : Value) (w : World), RdI w.heap.size w sa d3 → RdI w.heap.size w sb orderD → Calls Try.prog 38 #[sa, sb] w fun e w' => (∃ v, e = .returned v ∧ RdI w'.heap.size w' v e3) ∧ Below w.heap.size w w'))
    (HI2 : Hid (∀ (sv : Value) (w : World), RdI w.heap.size w sv e2 → Calls Try.prog 16 #[.agg #[.int .u64 s0, .int .u64 s1, .int .u64 s2, .int .u64 s3], sv] w fun e w' => e = .returned (.bool true) ∧ Below w.heap.size w w'))
    (HI3 : Hid (∀ (sv : Value) (w : World), RdI w.heap.size w sv e3 → Calls Try.prog 16 #[.agg #[.int .u64 t0, .int .u64 t1, .int .u64 t2, .int .u64 t3], sv] w fun e w' => e = .returned (.bool true) ∧ Below w.heap.size w w'))
    (HSA : Hid (∀ w : World, Calls Try.prog 39 #[.agg #[.int .u64 n0, .int .u64 n1, .int .u64 n2, .int .u64 n3], .agg #[.int .u64 m0, .int .u64 m1, .int .u64 m2, .int .u64 m3]] w fun e w' => e = .returned (.agg #[.int .u64 s0, .int .u64 s1, .int .u64 s2, .int .u64 s3]) ∧ Below w.heap.size w w'))
    (HSM : Hid (∀ w : World, Calls Try.prog 41 #[.agg #[.int .u64 n0, .int .u64 n1, .int .u64 n2, .int .u64 n3], .agg #[.int .u64 m0, .int .u64 m1, .int .u64 m2, .int .u64 m3]] w fun e w' => e = .returned (.agg #[.int .u64 t0, .int .u64 t1, .int .u64 t2, .int .u64 t3]) ∧ Below w.heap.size w w'))
    (HI : Hid (Bts w.heap.size w (.slice sa len cap) zs)) (hl1 : ¬ (100 : Int) < (len : Int)) (hl2 : ¬ (len : Int) < 1) (hl3 : ¬ (64 : Int) < (len : Int))
    (HOf : Hid (∀ (sv : Value) (w : World), Bts w.heap.size w sv zs → Calls Try.prog 37 #[sv] w fun e w' => e = .returned (.tuple #[.agg #[.int .u64 x0, .int .u64 x1, .int .u64 x2, .int .u64 x3], .int .i64 0]) ∧ Below w.heap.size w w'))
    (HROf : Hid (∀ (sv : Value) (w : World), Bts w.heap.size w sv zs → Calls Try.prog 17 #[sv] w fun e w' => (∃ v, e = .returned v ∧ RdI w'.heap.size w' v d1) ∧ Below w.heap.size w w'))
    (HM1 : Hid (∀ (sa sb : Value) (w : World), RdI w.heap.size w sa d1 → RdI w.heap.size w sb orderD → Calls Try.prog 38 #[sa, sb] w fun e w' => (∃ v, e = .returned v ∧ RdI w'.heap.size w' v e1) ∧ Below w.heap.size w w'))
    (HI1 : Hid (∀ (sv : Value) (w : World), RdI w.heap.size w sv e1 → Calls Try.prog 16 #[.agg #[.int .u64 x0, .int .u64 x1, .int .u64 x2, .int .u64 x3], sv] w fun e w' => e = .returned (.bool true) ∧ Below w.heap.size w w')) : Calls Try.prog 11 #[.slice sa len cap, .agg #[.int .u64 n0, .int .u64 n1, .int .u64 n2, .int .u64 n3], .agg #[.int .u64 m0, .int .u64 m1, .int .u64 m2, .int .u64 m3]] w fun e w' => e = .returned (.bool true) ∧ Below w.heap.size w w' := by
  have HOr := Lib.hid ROrder_fact
  go_enter Try.func11, Try.ntmps11
  go_wp2_with (fail)
  go_at_call 13
  refine (H0.out _).mono ?_
  rintro e wa ⟨rfl, hb⟩
  have HBn : Hid (Below w.heap.size w wa) := Lib.hid ((fun (h : Below _ _ _) => below_call h h.size hb) (by first | go_grown))
  have hBq_ : wa.heap[w.heap.size]? = some (.cells #[.int .u64 n0, .int .u64 n1, .int .u64 n2, .int .u64 n3] 25 (0, 0)) := heap_keep' hb (by repeat (first | (with_reducible refine heap_new' ?_ _; simp; done) | (with_reducible refine keep4 ?_ (by omega) _ _ _ _) | (with_reducible refine heap_old ?_ _) | (with_reducible refine heap_drew ?_) | (with_reducible refine heap_set_ne ?_ (by simp <;> omega) _)))
  have hBm_ : wa.heap[w.heap.size + 1]? = some (.cells #[.int .u64 m0, .int .u64 m1, .int .u64 m2, .int .u64 m3] 25 (0, 0)) := heap_keep' hb (by repeat (first | (with_reducible refine heap_new' ?_ _; simp; done) | (with_reducible refine keep4 ?_ (by omega) _ _ _ _) | (with_reducible refine heap_old ?_ _) | (with_reducible refine heap_drew ?_) | (with_reducible refine heap_set_ne ?_ (by simp <;> omega) _)))
  clear hb
  have HB := HBn; clear HBn
  have HBq := Lib.hid hBq_; have cBq := cells4 hBq_; have fBq := frozen_of hBq_; have zBq := lt_of_heap hBq_; clear hBq_
  have HBm := Lib.hid hBm_; have cBm := cells4 hBm_; have fBm := frozen_of hBm_; have zBm := lt_of_heap hBm_; clear hBm_
  go_wp2_with (fail)
  go_at_call 33
  refine (HOr.out _).mono ?_
  rintro e wb ⟨⟨vo, rfl, hvo⟩, hb⟩
  have HBn : Hid (Below w.heap.size w wb) := Lib.hid ((fun (h : Below _ _ _) => below_call h h.size hb) (by have hB0 := HB.out; have hS0 := hB0.size; first | (with_reducible exact hB0) | (with_reducible exact set4_below hB0 (by omega) _ _ _ _) | (with_reducible exact set4_below (set4_below hB0 (by omega) _ _ _ _) (by omega) _ _ _ _) | (with_reducible exact set4_below (set4_below (set4_below (set4_below hB0 (by omega) _ _ _ _) (by omega) _ _ _ _) (by omega) _ _ _ _) (by omega) _ _ _ _) | go_grown))
  have hBq_ : wb.heap[w.heap.size]? = some (.cells #[.int .u64 n0, .int .u64 n1, .int .u64 n2, .int .u64 n3] 25 (0, 0)) := heap_keep' hb (by repeat (first | (with_reducible exact HBq.out) | (with_reducible exact set4 HBq.out _ _ _ _) | (with_reducible apply set4) | (with_reducible refine heap_new' ?_ _; simp; done) | (with_reducible refine keep4 ?_ (by omega) _ _ _ _) | (with_reducible refine heap_old ?_ _) | (with_reducible refine heap_drew ?_) | (with_reducible refine heap_set_ne ?_ (by simp <;> omega) _)))
  have hBm_ : wb.heap[w.heap.size + 1]? = some (.cells #[.int .u64 m0, .int .u64 m1, .int .u64 m2, .int .u64 m3] 25 (0, 0)) := heap_keep' hb (by repeat (first | (with_reducible exact HBm.out) | (with_reducible exact set4 HBm.out _ _ _ _) | (with_reducible apply set4) | (with_reducible refine heap_new' ?_ _; simp; done) | (with_reducible refine keep4 ?_ (by omega) _ _ _ _) | (with_reducible refine heap_old ?_ _) | (with_reducible refine heap_drew ?_) | (with_reducible refine heap_set_ne ?_ (by simp <;> omega) _)))
  clear hb HB HBq cBq fBq zBq HBm cBm fBm zBm
  have HB := HBn; clear HBn
  have HBq := Lib.hid hBq_; have cBq := cells4 hBq_; have fBq := frozen_of hBq_; have zBq := lt_of_heap hBq_; clear hBq_
  have HBm := Lib.hid hBm_; have cBm := cells4 hBm_; have fBm := frozen_of hBm_; have zBm := lt_of_heap hBm_; clear hBm_
  obtain ⟨ao, co, eo⟩ := hvo.some
  subst eo
  have HOrd := Lib.hid hvo
  clear hvo
  go_wp2_with (fail)
  go_at_call 37
  refine (HOf.out _ _ ((HI.out.below HB.out).up HB.out.size)).mono ?_
  rintro e wc ⟨rfl, hb⟩; have HOrd2 := Lib.hid ((HOrd.out.next (by go_grown)).next hb); clear HOrd; have HOrd := HOrd2; clear HOrd2
  have HBn : Hid (Below w.heap.size w wc) := Lib.hid ((fun (h : Below _ _ _) => below_call h h.size hb) (by have hB0 := HB.out; have hS0 := hB0.size; first | (with_reducible exact hB0) | (with_reducible exact set4_below hB0 (by omega) _ _ _ _) | (with_reducible exact set4_below (set4_below hB0 (by omega) _ _ _ _) (by omega) _ _ _ _) | (with_reducible exact set4_below (set4_below (set4_below (set4_below hB0 (by omega) _ _ _ _) (by omega) _ _ _ _) (by omega) _ _ _ _) (by omega) _ _ _ _) | go_grown))
  have hBq_ : wc.heap[w.heap.size]? = some (.cells #[.int .u64 n0, .int .u64 n1, .int .u64 n2, .int .u64 n3] 25 (0, 0)) := heap_keep' hb (by repeat (first | (with_reducible exact HBq.out) | (with_reducible exact set4 HBq.out _ _ _ _) | (with_reducible apply set4) | (with_reducible refine heap_new' ?_ _; simp; done) | (with_reducible refine keep4 ?_ (by omega) _ _ _ _) | (with_reducible refine heap_old ?_ _) | (with_reducible refine heap_drew ?_) | (with_reducible refine heap_set_ne ?_ (by simp <;> omega) _)))
  have hBm_ : wc.heap[w.heap.size + 1]? = some (.cells #[.int .u64 m0, .int .u64 m1, .int .u64 m2, .int .u64 m3] 25 (0, 0)) := heap_keep' hb (by repeat (first | (with_reducible exact HBm.out) | (with_reducible exact set4 HBm.out _ _ _ _) | (with_reducible apply set4) | (with_reducible refine heap_new' ?_ _; simp; done) | (with_reducible refine keep4 ?_ (by omega) _ _ _ _) | (with_reducible refine heap_old ?_ _) | (with_reducible refine heap_drew ?_) | (with_reducible refine heap_set_ne ?_ (by simp <;> omega) _)))
  clear hb HB HBq cBq fBq zBq HBm cBm fBm zBm
  have HB := HBn; clear HBn
  have HBq := Lib.hid hBq_; have cBq := cells4 hBq_; have fBq := frozen_of hBq_; have zBq := lt_of_heap hBq_; clear hBq_
  have HBm := Lib.hid hBm_; have cBm := cells4 hBm_; have fBm := frozen_of hBm_; have zBm := lt_of_heap hBm_; clear hBm_
  go_wp2
  refine Rg.region_ (n := 74) [0, 1, 3, 7, 7, 23, 7, 119, 255, 511, 1023] [0, 0, 0, 1, 0, 1, 0, 1, 1, 0, 0] [39, 40, 41, 42, 43, 44, 45, 46, 47, 48, 49] [[(9, none)], [(39, some 0)], [(40, some 1)], [(8, none), (41, some 2)], [(0, none), (41, some 2)], [(43, some 4), (41, some 2)], [(7, none), (41, some 2)], [(44, some 5), (45, some 6), (41, some 2)], [(42, some 3), (46, some 7), (41, some 2)], [(47, some 8), (41, some 2)], [(41, some 2), (48, some 9)]] 11 (by kernel_rfl) (by kernel_rfl) (by rfl) ?_
  intro W hW
  have hBq_ : W.heap[w.heap.size]? = some (.cells #[.int .u64 n0, .int .u64 n1, .int .u64 n2, .int .u64 n3] 25 (0, 0)) := by rw [hW]; exact (by repeat (first | (with_reducible exact HBq.out) | (with_reducible exact set4 HBq.out _ _ _ _) | (with_reducible apply set4) | (with_reducible refine heap_new' ?_ _; simp; done) | (with_reducible refine keep4 ?_ (by omega) _ _ _ _) | (with_reducible refine heap_old ?_ _) | (with_reducible refine heap_drew ?_) | (with_reducible refine heap_set_ne ?_ (by simp <;> omega) _)))
  have hBm_ : W.heap[w.heap.size + 1]? = some (.cells #[.int .u64 m0, .int .u64 m1, .int .u64 m2, .int .u64 m3] 25 (0, 0)) := by rw [hW]; exact (by repeat (first | (with_reducible exact HBm.out) | (with_reducible exact set4 HBm.out _ _ _ _) | (with_reducible apply set4) | (with_reducible refine heap_new' ?_ _; simp; done) | (with_reducible refine keep4 ?_ (by omega) _ _ _ _) | (with_reducible refine heap_old ?_ _) | (with_reducible refine heap_drew ?_) | (with_reducible refine heap_set_ne ?_ (by simp <;> omega) _)))
  have hBx_ : W.heap[wc.heap.size]? = some (.cells #[.int .u64 x0, .int .u64 x1, .int .u64 x2, .int .u64 x3] 25 (0, 0)) := by rw [hW]; exact (by repeat (first | (with_reducible refine heap_new' ?_ _; simp; done) | (with_reducible refine keep4 ?_ (by omega) _ _ _ _) | (with_reducible refine heap_old ?_ _) | (with_reducible refine heap_drew ?_) | (with_reducible refine heap_set_ne ?_ (by simp <;> omega) _)))
  have HB0 : Below w.heap.size w W := by rw [hW]; have hB0 := HB.out; have hS0 := hB0.size; first | exact hB0.drew | exact (set4_below hB0 (by omega) _ _ _ _).drew | go_grown
  have HOW : RdI W.heap.size W (.slice ao orderD.length co) orderD := by rw [hW]; exact HOrd.out.next (by go_grown)
  change Rg.Chain' _ _ _ _ _ [(0, 0, 39, [(9, none)]), (1, 0, 40, [(39, some 0)]), (2, 0, 41, [(40, some 1)]), (3, 1, 42, [(8, none), (41, some 2)]), (4, 0, 43, [(0, none), (41, some 2)]), (5, 1, 44, [(43, some 4), (41, some 2)]), (6, 0, 45, [(7, none), (41, some 2)]), (7, 1, 46, [(44, some 5), (45, some 6), (41, some 2)]), (8, 1, 47, [(42, some 3), (46, some 7), (41, some 2)]), (9, 0, 48, [(47, some 8), (41, some 2)]), (10, 0, 49, [(41, some 2), (48, some 9)])] [(0, 0, 39, [(9, none)]), (1, 0, 40, [(39, some 0)]), (2, 0, 41, [(40, some 1)]), (3, 1, 42, [(8, none), (41, some 2)]), (4, 0, 43, [(0, none), (41, some 2)]), (5, 1, 44, [(43, some 4), (41, some 2)]), (6, 0, 45, [(7, none), (41, some 2)]), (7, 1, 46, [(44, some 5), (45, some 6), (41, some 2)]), (8, 1, 47, [(42, some 3), (46, some 7), (41, some 2)]), (9, 0, 48, [(47, some 8), (41, some 2)]), (10, 0, 49, [(41, some 2), (48, some 9)])] _
  apply Rg.ch_pure (by rfl)
  · rintro a w1 ⟨e9, -⟩
    conv at e9 => rhs; whnf
    have n9 := e9
    simp only [Act.eval, Array.getD_eq_getD_getElem?] at n9
    apply Rg.yields_run (Rg.wanted_none (by rfl))
    intro w2
    conv => lhs; simp [go_sem, n9]
  apply Rg.ch_pure (by rfl)
  · rintro a w1 ⟨e39, -⟩
    replace e39 : a.eval (.tmp 39) = _ := e39
    have n39 := e39
    simp only [Act.eval, Array.getD_eq_getD_getElem?] at n39
    apply Rg.yields_run (Rg.wanted_none (by rfl))
    intro w2
    conv => lhs; simp [go_sem, n39]
  apply Rg.ch_pure (by rfl)
  · rintro a w1 ⟨e40, -⟩
    replace e40 : a.eval (.tmp 40) = _ := e40
    have n40 := e40
    simp only [Act.eval, Array.getD_eq_getD_getElem?] at n40
    apply Rg.yields_run (Rg.wanted_none (by rfl))
    intro w2
    conv => lhs; simp [go_sem, n40]
  apply Rg.ch_def (by rfl) (fun a w1 h => by obtain ⟨-, e41, -⟩ := h; exact Rg.wanted_some (by rfl) (by rfl) e41)
  · rintro a w1 hb ⟨e8, e41, -⟩
    conv at e8 => rhs; whnf
    have n8 := e8
    simp only [Act.eval, Array.getD_eq_getD_getElem?] at n8
    replace e41 : a.eval (.tmp 41) = _ := e41
    have n41 := e41
    simp only [Act.eval, Array.getD_eq_getD_getElem?] at n41
    apply Rg.gives_value
    · conv => lhs; simp [go_sem, n8, n41, cells4 (heap_keep' hb hBq_), cells4 (heap_keep' hb hBm_), cells4 (heap_keep' hb hBx_)]
    · exact ⟨rfl, Below.refl _ _⟩
  apply Rg.ch_pure (by rfl)
  · rintro a w1 ⟨e0, e41, -⟩
    conv at e0 => rhs; whnf
    have n0 := e0
    simp only [Act.eval, Array.getD_eq_getD_getElem?] at n0
    replace e41 : a.eval (.tmp 41) = _ := e41
    have n41 := e41
    simp only [Act.eval, Array.getD_eq_getD_getElem?] at n41
    apply Rg.yields_run (Rg.wanted_some (by rfl) (by rfl) e41)
    intro w2
    conv => lhs; simp [go_sem, n0, n41]
  apply Rg.ch_rel (fun w v => RdI w.heap.size w v d1) (stable_rdi _) (by rfl) (fun a w1 h => by obtain ⟨-, e41, -⟩ := h; exact Rg.wanted_some (by rfl) (by rfl) e41)
  · rintro a w1 hb ⟨e43, e41, -⟩
    replace e43 : a.eval (.tmp 43) = _ := e43
    replace e41 : a.eval (.tmp 41) = _ := e41
    apply Rg.gives_enter
    · apply run_call Try.func17 (by kernel_rfl) rfl _ (by rfl)
      conv => lhs; simp only [List.map_toArray, List.map_cons, List.map_nil, eval_const_, eval_global_, e43]
    · refine (HROf.out _ _ ((HI.out.below (HB0.trans (hb.mono HB0.size))).up (Nat.le_trans HB0.size hb.size))).mono ?_
      rintro e w2 ⟨⟨v, rfl, hv⟩, hb2⟩
      exact ⟨_, rfl, hv, hb2⟩
  apply Rg.ch_pure (by rfl)
  · rintro a w1 ⟨e7, e41, -⟩
    conv at e7 => rhs; whnf
    have n7 := e7
    simp only [Act.eval, Array.getD_eq_getD_getElem?] at n7
    replace e41 : a.eval (.tmp 41) = _ := e41
    have n41 := e41
    simp only [Act.eval, Array.getD_eq_getD_getElem?] at n41
    apply Rg.yields_run (Rg.wanted_some (by rfl) (by rfl) e41)
    intro w2
    conv => lhs; simp [go_sem, n7, n41]
  apply Rg.ch_rel (fun w v => RdI w.heap.size w v e1) (stable_rdi _) (by rfl) (fun a w1 h => by obtain ⟨-, -, e41, -⟩ := h; exact Rg.wanted_some (by rfl) (by rfl) e41)
  · rintro a w1 hb ⟨e44, e45, e41, -⟩
    replace e44 : (fun w v => RdI w.heap.size w v d1) w1 (a.eval (.tmp 44)) := e44
    replace e45 : a.eval (.tmp 45) = _ := e45
    replace e41 : a.eval (.tmp 41) = _ := e41
    apply Rg.gives_enter
    · apply run_call Try.func38 (by kernel_rfl) rfl _ (by rfl)
      conv => lhs; simp only [List.map_toArray, List.map_cons, List.map_nil, eval_const_, eval_global_, e45]
    · refine (HM1.out _ _ _ e44 (HOW.next hb)).mono ?_
      rintro e w2 ⟨⟨v, rfl, hv⟩, hb2⟩
      exact ⟨_, rfl, hv, hb2⟩
  apply Rg.ch_def (by rfl) (fun a w1 h => by obtain ⟨-, -, e41, -⟩ := h; exact Rg.wanted_some (by rfl) (by rfl) e41)
  · rintro a w1 hb ⟨e42, e46, e41, -⟩
    replace e42 : a.eval (.tmp 42) = _ := e42
    replace e46 : (fun w v => RdI w.heap.size w v e1) w1 (a.eval (.tmp 46)) := e46
    replace e41 : a.eval (.tmp 41) = _ := e41
    apply Rg.gives_enter
    · apply run_call Try.func16 (by kernel_rfl) rfl _ (by rfl)
      conv => lhs; simp only [List.map_toArray, List.map_cons, List.map_nil, eval_const_, eval_global_, e42]
    · refine (HI1.out _ _ e46).mono ?_
      rintro e w2 ⟨rfl, hb2⟩
      exact ⟨_, rfl, rfl, hb2⟩
  apply Rg.ch_pure (by rfl)
  · rintro a w1 ⟨e47, e41, -⟩
    replace e47 : a.eval (.tmp 47) = _ := e47
    have n47 := e47
    simp only [Act.eval, Array.getD_eq_getD_getElem?] at n47
    replace e41 : a.eval (.tmp 41) = _ := e41
    have n41 := e41
    simp only [Act.eval, Array.getD_eq_getD_getElem?] at n41
    apply Rg.yields_run (Rg.wanted_some (by rfl) (by rfl) e41)
    intro w2
    conv => lhs; simp [go_sem, n47, n41]
  apply Rg.ch_pure (by rfl)
  · rintro a w1 ⟨e41, e48, -⟩
    replace e41 : a.eval (.tmp 41) = _ := e41
    have n41 := e41
    simp only [Act.eval, Array.getD_eq_getD_getElem?] at n41
    replace e48 : a.eval (.tmp 48) = _ := e48
    have n48 := e48
    simp only [Act.eval, Array.getD_eq_getD_getElem?] at n48
    apply Rg.yields_run (Rg.wanted_none (by rfl))
    intro w2
    conv => lhs; simp [go_sem, n41, n48]
  intro w1 hb1
  rintro _ rfl _ rfl _ rfl _ rfl _ rfl v44 hv44 _ rfl v46 hv46 _ rfl _ rfl _ rfl
  change Go.wpList _ _ _ _ _ _
  set_option maxRecDepth 100000 in simp only [List.drop_succ_cons, List.drop_zero, List.drop_nil, Act.put, List.setIfInBounds_toArray, List.set_cons_succ, List.set_cons_zero]
  change Go.NoPanic _ _ _ _
  refine NoPanic.normal ?_
  have HBn : Hid (Below w.heap.size w w1) := Lib.hid (below_call HB0 HB0.size hb1)
  have hBq__ := heap_keep' hb1 hBq_
  have hBm__ := heap_keep' hb1 hBm_
  have hBx__ := heap_keep' hb1 hBx_
  have HOrd2 := Lib.hid (HOW.next hb1)
  clear hb1 HB0 HB hBq_ HBq cBq fBq zBq hBm_ HBm cBm fBm zBm hBx_
  clear hW
  obtain ⟨wd, rfl⟩ : ∃ x : World, x = w1 := ⟨_, rfl⟩
  have HB := HBn; clear HBn
  have HBq := Lib.hid hBq__; have cBq := cells4 hBq__; have fBq := frozen_of hBq__; have zBq := lt_of_heap hBq__; clear hBq__
  have HBm := Lib.hid hBm__; have cBm := cells4 hBm__; have fBm := frozen_of hBm__; have zBm := lt_of_heap hBm__; clear hBm__
  have HBx := Lib.hid hBx__; have cBx := cells4 hBx__; have fBx := frozen_of hBx__; have zBx := lt_of_heap hBx__; clear hBx__
  clear HOrd HOW
  have HOrd := HOrd2; clear HOrd2
  go_wp2
  refine Rg.region_ (n := 74) [0, 0, 3, 0, 15, 0, 63, 127, 0, 511, 1023, 2047, 4095, 4095, 16383, 4095, 65535, 4095, 262143, 524287, 4095, 2097151, 4194303, 8388607, 16777215] [1, 1, 1, 1, 1, 1, 1, 1, 0, 1, 1, 0, 1, 1, 1, 1, 1, 1, 1, 1, 0, 1, 1, 0, 0] [50, 51, 52, 53, 54, 55, 56, 57, 58, 59, 60, 61, 62, 63, 64, 65, 66, 67, 68, 69, 70, 71, 72, 73, 6] [[(4, none)], [(5, none)], [(50, some 0), (51, some 1)], [(4, none)], [(53, some 3)], [(5, none)], [(55, some 5)], [(54, some 4), (56, some 6)], [(7, none)], [(57, some 7), (58, some 8)], [(52, some 2), (59, some 9)], [(60, some 10)], [(4, none), (61, some 11)], [(5, none), (61, some 11)], [(62, some 12), (63, some 13), (61, some 11)], [(4, none), (61, some 11)], [(65, some 15), (61, some 11)], [(5, none), (61, some 11)], [(67, some 17), (61, some 11)], [(66, some 16), (68, some 18), (61, some 11)], [(7, none), (61, some 11)], [(69, some 19), (70, some 20), (61, some 11)], [(64, some 14), (71, some 21), (61, some 11)], [(61, some 11), (72, some 22)], [(73, some 23)]] 25 (by kernel_rfl) (by kernel_rfl) (by rfl) ?_
  intro W hW
  have hBq_ : W.heap[w.heap.size]? = some (.cells #[.int .u64 n0, .int .u64 n1, .int .u64 n2, .int .u64 n3] 25 (0, 0)) := by rw [hW]; exact (by repeat (first | (with_reducible exact HBq.out) | (with_reducible exact set4 HBq.out _ _ _ _) | (with_reducible apply set4) | (with_reducible refine heap_new' ?_ _; simp; done) | (with_reducible refine keep4 ?_ (by omega) _ _ _ _) | (with_reducible refine heap_old ?_ _) | (with_reducible refine heap_drew ?_) | (with_reducible refine heap_set_ne ?_ (by simp <;> omega) _)))
  have hBm_ : W.heap[w.heap.size + 1]? = some (.cells #[.int .u64 m0, .int .u64 m1, .int .u64 m2, .int .u64 m3] 25 (0, 0)) := by rw [hW]; exact (by repeat (first | (with_reducible exact HBm.out) | (with_reducible exact set4 HBm.out _ _ _ _) | (with_reducible apply set4) | (with_reducible refine heap_new' ?_ _; simp; done) | (with_reducible refine keep4 ?_ (by omega) _ _ _ _) | (with_reducible refine heap_old ?_ _) | (with_reducible refine heap_drew ?_) | (with_reducible refine heap_set_ne ?_ (by simp <;> omega) _)))
  have hBx_ : W.heap[wc.heap.size]? = some (.cells #[.int .u64 x0, .int .u64 x1, .int .u64 x2, .int .u64 x3] 25 (0, 0)) := by rw [hW]; exact (by repeat (first | (with_reducible exact HBx.out) | (with_reducible exact set4 HBx.out _ _ _ _) | (with_reducible apply set4) | (with_reducible refine heap_new' ?_ _; simp; done) | (with_reducible refine keep4 ?_ (by omega) _ _ _ _) | (with_reducible refine heap_old ?_ _) | (with_reducible refine heap_drew ?_) | (with_reducible refine heap_set_ne ?_ (by simp <;> omega) _)))
  have HB0 : Below w.heap.size w W := by rw [hW]; have hB0 := HB.out; have hS0 := hB0.size; first | exact hB0.drew | exact (set4_below hB0 (by omega) _ _ _ _).drew | go_grown
  have HOW : RdI W.heap.size W (.slice ao orderD.length co) orderD := by rw [hW]; exact HOrd.out.next (by first | exact (Below.refl _ _).drew | go_grown)
  change Rg.Chain' _ _ _ _ _ [(0, 1, 50, [(4, none)]), (1, 1, 51, [(5, none)]), (2, 1, 52, [(50, some 0), (51, some 1)]), (3, 1, 53, [(4, none)]), (4, 1, 54, [(53, some 3)]), (5, 1, 55, [(5, none)]), (6, 1, 56, [(55, some 5)]), (7, 1, 57, [(54, some 4), (56, some 6)]), (8, 0, 58, [(7, none)]), (9, 1, 59, [(57, some 7), (58, some 8)]), (10, 1, 60, [(52, some 2), (59, some 9)]), (11, 0, 61, [(60, some 10)]), (12, 1, 62, [(4, none), (61, some 11)]), (13, 1, 63, [(5, none), (61, some 11)]), (14, 1, 64, [(62, some 12), (63, some 13), (61, some 11)]), (15, 1, 65, [(4, none), (61, some 11)]), (16, 1, 66, [(65, some 15), (61, some 11)]), (17, 1, 67, [(5, none), (61, some 11)]), (18, 1, 68, [(67, some 17), (61, some 11)]), (19, 1, 69, [(66, some 16), (68, some 18), (61, some 11)]), (20, 0, 70, [(7, none), (61, some 11)]), (21, 1, 71, [(69, some 19), (70, some 20), (61, some 11)]), (22, 1, 72, [(64, some 14), (71, some 21), (61, some 11)]), (23, 0, 73, [(61, some 11), (72, some 22)]), (24, 0, 6, [(73, some 23)])] [(0, 1, 50, [(4, none)]), (1, 1, 51, [(5, none)]), (2, 1, 52, [(50, some 0), (51, some 1)]), (3, 1, 53, [(4, none)]), (4, 1, 54, [(53, some 3)]), (5, 1, 55, [(5, none)]), (6, 1, 56, [(55, some 5)]), (7, 1, 57, [(54, some 4), (56, some 6)]), (8, 0, 58, [(7, none)]), (9, 1, 59, [(57, some 7), (58, some 8)]), (10, 1, 60, [(52, some 2), (59, some 9)]), (11, 0, 61, [(60, some 10)]), (12, 1, 62, [(4, none), (61, some 11)]), (13, 1, 63, [(5, none), (61, some 11)]), (14, 1, 64, [(62, some 12), (63, some 13), (61, some 11)]), (15, 1, 65, [(4, none), (61, some 11)]), (16, 1, 66, [(65, some 15), (61, some 11)]), (17, 1, 67, [(5, none), (61, some 11)]), (18, 1, 68, [(67, some 17), (61, some 11)]), (19, 1, 69, [(66, some 16), (68, some 18), (61, some 11)]), (20, 0, 70, [(7, none), (61, some 11)]), (21, 1, 71, [(69, some 19), (70, some 20), (61, some 11)]), (22, 1, 72, [(64, some 14), (71, some 21), (61, some 11)]), (23, 0, 73, [(61, some 11), (72, some 22)]), (24, 0, 6, [(73, some 23)])] _
  apply Rg.ch_def (by rfl) (fun a w1 _ => Rg.wanted_none (by rfl))
  · rintro a w1 hb ⟨e4, -⟩
    conv at e4 => rhs; whnf
    have n4 := e4
    simp only [Act.eval, Array.getD_eq_getD_getElem?] at n4
    apply Rg.gives_value
    · conv => lhs; simp [go_sem, n4, cells4 (heap_keep' hb hBq_), cells4 (heap_keep' hb hBm_), cells4 (heap_keep' hb hBx_)]
    · exact ⟨rfl, Below.refl _ _⟩
  apply Rg.ch_def (by rfl) (fun a w1 _ => Rg.wanted_none (by rfl))
  · rintro a w1 hb ⟨e5, -⟩
    conv at e5 => rhs; whnf
    have n5 := e5
    simp only [Act.eval, Array.getD_eq_getD_getElem?] at n5
    apply Rg.gives_value
    · conv => lhs; simp [go_sem, n5, cells4 (heap_keep' hb hBq_), cells4 (heap_keep' hb hBm_), cells4 (heap_keep' hb hBx_)]
    · exact ⟨rfl, Below.refl _ _⟩
  apply Rg.ch_def (by rfl) (fun a w1 _ => Rg.wanted_none (by rfl))
  · rintro a w1 hb ⟨e50, e51, -⟩
    replace e50 : a.eval (.tmp 50) = _ := e50
    replace e51 : a.eval (.tmp 51) = _ := e51
    apply Rg.gives_enter
    · apply run_call Try.func39 (by kernel_rfl) rfl _ (by rfl)
      conv => lhs; simp only [List.map_toArray, List.map_cons, List.map_nil, eval_const_, eval_global_, e50, e51]
    · refine (HSA.out _).mono ?_
      rintro e w2 ⟨rfl, hb2⟩
      exact ⟨_, rfl, rfl, hb2⟩
  apply Rg.ch_def (by rfl) (fun a w1 _ => Rg.wanted_none (by rfl))
  · rintro a w1 hb ⟨e4, -⟩
    conv at e4 => rhs; whnf
    have n4 := e4
    simp only [Act.eval, Array.getD_eq_getD_getElem?] at n4
    apply Rg.gives_value
    · conv => lhs; simp [go_sem, n4, cells4 (heap_keep' hb hBq_), cells4 (heap_keep' hb hBm_), cells4 (heap_keep' hb hBx_)]
    · exact ⟨rfl, Below.refl _ _⟩
  apply Rg.ch_rel (fun w v => RdI w.heap.size w v dn) (stable_rdi _) (by rfl) (fun a w1 _ => Rg.wanted_none (by rfl))
  · rintro a w1 hb ⟨e53, -⟩
    replace e53 : a.eval (.tmp 53) = _ := e53
    apply Rg.gives_enter
    · apply run_call Try.func20 (by kernel_rfl) rfl _ (by rfl)
      conv => lhs; simp only [List.map_toArray, List.map_cons, List.map_nil, eval_const_, eval_global_, e53]
    · refine (HRn.out _).mono ?_
      rintro e w2 ⟨⟨v, rfl, hv⟩, hb2⟩
      exact ⟨_, rfl, hv, hb2⟩
  apply Rg.ch_def (by rfl) (fun a w1 _ => Rg.wanted_none (by rfl))
  · rintro a w1 hb ⟨e5, -⟩
    conv at e5 => rhs; whnf
    have n5 := e5
    simp only [Act.eval, Array.getD_eq_getD_getElem?] at n5
    apply Rg.gives_value
    · conv => lhs; simp [go_sem, n5, cells4 (heap_keep' hb hBq_), cells4 (heap_keep' hb hBm_), cells4 (heap_keep' hb hBx_)]
    · exact ⟨rfl, Below.refl _ _⟩
  apply Rg.ch_rel (fun w v => RdI w.heap.size w v dm) (stable_rdi _) (by rfl) (fun a w1 _ => Rg.wanted_none (by rfl))
  · rintro a w1 hb ⟨e55, -⟩
    replace e55 : a.eval (.tmp 55) = _ := e55
    apply Rg.gives_enter
    · apply run_call Try.func20 (by kernel_rfl) rfl _ (by rfl)
      conv => lhs; simp only [List.map_toArray, List.map_cons, List.map_nil, eval_const_, eval_global_, e55]
    · refine (HRm.out _).mono ?_
      rintro e w2 ⟨⟨v, rfl, hv⟩, hb2⟩
      exact ⟨_, rfl, hv, hb2⟩
  apply Rg.ch_rel (fun w v => RdI w.heap.size w v d2) (stable_rdi _) (by rfl) (fun a w1 _ => Rg.wanted_none (by rfl))
  · rintro a w1 hb ⟨e54, e56, -⟩
    replace e54 : (fun w v => RdI w.heap.size w v dn) w1 (a.eval (.tmp 54)) := e54
    replace e56 : (fun w v => RdI w.heap.size w v dm) w1 (a.eval (.tmp 56)) := e56
    apply Rg.gives_enter
    · apply run_call Try.func40 (by kernel_rfl) rfl _ (by rfl)
      conv => lhs; simp only [List.map_toArray, List.map_cons, List.map_nil, eval_const_, eval_global_]
    · refine (HP.out _ _ _ e54 e56).mono ?_
      rintro e w2 ⟨⟨v, rfl, hv⟩, hb2⟩
      exact ⟨_, rfl, hv, hb2⟩
  apply Rg.ch_pure (by rfl)
  · rintro a w1 ⟨e7, -⟩
    conv at e7 => rhs; whnf
    have n7 := e7
    simp only [Act.eval, Array.getD_eq_getD_getElem?] at n7
    apply Rg.yields_run (Rg.wanted_none (by rfl))
    intro w2
    conv => lhs; simp [go_sem, n7]
  apply Rg.ch_rel (fun w v => RdI w.heap.size w v e2) (stable_rdi _) (by rfl) (fun a w1 _ => Rg.wanted_none (by rfl))
  · rintro a w1 hb ⟨e57, e58, -⟩
    replace e57 : (fun w v => RdI w.heap.size w v d2) w1 (a.eval (.tmp 57)) := e57
    replace e58 : a.eval (.tmp 58) = _ := e58
    apply Rg.gives_enter
    · apply run_call Try.func38 (by kernel_rfl) rfl _ (by rfl)
      conv => lhs; simp only [List.map_toArray, List.map_cons, List.map_nil, eval_const_, eval_global_, e58]
    · refine (HM2.out _ _ _ e57 (HOW.next hb)).mono ?_
      rintro e w2 ⟨⟨v, rfl, hv⟩, hb2⟩
      exact ⟨_, rfl, hv, hb2⟩
  apply Rg.ch_def (by rfl) (fun a w1 _ => Rg.wanted_none (by rfl))
  · rintro a w1 hb ⟨e52, e59, -⟩
    replace e52 : a.eval (.tmp 52) = _ := e52
    replace e59 : (fun w v => RdI w.heap.size w v e2) w1 (a.eval (.tmp 59)) := e59
    apply Rg.gives_enter
    · apply run_call Try.func16 (by kernel_rfl) rfl _ (by rfl)
      conv => lhs; simp only [List.map_toArray, List.map_cons, List.map_nil, eval_const_, eval_global_, e52]
    · refine (HI2.out _ _ e59).mono ?_
      rintro e w2 ⟨rfl, hb2⟩
      exact ⟨_, rfl, rfl, hb2⟩
  apply Rg.ch_pure (by rfl)
  · rintro a w1 ⟨e60, -⟩
    replace e60 : a.eval (.tmp 60) = _ := e60
    have n60 := e60
    simp only [Act.eval, Array.getD_eq_getD_getElem?] at n60
    apply Rg.yields_run (Rg.wanted_none (by rfl))
    intro w2
    conv => lhs; simp [go_sem, n60]
  apply Rg.ch_def (by rfl) (fun a w1 h => by obtain ⟨-, e61, -⟩ := h; exact Rg.wanted_some (by rfl) (by rfl) e61)
  · rintro a w1 hb ⟨e4, e61, -⟩
    conv at e4 => rhs; whnf
    have n4 := e4
    simp only [Act.eval, Array.getD_eq_getD_getElem?] at n4
    replace e61 : a.eval (.tmp 61) = _ := e61
    have n61 := e61
    simp only [Act.eval, Array.getD_eq_getD_getElem?] at n61
    apply Rg.gives_value
    · conv => lhs; simp [go_sem, n4, n61, cells4 (heap_keep' hb hBq_), cells4 (heap_keep' hb hBm_), cells4 (heap_keep' hb hBx_)]
    · exact ⟨rfl, Below.refl _ _⟩
  apply Rg.ch_def (by rfl) (fun a w1 h => by obtain ⟨-, e61, -⟩ := h; exact Rg.wanted_some (by rfl) (by rfl) e61)
  · rintro a w1 hb ⟨e5, e61, -⟩
    conv at e5 => rhs; whnf
    have n5 := e5
    simp only [Act.eval, Array.getD_eq_getD_getElem?] at n5
    replace e61 : a.eval (.tmp 61) = _ := e61
    have n61 := e61
    simp only [Act.eval, Array.getD_eq_getD_getElem?] at n61
    apply Rg.gives_value
    · conv => lhs; simp [go_sem, n5, n61, cells4 (heap_keep' hb hBq_), cells4 (heap_keep' hb hBm_), cells4 (heap_keep' hb hBx_)]
    · exact ⟨rfl, Below.refl _ _⟩
  apply Rg.ch_def (by rfl) (fun a w1 h => by obtain ⟨-, -, e61, -⟩ := h; exact Rg.wanted_some (by rfl) (by rfl) e61)
  · rintro a w1 hb ⟨e62, e63, e61, -⟩
    replace e62 : a.eval (.tmp 62) = _ := e62
    replace e63 : a.eval (.tmp 63) = _ := e63
    replace e61 : a.eval (.tmp 61) = _ := e61
    apply Rg.gives_enter
    · apply run_call Try.func41 (by kernel_rfl) rfl _ (by rfl)
      conv => lhs; simp only [List.map_toArray, List.map_cons, List.map_nil, eval_const_, eval_global_, e62, e63]
    · refine (HSM.out _).mono ?_
      rintro e w2 ⟨rfl, hb2⟩
      exact ⟨_, rfl, rfl, hb2⟩
  apply Rg.ch_def (by rfl) (fun a w1 h => by obtain ⟨-, e61, -⟩ := h; exact Rg.wanted_some (by rfl) (by rfl) e61)
  · rintro a w1 hb ⟨e4, e61, -⟩
    conv at e4 => rhs; whnf
    have n4 := e4
    simp only [Act.eval, Array.getD_eq_getD_getElem?] at n4
    replace e61 : a.eval (.tmp 61) = _ := e61
    have n61 := e61
    simp only [Act.eval, Array.getD_eq_getD_getElem?] at n61
    apply Rg.gives_value
    · conv => lhs; simp [go_sem, n4, n61, cells4 (heap_keep' hb hBq_), cells4 (heap_keep' hb hBm_), cells4 (heap_keep' hb hBx_)]
    · exact ⟨rfl, Below.refl _ _⟩
  apply Rg.ch_rel (fun w v => RdI w.heap.size w v dn) (stable_rdi _) (by rfl) (fun a w1 h => by obtain ⟨-, e61, -⟩ := h; exact Rg.wanted_some (by rfl) (by rfl) e61)
  · rintro a w1 hb ⟨e65, e61, -⟩
    replace e65 : a.eval (.tmp 65) = _ := e65
    replace e61 : a.eval (.tmp 61) = _ := e61
    apply Rg.gives_enter
    · apply run_call Try.func20 (by kernel_rfl) rfl _ (by rfl)
      conv => lhs; simp only [List.map_toArray, List.map_cons, List.map_nil, eval_const_, eval_global_, e65]
    · refine (HRn.out _).mono ?_
      rintro e w2 ⟨⟨v, rfl, hv⟩, hb2⟩
      exact ⟨_, rfl, hv, hb2⟩
  apply Rg.ch_def (by rfl) (fun a w1 h => by obtain ⟨-, e61, -⟩ := h; exact Rg.wanted_some (by rfl) (by rfl) e61)
  · rintro a w1 hb ⟨e5, e61, -⟩
    conv at e5 => rhs; whnf
    have n5 := e5
    simp only [Act.eval, Array.getD_eq_getD_getElem?] at n5
    replace e61 : a.eval (.tmp 61) = _ := e61
    have n61 := e61
    simp only [Act.eval, Array.getD_eq_getD_getElem?] at n61
    apply Rg.gives_value
    · conv => lhs; simp [go_sem, n5, n61, cells4 (heap_keep' hb hBq_), cells4 (heap_keep' hb hBm_), cells4 (heap_keep' hb hBx_)]
    · exact ⟨rfl, Below.refl _ _⟩
  apply Rg.ch_rel (fun w v => RdI w.heap.size w v dm) (stable_rdi _) (by rfl) (fun a w1 h => by obtain ⟨-, e61, -⟩ := h; exact Rg.wanted_some (by rfl) (by rfl) e61)
  · rintro a w1 hb ⟨e67, e61, -⟩
    replace e67 : a.eval (.tmp 67) = _ := e67
    replace e61 : a.eval (.tmp 61) = _ := e61
    apply Rg.gives_enter
    · apply run_call Try.func20 (by kernel_rfl) rfl _ (by rfl)
      conv => lhs; simp only [List.map_toArray, List.map_cons, List.map_nil, eval_const_, eval_global_, e67]
    · refine (HRm.out _).mono ?_
      rintro e w2 ⟨⟨v, rfl, hv⟩, hb2⟩
      exact ⟨_, rfl, hv, hb2⟩
  apply Rg.ch_rel (fun w v => RdI w.heap.size w v d3) (stable_rdi _) (by rfl) (fun a w1 h => by obtain ⟨-, -, e61, -⟩ := h; exact Rg.wanted_some (by rfl) (by rfl) e61)
  · rintro a w1 hb ⟨e66, e68, e61, -⟩
    replace e66 : (fun w v => RdI w.heap.size w v dn) w1 (a.eval (.tmp 66)) := e66
    replace e68 : (fun w v => RdI w.heap.size w v dm) w1 (a.eval (.tmp 68)) := e68
    replace e61 : a.eval (.tmp 61) = _ := e61
    apply Rg.gives_enter
    · apply run_call Try.func42 (by kernel_rfl) rfl _ (by rfl)
      conv => lhs; simp only [List.map_toArray, List.map_cons, List.map_nil, eval_const_, eval_global_]
    · refine (HT.out _ _ _ e66 e68).mono ?_
      rintro e w2 ⟨⟨v, rfl, hv⟩, hb2⟩
      exact ⟨_, rfl, hv, hb2⟩
  apply Rg.ch_pure (by rfl)
  · rintro a w1 ⟨e7, e61, -⟩
    conv at e7 => rhs; whnf
    have n7 := e7
    simp only [Act.eval, Array.getD_eq_getD_getElem?] at n7
    replace e61 : a.eval (.tmp 61) = _ := e61
    have n61 := e61
    simp only [Act.eval, Array.getD_eq_getD_getElem?] at n61
    apply Rg.yields_run (Rg.wanted_some (by rfl) (by rfl) e61)
    intro w2
    conv => lhs; simp [go_sem, n7, n61]
  apply Rg.ch_rel (fun w v => RdI w.heap.size w v e3) (stable_rdi _) (by rfl) (fun a w1 h => by obtain ⟨-, -, e61, -⟩ := h; exact Rg.wanted_some (by rfl) (by rfl) e61)
  · rintro a w1 hb ⟨e69, e70, e61, -⟩
    replace e69 : (fun w v => RdI w.heap.size w v d3) w1 (a.eval (.tmp 69)) := e69
    replace e70 : a.eval (.tmp 70) = _ := e70
    replace e61 : a.eval (.tmp 61) = _ := e61
    apply Rg.gives_enter
    · apply run_call Try.func38 (by kernel_rfl) rfl _ (by rfl)
      conv => lhs; simp only [List.map_toArray, List.map_cons, List.map_nil, eval_const_, eval_global_, e70]
    · refine (HM3.out _ _ _ e69 (HOW.next hb)).mono ?_
      rintro e w2 ⟨⟨v, rfl, hv⟩, hb2⟩
      exact ⟨_, rfl, hv, hb2⟩
  apply Rg.ch_def (by rfl) (fun a w1 h => by obtain ⟨-, -, e61, -⟩ := h; exact Rg.wanted_some (by rfl) (by rfl) e61)
  · rintro a w1 hb ⟨e64, e71, e61, -⟩
    replace e64 : a.eval (.tmp 64) = _ := e64
    replace e71 : (fun w v => RdI w.heap.size w v e3) w1 (a.eval (.tmp 71)) := e71
    replace e61 : a.eval (.tmp 61) = _ := e61
    apply Rg.gives_enter
    · apply run_call Try.func16 (by kernel_rfl) rfl _ (by rfl)
      conv => lhs; simp only [List.map_toArray, List.map_cons, List.map_nil, eval_const_, eval_global_, e64]
    · refine (HI3.out _ _ e71).mono ?_
      rintro e w2 ⟨rfl, hb2⟩
      exact ⟨_, rfl, rfl, hb2⟩
  apply Rg.ch_pure (by rfl)
  · rintro a w1 ⟨e61, e72, -⟩
    replace e61 : a.eval (.tmp 61) = _ := e61
    have n61 := e61
    simp only [Act.eval, Array.getD_eq_getD_getElem?] at n61
    replace e72 : a.eval (.tmp 72) = _ := e72
    have n72 := e72
    simp only [Act.eval, Array.getD_eq_getD_getElem?] at n72
    apply Rg.yields_run (Rg.wanted_none (by rfl))
    intro w2
    conv => lhs; simp [go_sem, n61, n72]
  apply Rg.ch_pure (by rfl)
  · rintro a w1 ⟨e73, -⟩
    replace e73 : a.eval (.tmp 73) = _ := e73
    have n73 := e73
    simp only [Act.eval, Array.getD_eq_getD_getElem?] at n73
    apply Rg.yields_run (Rg.wanted_none (by rfl))
    intro w2
    conv => lhs; simp [go_sem, n73]
  intro w1 hb1
  rintro _ rfl _ rfl _ rfl _ rfl v54 hv54 _ rfl v56 hv56 v57 hv57 _ rfl v59 hv59 _ rfl _ rfl _ rfl _ rfl _ rfl _ rfl v66 hv66 _ rfl v68 hv68 v69 hv69 _ rfl v71 hv71 _ rfl _ rfl _ rfl
  change Go.wpList _ _ _ _ _ _
  set_option maxRecDepth 100000 in simp only [List.drop_succ_cons, List.drop_zero, List.drop_nil, Act.put, List.setIfInBounds_toArray, List.set_cons_succ, List.set_cons_zero]
  change Go.NoPanic _ _ _ _
  refine NoPanic.normal ?_
  have HBn : Hid (Below w.heap.size w w1) := Lib.hid (below_call HB0 HB0.size hb1)
  have hBq__ := heap_keep' hb1 hBq_
  have hBm__ := heap_keep' hb1 hBm_
  have hBx__ := heap_keep' hb1 hBx_
  clear hb1 HB0 HB hBq_ HBq cBq fBq zBq hBm_ HBm cBm fBm zBm hBx_ HBx cBx fBx zBx
  clear hW
  obtain ⟨we, rfl⟩ : ∃ x : World, x = w1 := ⟨_, rfl⟩
  have HB := HBn; clear HBn
  have HBq := Lib.hid hBq__; have cBq := cells4 hBq__; have fBq := frozen_of hBq__; have zBq := lt_of_heap hBq__; clear hBq__
  have HBm := Lib.hid hBm__; have cBm := cells4 hBm__; have fBm := frozen_of hBm__; have zBm := lt_of_heap hBm__; clear hBm__
  have HBx := Lib.hid hBx__; have cBx := cells4 hBx__; have fBx := frozen_of hBx__; have zBx := lt_of_heap hBx__; clear hBx__
  go_wp2
  go_ret
  refine ⟨rfl, ?_⟩
  have hB0 := HB.out; have hS0 := hB0.size; first | exact hB0 | go_grown

end Go.Proofs.Ytldnjbpcdojffaa
