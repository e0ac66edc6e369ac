/- @@NUM 25 The walk of the document's Mod on digits. Conditions: rows of at most 1000 digits; the modulus is below 65536^16, and not 0. -/
import Derived.Test.YtldnjbpcdojffaaI12
namespace Go.Proofs.Ytldnjbpcdojffaa
set_option linter.unusedVariables false
set_option linter.unusedSimpArgs false
open Go Go.RowKit
open Dg (nv dg Ok Cn)

/-- What has been reckoned when b of the digit d's bits are left. -/
def SM (M A d b y : Nat) : Prop := y = (A * 2 ^ (16 - b) + d / 2 ^ b) % M
theorem SM_start {M A d : Nat} (hA : A < M) (hd : d < 65536) : SM M A d 16 A := by
  unfold SM
  rw [show d / 2 ^ 16 = 0 from Nat.div_eq_of_lt (by omega), Nat.sub_self, Nat.pow_zero, Nat.mul_one, Nat.add_zero, Nat.mod_eq_of_lt hA]
theorem SM_step {M A d b y z : Nat} (hb : b < 16) (h : SM M A d (b + 1) y) (hz : z = (2 * y + d / 2 ^ b % 2) % M) : SM M A d b z := by
  unfold SM at h ⊢
  have e1 : d / 2 ^ b = 2 * (d / 2 ^ (b + 1)) + d / 2 ^ b % 2 := by rw [Nat.pow_succ, ← Nat.div_div_eq_div_mul]; omega
  have e2 : 2 ^ (16 - b) = 2 ^ (16 - (b + 1)) * 2 := by rw [← Nat.pow_succ]; congr 1; omega
  have e3 : A * 2 ^ (16 - b) + d / 2 ^ b = 2 * (A * 2 ^ (16 - (b + 1)) + d / 2 ^ (b + 1)) + d / 2 ^ b % 2 := by
    rw [e2, ← Nat.mul_assoc]; omega
  rw [e3, hz, h, Nat.add_mod, Nat.mul_mod_mod, ← Nat.add_mod]
theorem SM_end {M A d y : Nat} (h : SM M A d 0 y) : y = (A * 65536 + d) % M := by
  unfold SM at h
  rw [h, Nat.pow_zero, Nat.div_one]
theorem mod_low {y f M : Nat} (hy : y < M) (hf : f ≤ 1) (h : 2 * y + f < M) : 2 * y + f = (2 * y + f) % M := (Nat.mod_eq_of_lt h).symm
theorem mod_high {y f M : Nat} (hy : y < M) (hf : f ≤ 1) (h : ¬ 2 * y + f < M) : 2 * y + f - M = (2 * y + f) % M := by
  rw [Nat.mod_eq_sub_mod (by omega), Nat.mod_eq_of_lt (by omega)]
theorem rdi_one (w : World) (u : Int) : RdI (w.alloc (.cells #[.int .i64 u] 3)).heap.size (w.alloc (.cells #[.int .i64 u] 3)) (.slice (some ⟨w.heap.size, 0, none⟩) 1 1) [u] :=
  rdi_owned (n := w.heap.size) (zs := [u]) ⟨rfl, .inr ⟨w.heap.size, 1, _, rfl, Nat.le_refl _, heap_new _ _, Nat.le_refl _, by unfold maxLen; simp, rfl, rfl⟩⟩
theorem tmod_two {q f : Nat} (h : q % 2 = f) : (q : Int).tmod 2 = (f : Int) := by rw [Int.tmod_eq_emod_of_nonneg (by omega)]; omega
theorem tdiv_two {q f : Nat} (h : q / 2 = f) : (q : Int).tdiv 2 = (f : Int) := by rw [Int.tdiv_eq_ediv_of_nonneg (by omega)]; omega
theorem ediv_two {q f : Nat} (h : q / 2 = f) : (q : Int) / 2 = (f : Int) := by omega
theorem wrap_nat {q : Nat} (h : q ≤ 65536) : wrap64 (q : Int) = (q : Int) := by unfold wrap64; omega
theorem mod_le_one {q f : Nat} (h : q % 2 = f) : f ≤ 1 := by omega
theorem half_le {q f : Nat} (h : q / 2 = f) (hq : q ≤ 32768) : f ≤ 65536 := by omega
theorem tdiv_nat {d B q : Nat} (h : d / B = q) : (d : Int).tdiv (B : Int) = (q : Int) := by
  rw [Int.tdiv_eq_ediv_of_nonneg (by omega), ← h]; exact (Int.natCast_ediv d B).symm
theorem top_digit {us : List Int} (h : Ok us) {i : Nat} (hi : i < us.length) : (nv (us.drop i)).toNat = (nv (us.drop (i + 1))).toNat * 65536 + us[i].toNat := by
  have h1 := Dg.nv_drop hi
  have h2 := h.at hi
  have h3 := Dg.nv_nonneg (h.drop (i + 1))
  omega

set_option maxHeartbeats 16000000 in
theorem Mod_fact (us vs : List Int) (ha : Ok us) (hb : Ok vs) (hla : us.length ≤ 1000) (hlb : vs.length ≤ 1000) (M : Nat) (hM : nv vs = (M : Int)) (hM0 : 0 < M) (hM1 : M ≤ 65536 ^ 16) (sa sb : Value) (w : World) (hA : RdI w.heap.size w sa us) (hB : RdI w.heap.size w sb vs) :
    Calls Try.prog 38 #[sa, sb] w fun e w' => (∃ v, e = .returned v ∧ RdI w'.heap.size w' v (dg ((nv us).toNat % M))) ∧ Below w.heap.size w w' := by
  have len1 : ∀ y, y < M → (dg y).length ≤ 17 := fun y hy => Dg.dg_length_le (Nat.lt_of_lt_of_le hy (Nat.le_trans hM1 (Nat.pow_le_pow_right (by decide) (by decide))))
  have len2 : ∀ y, y < M → ∀ f, f ≤ 1 → (dg (2 * y + f)).length ≤ 17 := fun y hy f hf => Dg.dg_length_le (by
    have e : (65536 : Nat) ^ 17 = 65536 ^ 16 * 65536 := Nat.pow_succ 65536 16
    rw [e]
    generalize (65536 : Nat) ^ 16 = B at hM1
    omega)
  have PA : ∀ (y : Nat) (hy : y < M) (s : Value) (w : World), RdI w.heap.size w s (dg y) → Calls Try.prog 40 #[s, s] w fun e w' => (∃ v, e = .returned v ∧ RdI w'.heap.size w' v (dg (2 * y))) ∧ Below w.heap.size w w' := fun y hy s w h => by
    have := Plus_fact (dg y) (dg y) (Dg.dg_ok _) (Dg.dg_ok _) (by have := len1 y hy; omega) (by have := len1 y hy; omega) s s w h h
    rw [Dg.nv_dg, show ((y : Int) + (y : Int)).toNat = 2 * y by omega] at this
    exact this
  have PB : ∀ (y : Nat) (hy : y < M) (s t : Value) (w : World), RdI w.heap.size w s (dg (2 * y)) → RdI w.heap.size w t [1] → Calls Try.prog 40 #[s, t] w fun e w' => (∃ v, e = .returned v ∧ RdI w'.heap.size w' v (dg (2 * y + 1))) ∧ Below w.heap.size w w' := fun y hy s t w h h2 => by
    have := Plus_fact (dg (2 * y)) [1] (Dg.dg_ok _) (Dg.Ok.one (by decide)) (by have := len2 y hy 0 (by omega); rw [Nat.add_zero] at this; omega) (by decide) s t w h h2
    rw [Dg.nv_dg, Dg.nv_one, show (((2 * y : Nat) : Int) + 1).toNat = 2 * y + 1 by omega] at this
    exact this
  have LS : ∀ (y f : Nat) (hy : y < M) (hf : f ≤ 1) (s t : Value) (w : World), RdI w.heap.size w s (dg (2 * y + f)) → RdI w.heap.size w t vs → Calls Try.prog 22 #[s, t] w fun e w' => e = .returned (.bool (decide (2 * y + f < M))) ∧ Below w.heap.size w w' := fun y f hy hf s t w h h2 => by
    have := Less_fact (dg (2 * y + f)) vs (Dg.dg_ok _) hb (by have := len2 y hy f hf; omega) (by omega) s t w h h2
    rw [Dg.nv_dg, hM] at this
    rw [show decide (2 * y + f < M) = decide (((2 * y + f : Nat) : Int) < (M : Int)) from decide_eq_decide.2 (by omega)]
    exact this
  have MI : ∀ (y f : Nat) (hy : y < M) (hf : f ≤ 1) (hge : ¬ 2 * y + f < M) (s t : Value) (w : World), RdI w.heap.size w s (dg (2 * y + f)) → RdI w.heap.size w t vs → Calls Try.prog 49 #[s, t] w fun e w' => (∃ v, e = .returned v ∧ RdI w'.heap.size w' v (dg (2 * y + f - M))) ∧ Below w.heap.size w w' := fun y f hy hf hge s t w h h2 => by
    have := Minus_fact (dg (2 * y + f)) vs (Dg.dg_ok _) hb (by have := len2 y hy f hf; omega) (by rw [Dg.nv_dg, hM]; omega) s t w h h2
    rw [Dg.nv_dg, hM, show (((2 * y + f : Nat) : Int) - (M : Int)).toNat = 2 * y + f - M by omega] at this
    exact this
  have HPA := Lib.hid PA; have HPB := Lib.hid PB; have HLS := Lib.hid LS; have HMI := Lib.hid MI
  have HA := Lib.hid hA; have HBB := Lib.hid hB; have HOA := Lib.hid ha; have HM0 := Lib.hid hM0
  clear PA PB LS MI len1 len2 hA hB ha hb hM hM0 hM1 hlb
  obtain ⟨x1, c1, rfl⟩ := HA.out.some
  obtain ⟨x2, c2, rfl⟩ := HBB.out.some
  go_enter Try.func38, Try.ntmps38
  go_wp2
  go_loopg [5, 6] (us.length + 1) (fun kq v5 v6 wr => ∃ (i x : Nat) (z : Int), v6 = .int .i64 z ∧ Hid (z = (i : Int) - 1 ∧ kq = i + 1 ∧ i ≤ us.length) ∧ Hid (x = (nv (us.drop i)).toNat % M) ∧ Hid (RdI wr.heap.size wr v5 (dg x)) ∧ Hid (Below w.heap.size w wr))
  case atStart =>
    refine ⟨us.length, 0, _, rfl, ⟨by first | rfl | omega | (rw [wrap_pred (by omega)]), rfl, Nat.le_refl _⟩, ?_, .inl ⟨rfl, Dg.dg_zero⟩, Below.refl _ _⟩
    show 0 = _
    rw [List.drop_eq_nil_of_le (Nat.le_refl _)]
    exact (Nat.zero_mod _).symm
  case round =>
    obtain ⟨i, x, z, rfl, HZ, HX, HR, HB⟩ := hrel
    rcases i with _ | i
    · obtain rfl : z = -1 := by have := HZ.out.1; omega
      have hr := HR.out
      rw [HX.out, List.drop_zero] at hr
      have HR2 := Lib.hid hr
      clear hr HR
      go_wp2
      go_ret
      exact ⟨⟨_, rfl, HR2.out⟩, HB.out⟩
    · obtain rfl : z = (i : Int) := by have := HZ.out.1; omega
      have ia : i < us.length := by have := HZ.out.2.2; omega
      have hia : (i : Int) < (us.length : Int) := by omega
      have hk : gk = i + 1 + 1 := HZ.out.2.1
      obtain ⟨d, hd⟩ : ∃ d : Nat, us[i].toNat = d := ⟨_, rfl⟩
      have oa := HOA.out.at ia
      have hdv : us[i] = (d : Int) := by omega
      have hdl : d < 65536 := by omega
      have hxM : x < M := by rw [HX.out]; exact Nat.mod_lt _ HM0.out
      have HTOP := Lib.hid (top_digit HOA.out ia)
      rw [hd] at HTOP
      have HS0 := Lib.hid (SM_start hxM hdl)
      have HXM := Lib.hid hxM; have HDV := Lib.hid hdv; have HDL := Lib.hid hdl
      clear oa hd hdv hdl hxM
      go_wp2
      go_loopg [5, 7] 16 (fun kb v5 v7 wr => ∃ (B y : Nat), v7 = .int .i64 B ∧ Hid (kb ≤ 16 ∧ B = 2 ^ kb / 2) ∧ Hid (SM M x d kb y ∧ y < M) ∧ Hid (RdI wr.heap.size wr v5 (dg y)) ∧ Hid (Below w.heap.size w wr))
      case atStart => exact ⟨32768, x, rfl, ⟨Nat.le_refl _, by decide⟩, ⟨HS0.out, HXM.out⟩, HR.out, HB.out⟩
      case round =>
        clear HR HB
        obtain ⟨B, y, rfl, HK, HY, HR, HB⟩ := hrel
        rcases gk with _ | kb
        · obtain rfl : B = 0 := HK.out.2
          have hfin := SM_end HY.out.1
          have HF : Hid (y = (nv (us.drop i)).toNat % M) := by
            show y = _
            rw [hfin, HX.out, HTOP.out, Nat.add_mod, Nat.mod_mul_mod, ← Nat.add_mod]
          clear hfin
          go_wp2
          go_roundg (i + 1)
          case measure => omega
          case rel => exact ⟨i, y, (i : Int) - 1, by simp, ⟨rfl, rfl, by omega⟩, HF.out, HR.out, HB.out⟩
        · have hB : B = 2 ^ kb := by rw [HK.out.2, Nat.pow_succ, Nat.mul_div_cancel _ (by decide)]
          have hkb : kb < 16 := by have := HK.out.1; omega
          have hBpos : 0 < B := by rw [hB]; exact Nat.pow_pos (by decide)
          have hBle : B ≤ 32768 := by rw [hB]; exact Nat.le_trans (Nat.pow_le_pow_right (n := 2) (by decide) (show kb ≤ 15 by omega)) (by decide)
          have hBi : (0 : Int) < (B : Int) := by omega
          have hBz : ¬ (B : Int) = 0 := by omega
          obtain ⟨q, hq⟩ : ∃ q, d / B = q := ⟨_, rfl⟩
          obtain ⟨f, hf⟩ : ∃ f, q % 2 = f := ⟨_, rfl⟩
          have hq1 := tdiv_nat hq
          have hql : q < 65536 := by rw [← hq]; exact Nat.lt_of_le_of_lt (Nat.div_le_self _ _) HDL.out
          have hqw := wrap_nat (Nat.le_of_lt hql)
          have hf1 := tmod_two hf
          have hfl := mod_le_one hf
          obtain ⟨B2, hB2⟩ : ∃ B2, B / 2 = B2 := ⟨_, rfl⟩
          have hB3 := tdiv_two hB2
          have hB4 := ediv_two hB2
          have hB5 := wrap_nat (half_le hB2 hBle)
          have HBN : Hid (kb ≤ 16 ∧ B2 = 2 ^ kb / 2) := ⟨Nat.le_of_lt hkb, by rw [← hB2, hB]⟩
          have HSM : Hid (∀ z, z = (2 * y + f) % M → SM M x d kb z ∧ z < M) := fun z hz => ⟨SM_step hkb HY.out.1 (by rw [hz, ← hf, ← hq, hB]), by rw [hz]; exact Nat.mod_lt _ HM0.out⟩
          have cellA : ∃ t, x1 = some t ∧ wr.cell? (t.add i) = some (.int .i64 (d : Int)) := by
            rcases HA.out with ⟨e, h0⟩ | ⟨t, cap, e, _, hyb, hcs⟩
            · rw [h0] at ia; simp at ia
            · injection e with e1 e2 e3
              exact ⟨t, e1, by rw [← HDV.out]; exact (HB.out.cell (p := t.add i) (by rw [add_block]; exact hyb)).trans (ints_at hcs ia)⟩
          obtain ⟨t1, rfl, ct⟩ := cellA
          have HTB := HA.out
          have hyM := HY.out.2
          obtain ⟨s5, k5, e5⟩ := HR.out.some
          subst e5
          clear hq hf hB hB2 hkb hBle
          go_wp2_with (fail)
          go_at_call 40
          refine (HPA.out y hyM _ _ HR.out).mono ?_
          rintro e wa ⟨⟨v1, rfl, hv1⟩, hb1⟩
          obtain ⟨s6, k6, e6⟩ := hv1.some
          subst e6
          have hct : wa.cell? (t1.add i) = some (.int .i64 (d : Int)) := (hb1.cell (p := t1.add i) (World.block_lt_of_cell? wr _ ct)).trans ct
          have HB1 : Hid (Below w.heap.size w wa) := below_call HB.out HB.out.size hb1
          have HV1 := Lib.hid hv1
          have HV2 := Lib.hid ((HBB.out.below HB1.out).up HB1.out.size)
          clear hv1 hb1 ct HR HB HTB
          rcases (show f = 0 ∨ f = 1 by omega) with rfl | rfl
          · have HV1' : Hid (RdI wa.heap.size wa (.slice s6 (dg (2 * y)).length k6) (dg (2 * y + 0))) := HV1.out
            by_cases hlt : 2 * y + 0 < M
            · have HL := Lib.hid (HLS.out y 0 hyM (by omega))
              rw [decide_eq_true hlt] at HL
              go_wp2_with (fail)
              go_at_call 22
              refine (HL.out _ _ _ HV1'.out HV2.out).mono ?_
              rintro e wl ⟨rfl, hbl⟩
              have HVL := Lib.hid (HV1'.out.next hbl); have HVM := Lib.hid (HV2.out.next hbl)
              have HBL : Hid (Below w.heap.size w wl) := below_call HB1.out HB1.out.size hbl
              clear hbl
              go_wp2
              go_roundg kb
              case measure => exact Nat.lt_succ_self kb
              case rel =>
                have hz := HSM.out (2 * y + 0) (mod_low hyM (by omega) hlt)
                exact ⟨B2, _, by first | rfl | (simp; done) | simp [hB5], HBN.out, hz, HVL.out, HBL.out⟩
            · have HL := Lib.hid (HLS.out y 0 hyM (by omega))
              rw [decide_eq_false hlt] at HL
              go_wp2_with (fail)
              go_at_call 22
              refine (HL.out _ _ _ HV1'.out HV2.out).mono ?_
              rintro e wl ⟨rfl, hbl⟩
              have HVL := Lib.hid (HV1'.out.next hbl); have HVM := Lib.hid (HV2.out.next hbl)
              have HBL : Hid (Below w.heap.size w wl) := below_call HB1.out HB1.out.size hbl
              clear hbl
              go_wp2_with (fail)
              go_at_call 49
              refine (HMI.out y 0 hyM (by omega) hlt _ _ _ HVL.out HVM.out).mono ?_
              rintro e wm ⟨⟨v9, rfl, hv9⟩, hb9⟩
              have HB9 : Hid (Below w.heap.size w wm) := below_call HBL.out HBL.out.size hb9
              have HV9 := Lib.hid hv9
              clear hv9 hb9
              go_wp2
              go_roundg kb
              case measure => exact Nat.lt_succ_self kb
              case rel =>
                have hz := HSM.out (2 * y + 0 - M) (mod_high hyM (by omega) hlt)
                exact ⟨B2, _, by first | rfl | (simp; done) | simp [hB5], HBN.out, hz, HV9.out, HB9.out⟩
          · go_wp2_with (fail)
            go_at_call 40
            have hAl : Below wa.heap.size wa (wa.alloc (.cells #[.int .i64 1] 3)) := (Below.refl _ _).alloc (Nat.le_refl _) _
            refine (HPB.out y hyM _ _ _ (HV1.out.next hAl) (rdi_one wa 1)).mono ?_
            rintro e wc ⟨⟨v3, rfl, hv3⟩, hb3⟩
            obtain ⟨s7, k7, e7⟩ := hv3.some
            subst e7
            have hb4 : Below wa.heap.size wa wc := below_call hAl hAl.size hb3
            have HB3 : Hid (Below w.heap.size w wc) := below_call HB1.out HB1.out.size hb4
            have HV3 := Lib.hid hv3
            have HV4 := Lib.hid (HV2.out.next hb4)
            clear hv3 hb3 hb4 hAl
            by_cases hlt : 2 * y + 1 < M
            · have HL := Lib.hid (HLS.out y 1 hyM (by omega))
              rw [decide_eq_true hlt] at HL
              go_wp2_with (fail)
              go_at_call 22
              refine (HL.out _ _ _ HV3.out HV4.out).mono ?_
              rintro e wl ⟨rfl, hbl⟩
              have HVL := Lib.hid (HV3.out.next hbl); have HVM := Lib.hid (HV4.out.next hbl)
              have HBL : Hid (Below w.heap.size w wl) := below_call HB3.out HB3.out.size hbl
              clear hbl
              go_wp2
              go_roundg kb
              case measure => exact Nat.lt_succ_self kb
              case rel =>
                have hz := HSM.out (2 * y + 1) (mod_low hyM (by omega) hlt)
                exact ⟨B2, _, by first | rfl | (simp; done) | simp [hB5], HBN.out, hz, HVL.out, HBL.out⟩
            · have HL := Lib.hid (HLS.out y 1 hyM (by omega))
              rw [decide_eq_false hlt] at HL
              go_wp2_with (fail)
              go_at_call 22
              refine (HL.out _ _ _ HV3.out HV4.out).mono ?_
              rintro e wl ⟨rfl, hbl⟩
              have HVL := Lib.hid (HV3.out.next hbl); have HVM := Lib.hid (HV4.out.next hbl)
              have HBL : Hid (Below w.heap.size w wl) := below_call HB3.out HB3.out.size hbl
              clear hbl
              go_wp2_with (fail)
              go_at_call 49
              refine (HMI.out y 1 hyM (by omega) hlt _ _ _ HVL.out HVM.out).mono ?_
              rintro e wm ⟨⟨v9, rfl, hv9⟩, hb9⟩
              have HB9 : Hid (Below w.heap.size w wm) := below_call HBL.out HBL.out.size hb9
              have HV9 := Lib.hid hv9
              clear hv9 hb9
              go_wp2
              go_roundg kb
              case measure => exact Nat.lt_succ_self kb
              case rel =>
                have hz := HSM.out (2 * y + 1 - M) (mod_high hyM (by omega) hlt)
                exact ⟨B2, _, by first | rfl | (simp; done) | simp [hB5], HBN.out, hz, HV9.out, HB9.out⟩

end Go.Proofs.Ytldnjbpcdojffaa
