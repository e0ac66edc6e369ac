/- @@NUM 25 The walk of law 08's ResiduePowers. Conditions: words are below 2^64. -/
import Derived.Test.YtldnjbpcdojffaaZ9
set_option linter.unusedSectionVars false
namespace Go.Proofs.Ytldnjbpcdojffaa
set_option linter.unusedVariables false
set_option linter.unusedSimpArgs false
open Go Go.RowKit
open Pl (V V8 W4 T256 pP le bytesOf)
open Dg (nv dg Ok)
attribute [local go_sem ↓] eql_num neq_num

theorem dg_pow0 (X : Nat) : dg (X ^ 0 % pP) = [1] := by
  have h := Dg.dg_nv (l := [1]) (Dg.Ok.one (by decide)) (fun a x e => by
    have := (List.append_inj' (show [] ++ [1] = a ++ [x] from e) rfl).2
    simp at this
    omega)
  rw [Dg.nv_one] at h
  have e : X ^ 0 % pP = 1 := by
    rw [Nat.pow_zero]
    decide +kernel
  rw [e]
  exact h

set_option maxHeartbeats 16000000 in
theorem pw_zero (a0 a1 a2 a3 r0 r1 r2 r3 q0 q1 q2 q3 c n X : Nat) (da dx : List Int) (w : World)
    (H0 : Hid (∀ w : World, Calls Try.prog 13 #[] w fun e w' => e = .returned (.bool true) ∧ Below w.heap.size w w'))
    (HRa : Hid (∀ w : World, Calls Try.prog 20 #[.agg #[.int .u64 a0, .int .u64 a1, .int .u64 a2, .int .u64 a3]] w fun e w' => (∃ v, e = .returned v ∧ RdI w'.heap.size w' v da) ∧ Below w.heap.size w w'))
    (HFa : Hid (∀ (sv : Value) (w : World), RdI w.heap.size w sv da → Calls Try.prog 27 #[sv] w fun e w' => (∃ v, e = .returned v ∧ RdI w'.heap.size w' v dx) ∧ Below w.heap.size w w'))
    (HM : Hid (∀ (k : Nat) (sa sb : Value) (w : World), RdI w.heap.size w sa (dg (X ^ k % pP)) → RdI w.heap.size w sb dx → Calls Try.prog 29 #[sa, sb] w fun e w' => (∃ v, e = .returned v ∧ RdI w'.heap.size w' v (dg (X ^ (k + 1) % pP))) ∧ Below w.heap.size w w'))
    (HI : Hid (∀ w : World, Calls Try.prog 35 #[.agg #[.int .u64 a0, .int .u64 a1, .int .u64 a2, .int .u64 a3]] w fun e w' => e = .returned (.agg #[.int .u64 r0, .int .u64 r1, .int .u64 r2, .int .u64 r3]) ∧ Below w.heap.size w w'))
    (HP : Hid (∀ w : World, Calls Try.prog 34 #[.agg #[.int .u64 a0, .int .u64 a1, .int .u64 a2, .int .u64 a3], .agg #[.int .u64 c, .int .u64 0, .int .u64 0, .int .u64 0]] w fun e w' => e = .returned (.agg #[.int .u64 q0, .int .u64 q1, .int .u64 q2, .int .u64 q3]) ∧ Below w.heap.size w w'))
    (HIs : Hid (∀ (sv : Value) (w : World), RdI w.heap.size w sv (dg (X ^ c % pP)) → Calls Try.prog 16 #[.agg #[.int .u64 q0, .int .u64 q1, .int .u64 q2, .int .u64 q3], sv] w fun e w' => e = .returned (.bool true) ∧ Below w.heap.size w w'))
    (HZ : Hid (∀ w : World, Calls Try.prog 15 #[.agg #[.int .u64 r0, .int .u64 r1, .int .u64 r2, .int .u64 r3]] w fun e w' => e = .returned (.bool true) ∧ Below w.heap.size w w'))
    (hn : n < 256) (hc : n % 40 = c) (hX : X = X) (hl : (((dx.length : Int)) == 0) = true) : Calls Try.prog 8 #[.agg #[.int .u64 a0, .int .u64 a1, .int .u64 a2, .int .u64 a3], .int .u8 n] w fun e w' => e = .returned (.bool true) ∧ Below w.heap.size w w' := by
  have hrem : (n : Int).tmod 40 = (c : Int) := by rw [Int.tmod_eq_emod_of_nonneg (by omega)]; omega
  have hwr : wrap64 (c : Int) = (c : Int) := by unfold wrap64; omega
  have hwu : IntKind.u64.wrap (c : Int) = (c : Int) := by rw [IntKind.wrap_u64]; omega
  have hwb : IntKind.u8.wrap (c : Int) = (c : Int) := by simp [IntKind.wrap, IntKind.signed, IntKind.bits]; omega
  have HC := Lib.hid hc; have HNN := Lib.hid hn
  clear hX hc hn
  go_enter Try.func8, Try.ntmps8
  go_wp2_with (fail)
  go_at_call 13
  refine (H0.out _).mono ?_
  rintro e wa ⟨rfl, hb⟩
  have HBn : Hid (Below w.heap.size w wa) := Lib.hid ((fun (h : Below _ _ _) => below_call h h.size hb) (by first | go_grown))
  have hBa_ : wa.heap[w.heap.size]? = some (.cells #[.int .u64 a0, .int .u64 a1, .int .u64 a2, .int .u64 a3] 25 (0, 0)) := heap_keep' hb (by repeat (first | (with_reducible refine heap_new' ?_ _; simp; done) | (with_reducible refine keep4 ?_ (by omega) _ _ _ _) | (with_reducible refine heap_old ?_ _) | (with_reducible refine heap_drew ?_) | (with_reducible refine heap_set_ne ?_ (by simp <;> omega) _)))
  clear hb
  have HB := HBn; clear HBn
  have HBa := Lib.hid hBa_; have cBa := cells4 hBa_; have fBa := frozen_of hBa_; have zBa := lt_of_heap hBa_; clear hBa_
  go_wp2_with (fail)
  go_at_call 20
  refine (HRa.out _).mono ?_
  rintro e wb ⟨⟨va, rfl, hv⟩, hb⟩; have HV := Lib.hid hv; clear hv
  have HBn : Hid (Below w.heap.size w wb) := Lib.hid ((fun (h : Below _ _ _) => below_call h h.size hb) (by have hB0 := HB.out; have hS0 := hB0.size; first | (with_reducible exact hB0) | (with_reducible exact set4_below hB0 (by omega) _ _ _ _) | (with_reducible exact set4_below (set4_below hB0 (by omega) _ _ _ _) (by omega) _ _ _ _) | (with_reducible exact set4_below (set4_below (set4_below (set4_below hB0 (by omega) _ _ _ _) (by omega) _ _ _ _) (by omega) _ _ _ _) (by omega) _ _ _ _) | go_grown))
  have hBa_ : wb.heap[w.heap.size]? = some (.cells #[.int .u64 a0, .int .u64 a1, .int .u64 a2, .int .u64 a3] 25 (0, 0)) := heap_keep' hb (by repeat (first | (with_reducible exact HBa.out) | (with_reducible exact set4 HBa.out _ _ _ _) | (with_reducible apply set4) | (with_reducible refine heap_new' ?_ _; simp; done) | (with_reducible refine keep4 ?_ (by omega) _ _ _ _) | (with_reducible refine heap_old ?_ _) | (with_reducible refine heap_drew ?_) | (with_reducible refine heap_set_ne ?_ (by simp <;> omega) _)))
  clear hb HB HBa cBa fBa zBa
  have HB := HBn; clear HBn
  have HBa := Lib.hid hBa_; have cBa := cells4 hBa_; have fBa := frozen_of hBa_; have zBa := lt_of_heap hBa_; clear hBa_
  go_wp2_with (fail)
  go_at_call 27
  refine (HFa.out _ _ HV.out).mono ?_
  rintro e wc ⟨⟨vx, rfl, hv⟩, hb⟩; have HX := Lib.hid hv; clear hv HV
  have HBn : Hid (Below w.heap.size w wc) := Lib.hid ((fun (h : Below _ _ _) => below_call h h.size hb) (by have hB0 := HB.out; have hS0 := hB0.size; first | (with_reducible exact hB0) | (with_reducible exact set4_below hB0 (by omega) _ _ _ _) | (with_reducible exact set4_below (set4_below hB0 (by omega) _ _ _ _) (by omega) _ _ _ _) | (with_reducible exact set4_below (set4_below (set4_below (set4_below hB0 (by omega) _ _ _ _) (by omega) _ _ _ _) (by omega) _ _ _ _) (by omega) _ _ _ _) | go_grown))
  have hBa_ : wc.heap[w.heap.size]? = some (.cells #[.int .u64 a0, .int .u64 a1, .int .u64 a2, .int .u64 a3] 25 (0, 0)) := heap_keep' hb (by repeat (first | (with_reducible exact HBa.out) | (with_reducible exact set4 HBa.out _ _ _ _) | (with_reducible apply set4) | (with_reducible refine heap_new' ?_ _; simp; done) | (with_reducible refine keep4 ?_ (by omega) _ _ _ _) | (with_reducible refine heap_old ?_ _) | (with_reducible refine heap_drew ?_) | (with_reducible refine heap_set_ne ?_ (by simp <;> omega) _)))
  clear hb HB HBa cBa fBa zBa
  have HB := HBn; clear HBn
  have HBa := Lib.hid hBa_; have cBa := cells4 hBa_; have fBa := frozen_of hBa_; have zBa := lt_of_heap hBa_; clear hBa_
  obtain ⟨xa, xc, ex⟩ := HX.out.some
  subst ex
  go_wp2
  simp only [hwr]
  go_loopg [6, 17] c (fun kq v6 v17 wr => ∃ k : Nat, v17 = .int .i64 k ∧ Hid (kq + k = c) ∧ Hid (RdI wr.heap.size wr v6 (dg (X ^ k % pP))) ∧ Hid (RdI wr.heap.size wr (.slice xa dx.length xc) dx) ∧ Hid (Below w.heap.size w wr) ∧ Hid (wr.heap[w.heap.size]? = some (.cells #[.int .u64 a0, .int .u64 a1, .int .u64 a2, .int .u64 a3] 25 (0, 0))))
  case atStart =>
    refine ⟨0, rfl, by exact Nat.add_zero c, ?_, HX.out.next (by go_grown), ?_, ?_⟩
    · rw [dg_pow0]
      exact rdi_one _ _
    · exact HB.out.alloc HB.out.size _
    · exact heap_old HBa.out _
  case round =>
    clear HX HB HBa cBa fBa zBa
    obtain ⟨k, rfl, HK, HW, HX, HB, HA⟩ := hrel
    have hwl : RdI wr.heap.size wr u6 (dg (X ^ k % pP)) := HW.out
    obtain ⟨ya, yc, ey⟩ := hwl.some
    subst ey
    have HWW := Lib.hid hwl
    clear hwl HW
    rcases gk with _ | kq
    · obtain rfl : k = c := by have := HK.out; omega
      have HBW := HB
      clear HB HK
      have hA := HA.out
      clear HA
      have HBa := Lib.hid hA; have cBa := cells4 hA; have fBa := frozen_of hA; have zBa := lt_of_heap hA; clear hA
      go_wp2_with (fail)
      go_at_call 35
      refine (HI.out _).mono ?_
      rintro e wd ⟨rfl, hb⟩; have XWW := Lib.hid ((HWW.out.next (by go_grown)).next hb); clear HWW; have HWW := XWW; clear XWW; have XX := Lib.hid ((HX.out.next (by go_grown)).next hb); clear HX; have HX := XX; clear XX
      have HBn : Hid (Below wr.heap.size wr wd) := Lib.hid ((fun (h : Below _ _ _) => below_call h h.size hb) (by first | go_grown))
      have hBa_ : wd.heap[w.heap.size]? = some (.cells #[.int .u64 a0, .int .u64 a1, .int .u64 a2, .int .u64 a3] 25 (0, 0)) := heap_keep' hb (by repeat (first | (with_reducible exact HBa.out) | (with_reducible exact set4 HBa.out _ _ _ _) | (with_reducible apply set4) | (with_reducible refine heap_new' ?_ _; simp; done) | (with_reducible refine keep4 ?_ (by omega) _ _ _ _) | (with_reducible refine heap_old ?_ _) | (with_reducible refine heap_drew ?_) | (with_reducible refine heap_set_ne ?_ (by simp <;> omega) _)))
      clear hb HBa cBa fBa zBa
      have HB := HBn; clear HBn
      have HBa := Lib.hid hBa_; have cBa := cells4 hBa_; have fBa := frozen_of hBa_; have zBa := lt_of_heap hBa_; clear hBa_
      go_wp2_with (fail)
      go_at_call 34
      refine (HP.out _).mono ?_
      rintro e we ⟨rfl, hb⟩; have XWW := Lib.hid ((HWW.out.next (by go_grown)).next hb); clear HWW; have HWW := XWW; clear XWW; have XX := Lib.hid ((HX.out.next (by go_grown)).next hb); clear HX; have HX := XX; clear XX
      have HBn : Hid (Below wr.heap.size wr we) := Lib.hid ((fun (h : Below _ _ _) => below_call h h.size hb) (by have hB0 := HB.out; have hS0 := hB0.size; first | (with_reducible exact hB0) | (with_reducible exact set4_below hB0 (by omega) _ _ _ _) | (with_reducible exact set4_below (set4_below hB0 (by omega) _ _ _ _) (by omega) _ _ _ _) | (with_reducible exact set4_below (set4_below (set4_below (set4_below hB0 (by omega) _ _ _ _) (by omega) _ _ _ _) (by omega) _ _ _ _) (by omega) _ _ _ _) | go_grown))
      have hBa_ : we.heap[w.heap.size]? = some (.cells #[.int .u64 a0, .int .u64 a1, .int .u64 a2, .int .u64 a3] 25 (0, 0)) := heap_keep' hb (by repeat (first | (with_reducible exact HBa.out) | (with_reducible exact set4 HBa.out _ _ _ _) | (with_reducible apply set4) | (with_reducible refine heap_new' ?_ _; simp; done) | (with_reducible refine keep4 ?_ (by omega) _ _ _ _) | (with_reducible refine heap_old ?_ _) | (with_reducible refine heap_drew ?_) | (with_reducible refine heap_set_ne ?_ (by simp <;> omega) _)))
      have hBi_ : we.heap[wd.heap.size]? = some (.cells #[.int .u64 r0, .int .u64 r1, .int .u64 r2, .int .u64 r3] 25 (0, 0)) := heap_keep' hb (by repeat (first | (with_reducible refine heap_new' ?_ _; simp; done) | (with_reducible refine keep4 ?_ (by omega) _ _ _ _) | (with_reducible refine heap_old ?_ _) | (with_reducible refine heap_drew ?_) | (with_reducible refine heap_set_ne ?_ (by simp <;> omega) _)))
      clear hb HB HBa cBa fBa zBa
      have HB := HBn; clear HBn
      have HBa := Lib.hid hBa_; have cBa := cells4 hBa_; have fBa := frozen_of hBa_; have zBa := lt_of_heap hBa_; clear hBa_
      have HBi := Lib.hid hBi_; have cBi := cells4 hBi_; have fBi := frozen_of hBi_; have zBi := lt_of_heap hBi_; clear hBi_
      go_wp2_with (fail)
      go_at_call 16
      refine (HIs.out _ _ HWW.out).mono ?_
      rintro e wf ⟨rfl, hb⟩
      have HBn : Hid (Below wr.heap.size wr wf) := Lib.hid ((fun (h : Below _ _ _) => below_call h h.size hb) (by have hB0 := HB.out; have hS0 := hB0.size; first | (with_reducible exact hB0) | (with_reducible exact set4_below hB0 (by omega) _ _ _ _) | (with_reducible exact set4_below (set4_below hB0 (by omega) _ _ _ _) (by omega) _ _ _ _) | (with_reducible exact set4_below (set4_below (set4_below (set4_below hB0 (by omega) _ _ _ _) (by omega) _ _ _ _) (by omega) _ _ _ _) (by omega) _ _ _ _) | go_grown))
      have hBa_ : wf.heap[w.heap.size]? = some (.cells #[.int .u64 a0, .int .u64 a1, .int .u64 a2, .int .u64 a3] 25 (0, 0)) := heap_keep' hb (by repeat (first | (with_reducible exact HBa.out) | (with_reducible exact set4 HBa.out _ _ _ _) | (with_reducible apply set4) | (with_reducible refine heap_new' ?_ _; simp; done) | (with_reducible refine keep4 ?_ (by omega) _ _ _ _) | (with_reducible refine heap_old ?_ _) | (with_reducible refine heap_drew ?_) | (with_reducible refine heap_set_ne ?_ (by simp <;> omega) _)))
      have hBi_ : wf.heap[wd.heap.size]? = some (.cells #[.int .u64 r0, .int .u64 r1, .int .u64 r2, .int .u64 r3] 25 (0, 0)) := heap_keep' hb (by repeat (first | (with_reducible exact HBi.out) | (with_reducible exact set4 HBi.out _ _ _ _) | (with_reducible apply set4) | (with_reducible refine heap_new' ?_ _; simp; done) | (with_reducible refine keep4 ?_ (by omega) _ _ _ _) | (with_reducible refine heap_old ?_ _) | (with_reducible refine heap_drew ?_) | (with_reducible refine heap_set_ne ?_ (by simp <;> omega) _)))
      clear hb HB HBa cBa fBa zBa HBi cBi fBi zBi
      have HB := HBn; clear HBn
      have HBa := Lib.hid hBa_; have cBa := cells4 hBa_; have fBa := frozen_of hBa_; have zBa := lt_of_heap hBa_; clear hBa_
      have HBi := Lib.hid hBi_; have cBi := cells4 hBi_; have fBi := frozen_of hBi_; have zBi := lt_of_heap hBi_; clear hBi_
      go_wp2_with (fail)
      go_at_call 15
      refine (HZ.out _).mono ?_
      rintro e wg ⟨rfl, hb⟩
      have HBn : Hid (Below wr.heap.size wr wg) := Lib.hid ((fun (h : Below _ _ _) => below_call h h.size hb) (by have hB0 := HB.out; have hS0 := hB0.size; first | (with_reducible exact hB0) | (with_reducible exact set4_below hB0 (by omega) _ _ _ _) | (with_reducible exact set4_below (set4_below hB0 (by omega) _ _ _ _) (by omega) _ _ _ _) | (with_reducible exact set4_below (set4_below (set4_below (set4_below hB0 (by omega) _ _ _ _) (by omega) _ _ _ _) (by omega) _ _ _ _) (by omega) _ _ _ _) | go_grown))
      have hBa_ : wg.heap[w.heap.size]? = some (.cells #[.int .u64 a0, .int .u64 a1, .int .u64 a2, .int .u64 a3] 25 (0, 0)) := heap_keep' hb (by repeat (first | (with_reducible exact HBa.out) | (with_reducible exact set4 HBa.out _ _ _ _) | (with_reducible apply set4) | (with_reducible refine heap_new' ?_ _; simp; done) | (with_reducible refine keep4 ?_ (by omega) _ _ _ _) | (with_reducible refine heap_old ?_ _) | (with_reducible refine heap_drew ?_) | (with_reducible refine heap_set_ne ?_ (by simp <;> omega) _)))
      have hBi_ : wg.heap[wd.heap.size]? = some (.cells #[.int .u64 r0, .int .u64 r1, .int .u64 r2, .int .u64 r3] 25 (0, 0)) := heap_keep' hb (by repeat (first | (with_reducible exact HBi.out) | (with_reducible exact set4 HBi.out _ _ _ _) | (with_reducible apply set4) | (with_reducible refine heap_new' ?_ _; simp; done) | (with_reducible refine keep4 ?_ (by omega) _ _ _ _) | (with_reducible refine heap_old ?_ _) | (with_reducible refine heap_drew ?_) | (with_reducible refine heap_set_ne ?_ (by simp <;> omega) _)))
      clear hb HB HBa cBa fBa zBa HBi cBi fBi zBi
      have HB := HBn; clear HBn
      have HBa := Lib.hid hBa_; have cBa := cells4 hBa_; have fBa := frozen_of hBa_; have zBa := lt_of_heap hBa_; clear hBa_
      have HBi := Lib.hid hBi_; have cBi := cells4 hBi_; have fBi := frozen_of hBi_; have zBi := lt_of_heap hBi_; clear hBi_
      have hBW := HBW.out
      have hBZ := HB.out
      go_wp2
      go_ret
      exact ⟨rfl, hBW.trans (hBZ.mono hBW.size)⟩
    · have hk : k < c := by have := HK.out; omega
      have hkw : wrap64 ((k : Int) + 1) = ((k + 1 : Nat) : Int) := by have := HC.out; have := HNN.out; unfold wrap64; omega
      have hkd : decide ((k : Int) < (c : Int)) = true := decide_eq_true (by omega)
      go_wp2_with (fail)
      go_at_call 29
      refine (HM.out k _ _ _ HWW.out HX.out).mono ?_
      rintro e wd ⟨⟨v, rfl, hv⟩, hb⟩
      have HV := Lib.hid hv; have HX2 := Lib.hid (HX.out.next hb)
      have HB2 := Lib.hid (below_call HB.out HB.out.size hb)
      have HA2 := Lib.hid (heap_keep' hb HA.out)
      clear hv hb HX HB HA HWW
      go_wp2
      go_roundg kq
      case measure => exact Nat.lt_succ_self kq
      case rel => exact ⟨k + 1, by first | rfl | (rw [hkw]) | simp, (by have := HK.out; omega : kq + (k + 1) = c), HV.out, HX2.out, HB2.out, HA2.out⟩

set_option maxHeartbeats 16000000 in
theorem pw_other (a0 a1 a2 a3 r0 r1 r2 r3 q0 q1 q2 q3 p0 p1 p2 p3 m0 m1 m2 m3 c n X : Nat) (da dx : List Int) (w : World)
    (H0 : Hid (∀ w : World, Calls Try.prog 13 #[] w fun e w' => e = .returned (.bool true) ∧ Below w.heap.size w w'))
    (HRa : Hid (∀ w : World, Calls Try.prog 20 #[.agg #[.int .u64 a0, .int .u64 a1, .int .u64 a2, .int .u64 a3]] w fun e w' => (∃ v, e = .returned v ∧ RdI w'.heap.size w' v da) ∧ Below w.heap.size w w'))
    (HFa : Hid (∀ (sv : Value) (w : World), RdI w.heap.size w sv da → Calls Try.prog 27 #[sv] w fun e w' => (∃ v, e = .returned v ∧ RdI w'.heap.size w' v dx) ∧ Below w.heap.size w w'))
    (HM : Hid (∀ (k : Nat) (sa sb : Value) (w : World), RdI w.heap.size w sa (dg (X ^ k % pP)) → RdI w.heap.size w sb dx → Calls Try.prog 29 #[sa, sb] w fun e w' => (∃ v, e = .returned v ∧ RdI w'.heap.size w' v (dg (X ^ (k + 1) % pP))) ∧ Below w.heap.size w w'))
    (HI : Hid (∀ w : World, Calls Try.prog 35 #[.agg #[.int .u64 a0, .int .u64 a1, .int .u64 a2, .int .u64 a3]] w fun e w' => e = .returned (.agg #[.int .u64 r0, .int .u64 r1, .int .u64 r2, .int .u64 r3]) ∧ Below w.heap.size w w'))
    (HP : Hid (∀ w : World, Calls Try.prog 34 #[.agg #[.int .u64 a0, .int .u64 a1, .int .u64 a2, .int .u64 a3], .agg #[.int .u64 c, .int .u64 0, .int .u64 0, .int .u64 0]] w fun e w' => e = .returned (.agg #[.int .u64 q0, .int .u64 q1, .int .u64 q2, .int .u64 q3]) ∧ Below w.heap.size w w'))
    (HIs : Hid (∀ (sv : Value) (w : World), RdI w.heap.size w sv (dg (X ^ c % pP)) → Calls Try.prog 16 #[.agg #[.int .u64 q0, .int .u64 q1, .int .u64 q2, .int .u64 q3], sv] w fun e w' => e = .returned (.bool true) ∧ Below w.heap.size w w'))
    (HPr : Hid (∀ w : World, Calls Try.prog 24 #[] w fun e w' => e = .returned (.agg #[.int .u64 p0, .int .u64 p1, .int .u64 p2, .int .u64 p3]) ∧ Below w.heap.size w w'))
    (HL : Hid (∀ w : World, Calls Try.prog 21 #[.agg #[.int .u64 r0, .int .u64 r1, .int .u64 r2, .int .u64 r3], .agg #[.int .u64 p0, .int .u64 p1, .int .u64 p2, .int .u64 p3]] w fun e w' => e = .returned (.bool true) ∧ Below w.heap.size w w'))
    (HMu : Hid (∀ (b : Nat) (w : World), w.heap[b]? = some (.cells #[.int .u64 a0, .int .u64 a1, .int .u64 a2, .int .u64 a3, .int .u64 r0, .int .u64 r1, .int .u64 r2, .int .u64 r3] 25 (0, 0)) → Calls Try.prog 25 #[.slice (some ⟨b, 0, none⟩) 2 2] w fun e w' => e = .returned (.agg #[.int .u64 m0, .int .u64 m1, .int .u64 m2, .int .u64 m3]) ∧ Below w.heap.size w w'))
    (hn : n < 256) (hc : n % 40 = c) (hX : X = X) (E1 : eqL [(m0 : Int), m1, m2, m3] [1, 0, 0, 0] = true) (hl : (((dx.length : Int)) == 0) = false) : Calls Try.prog 8 #[.agg #[.int .u64 a0, .int .u64 a1, .int .u64 a2, .int .u64 a3], .int .u8 n] w fun e w' => e = .returned (.bool true) ∧ Below w.heap.size w w' := by
  have hrem : (n : Int).tmod 40 = (c : Int) := by rw [Int.tmod_eq_emod_of_nonneg (by omega)]; omega
  have hwr : wrap64 (c : Int) = (c : Int) := by unfold wrap64; omega
  have hwu : IntKind.u64.wrap (c : Int) = (c : Int) := by rw [IntKind.wrap_u64]; omega
  have hwb : IntKind.u8.wrap (c : Int) = (c : Int) := by simp [IntKind.wrap, IntKind.signed, IntKind.bits]; omega
  have HC := Lib.hid hc; have HNN := Lib.hid hn
  clear hX hc hn
  go_enter Try.func8, Try.ntmps8
  go_wp2_with (fail)
  go_at_call 13
  refine (H0.out _).mono ?_
  rintro e wa ⟨rfl, hb⟩
  have HBn : Hid (Below w.heap.size w wa) := Lib.hid ((fun (h : Below _ _ _) => below_call h h.size hb) (by first | go_grown))
  have hBa_ : wa.heap[w.heap.size]? = some (.cells #[.int .u64 a0, .int .u64 a1, .int .u64 a2, .int .u64 a3] 25 (0, 0)) := heap_keep' hb (by repeat (first | (with_reducible refine heap_new' ?_ _; simp; done) | (with_reducible refine keep4 ?_ (by omega) _ _ _ _) | (with_reducible refine heap_old ?_ _) | (with_reducible refine heap_drew ?_) | (with_reducible refine heap_set_ne ?_ (by simp <;> omega) _)))
  clear hb
  have HB := HBn; clear HBn
  have HBa := Lib.hid hBa_; have cBa := cells4 hBa_; have fBa := frozen_of hBa_; have zBa := lt_of_heap hBa_; clear hBa_
  go_wp2_with (fail)
  go_at_call 20
  refine (HRa.out _).mono ?_
  rintro e wb ⟨⟨va, rfl, hv⟩, hb⟩; have HV := Lib.hid hv; clear hv
  have HBn : Hid (Below w.heap.size w wb) := Lib.hid ((fun (h : Below _ _ _) => below_call h h.size hb) (by have hB0 := HB.out; have hS0 := hB0.size; first | (with_reducible exact hB0) | (with_reducible exact set4_below hB0 (by omega) _ _ _ _) | (with_reducible exact set4_below (set4_below hB0 (by omega) _ _ _ _) (by omega) _ _ _ _) | (with_reducible exact set4_below (set4_below (set4_below (set4_below hB0 (by omega) _ _ _ _) (by omega) _ _ _ _) (by omega) _ _ _ _) (by omega) _ _ _ _) | go_grown))
  have hBa_ : wb.heap[w.heap.size]? = some (.cells #[.int .u64 a0, .int .u64 a1, .int .u64 a2, .int .u64 a3] 25 (0, 0)) := heap_keep' hb (by repeat (first | (with_reducible exact HBa.out) | (with_reducible exact set4 HBa.out _ _ _ _) | (with_reducible apply set4) | (with_reducible refine heap_new' ?_ _; simp; done) | (with_reducible refine keep4 ?_ (by omega) _ _ _ _) | (with_reducible refine heap_old ?_ _) | (with_reducible refine heap_drew ?_) | (with_reducible refine heap_set_ne ?_ (by simp <;> omega) _)))
  clear hb HB HBa cBa fBa zBa
  have HB := HBn; clear HBn
  have HBa := Lib.hid hBa_; have cBa := cells4 hBa_; have fBa := frozen_of hBa_; have zBa := lt_of_heap hBa_; clear hBa_
  go_wp2_with (fail)
  go_at_call 27
  refine (HFa.out _ _ HV.out).mono ?_
  rintro e wc ⟨⟨vx, rfl, hv⟩, hb⟩; have HX := Lib.hid hv; clear hv HV
  have HBn : Hid (Below w.heap.size w wc) := Lib.hid ((fun (h : Below _ _ _) => below_call h h.size hb) (by have hB0 := HB.out; have hS0 := hB0.size; first | (with_reducible exact hB0) | (with_reducible exact set4_below hB0 (by omega) _ _ _ _) | (with_reducible exact set4_below (set4_below hB0 (by omega) _ _ _ _) (by omega) _ _ _ _) | (with_reducible exact set4_below (set4_below (set4_below (set4_below hB0 (by omega) _ _ _ _) (by omega) _ _ _ _) (by omega) _ _ _ _) (by omega) _ _ _ _) | go_grown))
  have hBa_ : wc.heap[w.heap.size]? = some (.cells #[.int .u64 a0, .int .u64 a1, .int .u64 a2, .int .u64 a3] 25 (0, 0)) := heap_keep' hb (by repeat (first | (with_reducible exact HBa.out) | (with_reducible exact set4 HBa.out _ _ _ _) | (with_reducible apply set4) | (with_reducible refine heap_new' ?_ _; simp; done) | (with_reducible refine keep4 ?_ (by omega) _ _ _ _) | (with_reducible refine heap_old ?_ _) | (with_reducible refine heap_drew ?_) | (with_reducible refine heap_set_ne ?_ (by simp <;> omega) _)))
  clear hb HB HBa cBa fBa zBa
  have HB := HBn; clear HBn
  have HBa := Lib.hid hBa_; have cBa := cells4 hBa_; have fBa := frozen_of hBa_; have zBa := lt_of_heap hBa_; clear hBa_
  obtain ⟨xa, xc, ex⟩ := HX.out.some
  subst ex
  go_wp2
  simp only [hwr]
  go_loopg [6, 17] c (fun kq v6 v17 wr => ∃ k : Nat, v17 = .int .i64 k ∧ Hid (kq + k = c) ∧ Hid (RdI wr.heap.size wr v6 (dg (X ^ k % pP))) ∧ Hid (RdI wr.heap.size wr (.slice xa dx.length xc) dx) ∧ Hid (Below w.heap.size w wr) ∧ Hid (wr.heap[w.heap.size]? = some (.cells #[.int .u64 a0, .int .u64 a1, .int .u64 a2, .int .u64 a3] 25 (0, 0))))
  case atStart =>
    refine ⟨0, rfl, by exact Nat.add_zero c, ?_, HX.out.next (by go_grown), ?_, ?_⟩
    · rw [dg_pow0]
      exact rdi_one _ _
    · exact HB.out.alloc HB.out.size _
    · exact heap_old HBa.out _
  case round =>
    clear HX HB HBa cBa fBa zBa
    obtain ⟨k, rfl, HK, HW, HX, HB, HA⟩ := hrel
    have hwl : RdI wr.heap.size wr u6 (dg (X ^ k % pP)) := HW.out
    obtain ⟨ya, yc, ey⟩ := hwl.some
    subst ey
    have HWW := Lib.hid hwl
    clear hwl HW
    rcases gk with _ | kq
    · obtain rfl : k = c := by have := HK.out; omega
      have HBW := HB
      clear HB HK
      have hA := HA.out
      clear HA
      have HBa := Lib.hid hA; have cBa := cells4 hA; have fBa := frozen_of hA; have zBa := lt_of_heap hA; clear hA
      go_wp2_with (fail)
      go_at_call 35
      refine (HI.out _).mono ?_
      rintro e wd ⟨rfl, hb⟩; have XWW := Lib.hid ((HWW.out.next (by go_grown)).next hb); clear HWW; have HWW := XWW; clear XWW; have XX := Lib.hid ((HX.out.next (by go_grown)).next hb); clear HX; have HX := XX; clear XX
      have HBn : Hid (Below wr.heap.size wr wd) := Lib.hid ((fun (h : Below _ _ _) => below_call h h.size hb) (by first | go_grown))
      have hBa_ : wd.heap[w.heap.size]? = some (.cells #[.int .u64 a0, .int .u64 a1, .int .u64 a2, .int .u64 a3] 25 (0, 0)) := heap_keep' hb (by repeat (first | (with_reducible exact HBa.out) | (with_reducible exact set4 HBa.out _ _ _ _) | (with_reducible apply set4) | (with_reducible refine heap_new' ?_ _; simp; done) | (with_reducible refine keep4 ?_ (by omega) _ _ _ _) | (with_reducible refine heap_old ?_ _) | (with_reducible refine heap_drew ?_) | (with_reducible refine heap_set_ne ?_ (by simp <;> omega) _)))
      clear hb HBa cBa fBa zBa
      have HB := HBn; clear HBn
      have HBa := Lib.hid hBa_; have cBa := cells4 hBa_; have fBa := frozen_of hBa_; have zBa := lt_of_heap hBa_; clear hBa_
      go_wp2_with (fail)
      go_at_call 34
      refine (HP.out _).mono ?_
      rintro e we ⟨rfl, hb⟩; have XWW := Lib.hid ((HWW.out.next (by go_grown)).next hb); clear HWW; have HWW := XWW; clear XWW; have XX := Lib.hid ((HX.out.next (by go_grown)).next hb); clear HX; have HX := XX; clear XX
      have HBn : Hid (Below wr.heap.size wr we) := Lib.hid ((fun (h : Below _ _ _) => below_call h h.size hb) (by have hB0 := HB.out; have hS0 := hB0.size; first | (with_reducible exact hB0) | (with_reducible exact set4_below hB0 (by omega) _ _ _ _) | (with_reducible exact set4_below (set4_below hB0 (by omega) _ _ _ _) (by omega) _ _ _ _) | (with_reducible exact set4_below (set4_below (set4_below (set4_below hB0 (by omega) _ _ _ _) (by omega) _ _ _ _) (by omega) _ _ _ _) (by omega) _ _ _ _) | go_grown))
      have hBa_ : we.heap[w.heap.size]? = some (.cells #[.int .u64 a0, .int .u64 a1, .int .u64 a2, .int .u64 a3] 25 (0, 0)) := heap_keep' hb (by repeat (first | (with_reducible exact HBa.out) | (with_reducible exact set4 HBa.out _ _ _ _) | (with_reducible apply set4) | (with_reducible refine heap_new' ?_ _; simp; done) | (with_reducible refine keep4 ?_ (by omega) _ _ _ _) | (with_reducible refine heap_old ?_ _) | (with_reducible refine heap_drew ?_) | (with_reducible refine heap_set_ne ?_ (by simp <;> omega) _)))
      have hBi_ : we.heap[wd.heap.size]? = some (.cells #[.int .u64 r0, .int .u64 r1, .int .u64 r2, .int .u64 r3] 25 (0, 0)) := heap_keep' hb (by repeat (first | (with_reducible refine heap_new' ?_ _; simp; done) | (with_reducible refine keep4 ?_ (by omega) _ _ _ _) | (with_reducible refine heap_old ?_ _) | (with_reducible refine heap_drew ?_) | (with_reducible refine heap_set_ne ?_ (by simp <;> omega) _)))
      clear hb HB HBa cBa fBa zBa
      have HB := HBn; clear HBn
      have HBa := Lib.hid hBa_; have cBa := cells4 hBa_; have fBa := frozen_of hBa_; have zBa := lt_of_heap hBa_; clear hBa_
      have HBi := Lib.hid hBi_; have cBi := cells4 hBi_; have fBi := frozen_of hBi_; have zBi := lt_of_heap hBi_; clear hBi_
      go_wp2_with (fail)
      go_at_call 16
      refine (HIs.out _ _ HWW.out).mono ?_
      rintro e wf ⟨rfl, hb⟩
      have HBn : Hid (Below wr.heap.size wr wf) := Lib.hid ((fun (h : Below _ _ _) => below_call h h.size hb) (by have hB0 := HB.out; have hS0 := hB0.size; first | (with_reducible exact hB0) | (with_reducible exact set4_below hB0 (by omega) _ _ _ _) | (with_reducible exact set4_below (set4_below hB0 (by omega) _ _ _ _) (by omega) _ _ _ _) | (with_reducible exact set4_below (set4_below (set4_below (set4_below hB0 (by omega) _ _ _ _) (by omega) _ _ _ _) (by omega) _ _ _ _) (by omega) _ _ _ _) | go_grown))
      have hBa_ : wf.heap[w.heap.size]? = some (.cells #[.int .u64 a0, .int .u64 a1, .int .u64 a2, .int .u64 a3] 25 (0, 0)) := heap_keep' hb (by repeat (first | (with_reducible exact HBa.out) | (with_reducible exact set4 HBa.out _ _ _ _) | (with_reducible apply set4) | (with_reducible refine heap_new' ?_ _; simp; done) | (with_reducible refine keep4 ?_ (by omega) _ _ _ _) | (with_reducible refine heap_old ?_ _) | (with_reducible refine heap_drew ?_) | (with_reducible refine heap_set_ne ?_ (by simp <;> omega) _)))
      have hBi_ : wf.heap[wd.heap.size]? = some (.cells #[.int .u64 r0, .int .u64 r1, .int .u64 r2, .int .u64 r3] 25 (0, 0)) := heap_keep' hb (by repeat (first | (with_reducible exact HBi.out) | (with_reducible exact set4 HBi.out _ _ _ _) | (with_reducible apply set4) | (with_reducible refine heap_new' ?_ _; simp; done) | (with_reducible refine keep4 ?_ (by omega) _ _ _ _) | (with_reducible refine heap_old ?_ _) | (with_reducible refine heap_drew ?_) | (with_reducible refine heap_set_ne ?_ (by simp <;> omega) _)))
      clear hb HB HBa cBa fBa zBa HBi cBi fBi zBi
      have HB := HBn; clear HBn
      have HBa := Lib.hid hBa_; have cBa := cells4 hBa_; have fBa := frozen_of hBa_; have zBa := lt_of_heap hBa_; clear hBa_
      have HBi := Lib.hid hBi_; have cBi := cells4 hBi_; have fBi := frozen_of hBi_; have zBi := lt_of_heap hBi_; clear hBi_
      go_wp2
      refine Rg.region_ (n := 50) [0, 0, 3, 7, 15, 15, 63, 127, 15, 511, 1023, 2047] [1, 1, 1, 0, 1, 1, 1, 1, 0, 0, 0, 0] [39, 40, 41, 42, 43, 44, 45, 46, 47, 48, 49, 4] [[(7, none)], [], [(39, some 0), (40, some 1)], [(41, some 2)], [(2, none), (42, some 3)], [(7, none), (42, some 3)], [(43, some 4), (44, some 5), (42, some 3)], [(45, some 6), (42, some 3)], [(42, some 3)], [(46, some 7), (47, some 8), (42, some 3)], [(42, some 3), (48, some 9)], [(49, some 10)]] 12 (by kernel_rfl) (by kernel_rfl) (by rfl) ?_
      intro W hW
      have hBa_ : W.heap[w.heap.size]? = some (.cells #[.int .u64 a0, .int .u64 a1, .int .u64 a2, .int .u64 a3] 25 (0, 0)) := by rw [hW]; exact (by repeat (first | (with_reducible exact HBa.out) | (with_reducible exact set4 HBa.out _ _ _ _) | (with_reducible apply set4) | (with_reducible refine heap_new' ?_ _; simp; done) | (with_reducible refine keep4 ?_ (by omega) _ _ _ _) | (with_reducible refine heap_old ?_ _) | (with_reducible refine heap_drew ?_) | (with_reducible refine heap_set_ne ?_ (by simp <;> omega) _)))
      have hBi_ : W.heap[wd.heap.size]? = some (.cells #[.int .u64 r0, .int .u64 r1, .int .u64 r2, .int .u64 r3] 25 (0, 0)) := by rw [hW]; exact (by repeat (first | (with_reducible exact HBi.out) | (with_reducible exact set4 HBi.out _ _ _ _) | (with_reducible apply set4) | (with_reducible refine heap_new' ?_ _; simp; done) | (with_reducible refine keep4 ?_ (by omega) _ _ _ _) | (with_reducible refine heap_old ?_ _) | (with_reducible refine heap_drew ?_) | (with_reducible refine heap_set_ne ?_ (by simp <;> omega) _)))
      have HB0 : Below wr.heap.size wr W := by rw [hW]; have hB0 := HB.out; have hS0 := hB0.size; first | exact hB0.drew | exact (set4_below hB0 (by omega) _ _ _ _).drew | go_grown
      change Rg.Chain' _ _ _ _ _ [(0, 1, 39, [(7, none)]), (1, 1, 40, []), (2, 1, 41, [(39, some 0), (40, some 1)]), (3, 0, 42, [(41, some 2)]), (4, 1, 43, [(2, none), (42, some 3)]), (5, 1, 44, [(7, none), (42, some 3)]), (6, 1, 45, [(43, some 4), (44, some 5), (42, some 3)]), (7, 1, 46, [(45, some 6), (42, some 3)]), (8, 0, 47, [(42, some 3)]), (9, 0, 48, [(46, some 7), (47, some 8), (42, some 3)]), (10, 0, 49, [(42, some 3), (48, some 9)]), (11, 0, 4, [(49, some 10)])] [(0, 1, 39, [(7, none)]), (1, 1, 40, []), (2, 1, 41, [(39, some 0), (40, some 1)]), (3, 0, 42, [(41, some 2)]), (4, 1, 43, [(2, none), (42, some 3)]), (5, 1, 44, [(7, none), (42, some 3)]), (6, 1, 45, [(43, some 4), (44, some 5), (42, some 3)]), (7, 1, 46, [(45, some 6), (42, some 3)]), (8, 0, 47, [(42, some 3)]), (9, 0, 48, [(46, some 7), (47, some 8), (42, some 3)]), (10, 0, 49, [(42, some 3), (48, some 9)]), (11, 0, 4, [(49, some 10)])] _
      apply Rg.ch_def (by rfl) (fun a w1 _ => Rg.wanted_none (by rfl))
      · rintro a w1 hb ⟨e7, -⟩
        conv at e7 => rhs; whnf
        have n7 := e7
        simp only [Act.eval, Array.getD_eq_getD_getElem?] at n7
        apply Rg.gives_value
        · conv => lhs; simp [go_sem, n7, cells4 (heap_keep' hb hBa_), cells4 (heap_keep' hb hBi_)]
        · exact ⟨rfl, Below.refl _ _⟩
      apply Rg.ch_def (by rfl) (fun a w1 _ => Rg.wanted_none (by rfl))
      · rintro a w1 hb -
        apply Rg.gives_enter
        · exact run_call Try.func24 (by kernel_rfl) rfl #[] (by rfl) (by simp)
        · refine (HPr.out _).mono ?_
          rintro e w2 ⟨rfl, hb2⟩
          exact ⟨_, rfl, rfl, hb2⟩
      apply Rg.ch_def (by rfl) (fun a w1 _ => Rg.wanted_none (by rfl))
      · rintro a w1 hb ⟨e39, e40, -⟩
        replace e39 : a.eval (.tmp 39) = _ := e39
        replace e40 : a.eval (.tmp 40) = _ := e40
        apply Rg.gives_enter
        · apply run_call Try.func21 (by kernel_rfl) rfl _ (by rfl)
          conv => lhs; simp only [List.map_toArray, List.map_cons, List.map_nil, eval_const_, eval_global_, e39, e40]
        · refine (HL.out _).mono ?_
          rintro e w2 ⟨rfl, hb2⟩
          exact ⟨_, rfl, rfl, hb2⟩
      apply Rg.ch_pure (by rfl)
      · rintro a w1 ⟨e41, -⟩
        replace e41 : a.eval (.tmp 41) = _ := e41
        have n41 := e41
        simp only [Act.eval, Array.getD_eq_getD_getElem?] at n41
        apply Rg.yields_run (Rg.wanted_none (by rfl))
        intro w2
        conv => lhs; simp [go_sem, n41, E1]
      apply Rg.ch_def (by rfl) (fun a w1 h => by obtain ⟨-, e42, -⟩ := h; exact Rg.wanted_some (by rfl) (by rfl) e42)
      · rintro a w1 hb ⟨e2, e42, -⟩
        conv at e2 => rhs; whnf
        have n2 := e2
        simp only [Act.eval, Array.getD_eq_getD_getElem?] at n2
        replace e42 : a.eval (.tmp 42) = _ := e42
        have n42 := e42
        simp only [Act.eval, Array.getD_eq_getD_getElem?] at n42
        apply Rg.gives_value
        · conv => lhs; simp [go_sem, n2, n42, cells4 (heap_keep' hb hBa_), cells4 (heap_keep' hb hBi_)]
        · exact ⟨rfl, Below.refl _ _⟩
      apply Rg.ch_def (by rfl) (fun a w1 h => by obtain ⟨-, e42, -⟩ := h; exact Rg.wanted_some (by rfl) (by rfl) e42)
      · rintro a w1 hb ⟨e7, e42, -⟩
        conv at e7 => rhs; whnf
        have n7 := e7
        simp only [Act.eval, Array.getD_eq_getD_getElem?] at n7
        replace e42 : a.eval (.tmp 42) = _ := e42
        have n42 := e42
        simp only [Act.eval, Array.getD_eq_getD_getElem?] at n42
        apply Rg.gives_value
        · conv => lhs; simp [go_sem, n7, n42, cells4 (heap_keep' hb hBa_), cells4 (heap_keep' hb hBi_)]
        · exact ⟨rfl, Below.refl _ _⟩
      apply Rg.ch_rel (Rg.Row W.heap.size 25 2 _) (Rg.stable_row _ _ _ _) (by rfl) (fun a w1 h => by obtain ⟨-, -, e42, -⟩ := h; exact Rg.wanted_some (by rfl) (by rfl) e42)
      · rintro a w1 hb ⟨e43, e44, e42, -⟩
        replace e43 : a.eval (.tmp 43) = _ := e43
        have n43 := e43
        simp only [Act.eval, Array.getD_eq_getD_getElem?] at n43
        replace e44 : a.eval (.tmp 44) = _ := e44
        have n44 := e44
        simp only [Act.eval, Array.getD_eq_getD_getElem?] at n44
        replace e42 : a.eval (.tmp 42) = _ := e42
        have n42 := e42
        simp only [Act.eval, Array.getD_eq_getD_getElem?] at n42
        apply Rg.gives_value
        · conv => lhs; simp [go_sem, n43, n44, n42]
        · exact ⟨⟨_, rfl, hb.size, heap_new _ _⟩, (Below.refl _ _).alloc (Nat.le_refl _) _⟩
      apply Rg.ch_def (by rfl) (fun a w1 h => by obtain ⟨-, e42, -⟩ := h; exact Rg.wanted_some (by rfl) (by rfl) e42)
      · rintro a w1 hb ⟨e45, e42, -⟩
        obtain ⟨b45, e45, g45, h45⟩ : ∃ b, a.eval (.tmp 45) = .slice (some ⟨b, 0, none⟩) 2 2 ∧ _ ≤ b ∧ w1.heap[b]? = _ := e45
        replace e42 : a.eval (.tmp 42) = _ := e42
        apply Rg.gives_enter
        · apply run_call Try.func25 (by kernel_rfl) rfl _ (by rfl)
          conv => lhs; simp only [List.map_toArray, List.map_cons, List.map_nil, eval_const_, eval_global_, e45]
        · refine (HMu.out _ _ h45).mono ?_
          rintro e w2 ⟨rfl, hb2⟩
          exact ⟨_, rfl, rfl, hb2⟩
      apply Rg.ch_pure (by rfl)
      · rintro a w1 ⟨e42, -⟩
        replace e42 : a.eval (.tmp 42) = _ := e42
        have n42 := e42
        simp only [Act.eval, Array.getD_eq_getD_getElem?] at n42
        apply Rg.yields_run (Rg.wanted_some (by rfl) (by rfl) e42)
        intro w2
        conv => lhs; simp [go_sem, n42, E1]
      apply Rg.ch_pure (by rfl)
      · rintro a w1 ⟨e46, e47, e42, -⟩
        replace e46 : a.eval (.tmp 46) = _ := e46
        have n46 := e46
        simp only [Act.eval, Array.getD_eq_getD_getElem?] at n46
        replace e47 : a.eval (.tmp 47) = _ := e47
        have n47 := e47
        simp only [Act.eval, Array.getD_eq_getD_getElem?] at n47
        replace e42 : a.eval (.tmp 42) = _ := e42
        have n42 := e42
        simp only [Act.eval, Array.getD_eq_getD_getElem?] at n42
        apply Rg.yields_run (Rg.wanted_some (by rfl) (by rfl) e42)
        intro w2
        conv => lhs; simp [go_sem, n46, n47, n42, E1]
      apply Rg.ch_pure (by rfl)
      · rintro a w1 ⟨e42, e48, -⟩
        replace e42 : a.eval (.tmp 42) = _ := e42
        have n42 := e42
        simp only [Act.eval, Array.getD_eq_getD_getElem?] at n42
        replace e48 : a.eval (.tmp 48) = _ := e48
        have n48 := e48
        simp only [Act.eval, Array.getD_eq_getD_getElem?] at n48
        apply Rg.yields_run (Rg.wanted_none (by rfl))
        intro w2
        conv => lhs; simp [go_sem, n42, n48, E1]
      apply Rg.ch_pure (by rfl)
      · rintro a w1 ⟨e49, -⟩
        replace e49 : a.eval (.tmp 49) = _ := e49
        have n49 := e49
        simp only [Act.eval, Array.getD_eq_getD_getElem?] at n49
        apply Rg.yields_run (Rg.wanted_none (by rfl))
        intro w2
        conv => lhs; simp [go_sem, n49, E1]
      intro w1 hb1
      rintro _ rfl _ rfl _ rfl _ rfl _ rfl _ rfl v45 ⟨b45, rfl, ge45, hh45⟩ _ rfl _ rfl _ rfl _ rfl _ rfl
      change Go.wpList _ _ _ _ _ _
      set_option maxRecDepth 100000 in simp only [List.drop_succ_cons, List.drop_zero, List.drop_nil, Act.put, List.setIfInBounds_toArray, List.set_cons_succ, List.set_cons_zero]
      change Go.NoPanic _ _ _ _
      refine NoPanic.normal ?_
      have HBn : Hid (Below wr.heap.size wr w1) := Lib.hid (below_call HB0 HB0.size hb1)
      have hBa__ := heap_keep' hb1 hBa_
      have hBi__ := heap_keep' hb1 hBi_
      clear hb1 HB0 HB hBa_ HBa cBa fBa zBa hBi_ HBi cBi fBi zBi
      clear hW
      obtain ⟨wg, rfl⟩ : ∃ x : World, x = w1 := ⟨_, rfl⟩
      have HB := HBn; clear HBn
      have HBa := Lib.hid hBa__; have cBa := cells4 hBa__; have fBa := frozen_of hBa__; have zBa := lt_of_heap hBa__; clear hBa__
      have HBi := Lib.hid hBi__; have cBi := cells4 hBi__; have fBi := frozen_of hBi__; have zBi := lt_of_heap hBi__; clear hBi__
      have hBW := HBW.out
      have hBZ := HB.out
      go_wp2
      go_ret
      exact ⟨rfl, hBW.trans (hBZ.mono hBW.size)⟩
    · have hk : k < c := by have := HK.out; omega
      have hkw : wrap64 ((k : Int) + 1) = ((k + 1 : Nat) : Int) := by have := HC.out; have := HNN.out; unfold wrap64; omega
      have hkd : decide ((k : Int) < (c : Int)) = true := decide_eq_true (by omega)
      go_wp2_with (fail)
      go_at_call 29
      refine (HM.out k _ _ _ HWW.out HX.out).mono ?_
      rintro e wd ⟨⟨v, rfl, hv⟩, hb⟩
      have HV := Lib.hid hv; have HX2 := Lib.hid (HX.out.next hb)
      have HB2 := Lib.hid (below_call HB.out HB.out.size hb)
      have HA2 := Lib.hid (heap_keep' hb HA.out)
      clear hv hb HX HB HA HWW
      go_wp2
      go_roundg kq
      case measure => exact Nat.lt_succ_self kq
      case rel => exact ⟨k + 1, by first | rfl | (rw [hkw]) | simp, (by have := HK.out; omega : kq + (k + 1) = c), HV.out, HX2.out, HB2.out, HA2.out⟩

theorem dg_len0 {x : Nat} : (((dg x).length : Int) == 0) = decide (x = 0) := by
  by_cases h : x = 0
  · subst h
    rw [Dg.dg_zero]
    rfl
  · rw [decide_eq_false h, Dg.dg_pos h, List.length_cons, beq_eq_false_iff_ne]
    omega
theorem powers_fact (a0 a1 a2 a3 n : Nat) (ha : W4 a0 a1 a2 a3) (hn : n < 256) (w : World) : Calls Try.prog 8 #[.agg #[.int .u64 a0, .int .u64 a1, .int .u64 a2, .int .u64 a3], .int .u8 n] w fun e w' => e = .returned (.bool true) ∧ Below w.heap.size w w' := by
  obtain ⟨X, hX⟩ : ∃ X, V a0 a1 a2 a3 % pP = X := ⟨_, rfl⟩
  have hXl : X < pP := by rw [← hX]; exact Nat.mod_lt _ pP_pos
  have HF := Fold_fact (V a0 a1 a2 a3) (Nat.lt_of_lt_of_le (Pl.V_lt ha) (by unfold b40; decide +kernel))
  rw [hX] at HF
  have HM : ∀ (k : Nat) (sa sb : Value) (w : World), RdI w.heap.size w sa (dg (X ^ k % pP)) → RdI w.heap.size w sb (dg X) → Calls Try.prog 29 #[sa, sb] w fun e w' => (∃ v, e = .returned v ∧ RdI w'.heap.size w' v (dg (X ^ (k + 1) % pP))) ∧ Below w.heap.size w w' := fun k sa sb w h1 h2 => by
    have := RMul_fact (X ^ k % pP) X (Nat.mod_lt _ pP_pos) hXl sa sb w h1 h2
    rw [Nat.mod_mul_mod, ← Nat.pow_succ] at this
    exact this
  obtain ⟨r0, r1, r2, r3, ⟨hr, hrv⟩, FI⟩ := Inverse_fact a0 a1 a2 a3 ha
  have hc : n % 40 < 18446744073709551616 := by omega
  obtain ⟨q0, q1, q2, q3, ⟨hq, hqv⟩, FP⟩ := Power_fact a0 a1 a2 a3 (n % 40) 0 0 0 ha (W4_one hc)
  have HIs := is_true q0 q1 q2 q3 hq (X ^ (n % 40) % pP) (by rw [hqv, V_one, Nat.pow_mod, hX])
  by_cases h0 : X = 0
  · obtain ⟨z, hz, FZ⟩ := zero_fact r0 r1 r2 r3
    obtain rfl : z = true := hz.2 (by rw [hrv]; exact Pl.pow_zero_mod (by rw [hX, h0]) (by decide +kernel))
    exact pw_zero a0 a1 a2 a3 r0 r1 r2 r3 q0 q1 q2 q3 (n % 40) n X _ (dg X) w awake_fact (Ref_fact a0 a1 a2 a3 ha) HF HM FI FP HIs FZ hn rfl rfl (by rw [dg_len0, decide_eq_true h0])
  · obtain ⟨p0, p1, p2, p3, ⟨hp, hpv⟩, FPr⟩ := prime_fact
    obtain ⟨z, hz, FL⟩ := less_fact r0 r1 r2 r3 p0 p1 p2 p3 hr hp
    obtain rfl : z = true := hz.2 (by rw [hrv, hpv]; exact Nat.mod_lt _ pP_pos)
    obtain ⟨m0, m1, m2, m3, ⟨hm, hmv⟩, FM⟩ := Mul2_fact a0 a1 a2 a3 r0 r1 r2 r3 ha hr
    have E1 : eqL [(m0 : Int), m1, m2, m3] [1, 0, 0, 0] = true := (eqL_V hm (W4_one (by omega) : W4 1 0 0 0)).2 (by
      have e2 : (pP - 2).succ = pP - 1 := by decide +kernel
      rw [hmv, V_one, hrv, Nat.mul_mod_mod, Nat.mul_comm, ← Nat.pow_succ, e2]
      exact Pl.fermat (by rw [hX]; exact h0))
    exact pw_other a0 a1 a2 a3 r0 r1 r2 r3 q0 q1 q2 q3 p0 p1 p2 p3 m0 m1 m2 m3 (n % 40) n X _ (dg X) w awake_fact (Ref_fact a0 a1 a2 a3 ha) HF HM FI FP HIs FPr FL FM hn rfl rfl E1 (by rw [dg_len0, decide_eq_false h0])

theorem powers_int (a0 a1 a2 a3 : Nat) (n : Int) (ha : W4 a0 a1 a2 a3) (wn : (Lit.int .u8 n).wf = true) (w : World) : Calls Try.prog 8 #[.agg #[.int .u64 a0, .int .u64 a1, .int .u64 a2, .int .u64 a3], .int .u8 n] w fun e w' => e = .returned (.bool true) ∧ Below w.heap.size w w' := by
  have hn := bounds_u8 wn
  obtain ⟨i, rfl⟩ : ∃ i : Nat, n = i := ⟨n.toNat, by omega⟩
  exact powers_fact a0 a1 a2 a3 i ha (by omega) w

end Go.Proofs.Ytldnjbpcdojffaa
