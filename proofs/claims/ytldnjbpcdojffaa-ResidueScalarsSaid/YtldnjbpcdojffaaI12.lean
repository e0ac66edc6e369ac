/- @@NUM 25 The walks of the document's Minus and Order on digits. Conditions: rows of at most 1000 digits; no more is taken than there is. -/
import Derived.Test.YtldnjbpcdojffaaI11
namespace Go.Proofs.Ytldnjbpcdojffaa
set_option linter.unusedVariables false
set_option linter.unusedSimpArgs false
open Go Go.RowKit
open Dg (nv dg Ok Cn)

def MinusI (us vs : List Int) (S : Int) (i : Nat) (ds : List Int) (c : Int) : Prop := ds.length = i ∧ Ok ds ∧ 0 ≤ c ∧ c ≤ 1 ∧ nv ds + 65536 ^ i * (nv (us.drop i) - c - nv (vs.drop i)) = S
theorem MinusI.step {us vs : List Int} {S : Int} {i : Nat} {ds : List Int} {c T c2 : Int} (h : MinusI us vs S i ds c) (t0 : 0 ≤ T) (t1 : T < 65536) (c0 : 0 ≤ c2) (c1 : c2 ≤ 1) (he : T - 65536 * c2 + 65536 * nv (us.drop (i + 1)) - 65536 * nv (vs.drop (i + 1)) = nv (us.drop i) - c - nv (vs.drop i)) : MinusI us vs S (i + 1) (ds ++ [T]) c2 := by
  obtain ⟨h1, h2, h3, h4, h5⟩ := h
  refine ⟨by rw [List.length_append, h1]; rfl, h2.append (Dg.Ok.one ⟨t0, t1⟩), c0, c1, ?_⟩
  rw [Dg.nv_snoc, h1, Int.pow_succ, ← h5, ← he]
  generalize nv (us.drop (i + 1)) = A
  generalize nv (vs.drop (i + 1)) = B
  generalize (65536 : Int) ^ i = P
  grind
theorem MinusI.done {us vs : List Int} {S : Int} {i : Nat} {ds : List Int} {c : Int} (h : MinusI us vs S i ds c) (hb : Ok vs) (ha : us.length ≤ i) (hS : 0 ≤ S) : nv ds = S := by
  obtain ⟨h1, h2, h3, h4, h5⟩ := h
  rw [drop_none ha] at h5
  have hbn := Dg.nv_nonneg (hb.drop i)
  have hol := Dg.nv_lt h2
  rw [h1] at hol
  have hz : c + nv (vs.drop i) = 0 := by
    apply Classical.byContradiction
    intro hne
    have h6 : (65536 : Int) ^ i * 1 ≤ 65536 ^ i * (c + nv (vs.drop i)) := Int.mul_le_mul_of_nonneg_left (by omega) (Int.le_of_lt (Int.pow_pos (by decide)))
    have h7 : (65536 : Int) ^ i * (0 - c - nv (vs.drop i)) = - (65536 ^ i * (c + nv (vs.drop i))) := by grind
    omega
  have h8 : (0 : Int) - c - nv (vs.drop i) = 0 := by omega
  rw [h8, Int.mul_zero, Int.add_zero] at h5
  exact h5

set_option maxHeartbeats 16000000 in
theorem Minus_fact (us vs : List Int) (ha : Ok us) (hb : Ok vs) (hla : us.length ≤ 1000) (hge : nv vs ≤ nv us) (sa sb : Value) (w : World) (hA : RdI w.heap.size w sa us) (hB : RdI w.heap.size w sb vs) :
    Calls Try.prog 49 #[sa, sb] w fun e w' => (∃ v, e = .returned v ∧ RdI w'.heap.size w' v (dg (nv us - nv vs).toNat)) ∧ Below w.heap.size w w' := by
  obtain ⟨i0, hi, hz0, hz1, hz2⟩ := info_parts info_i64
  obtain ⟨S, hS⟩ : ∃ S, nv us - nv vs = S := ⟨_, rfl⟩
  have HA := Lib.hid hA; have HBB := Lib.hid hB; have HOA := Lib.hid ha; have HOB := Lib.hid hb
  have HST : Hid (MinusI us vs S 0 [] 0) := ⟨rfl, Dg.Ok.nil, by omega, by omega, by simp [nv, hS]⟩
  have HS0 : Hid (0 ≤ S) := by show 0 ≤ S; omega
  rw [hS]
  clear hA hB ha hb hS hge
  obtain ⟨x1, c1, rfl⟩ := HA.out.some
  obtain ⟨x2, c2, rfl⟩ := HBB.out.some
  go_enter Try.func49, Try.ntmps49
  go_wp2
  go_loopg [5, 6, 11] us.length (fun kq v5 v6 v7 wr => ∃ (i : Nat) (ds : List Int) (c : Int), v6 = .int .i64 c ∧ v7 = .int .i64 i ∧ Hid (kq + i = us.length) ∧ Hid (MinusI us vs S i ds c) ∧ Hid (wr.ownsRow w.heap.size 3 1 v5 i (i64s ds)) ∧ Hid (Below w.heap.size w wr))
  case atStart => exact ⟨0, [], 0, rfl, rfl, rfl, HST.out, World.ownsRow_nil _ _ _ _, Below.refl _ _⟩
  case round =>
    obtain ⟨i, ds, c, rfl, rfl, HK, HI, HR, HB⟩ := hrel
    have hown := HR.out
    have hb := HB.out
    have hlt := hown.lt
    have c0 := HI.out.2.2.1; have c1_ := HI.out.2.2.2.1
    rcases gk with _ | kq
    · have hdl : ds.length = i := HI.out.1
      obtain rfl : i = us.length := by have := HK.out; omega
      have hrd : RdI wr.heap.size wr u5 ds := by
        refine rdi_owned (n := w.heap.size) ?_
        rw [hdl]; exact hown
      obtain ⟨y1, k1, e1⟩ := hrd.some
      subst e1
      have HRD := Lib.hid hrd
      have T := Lib.hid (Trim_fact ds HI.out.2.1 (by omega))
      rw [HI.out.done HOB.out (by omega) HS0.out] at T
      clear hrd hown hlt hdl
      go_wp2_with (fail)
      go_at_call 44
      refine (T.out _ _ HRD.out).mono ?_
      rintro e wa ⟨⟨v, rfl, hv⟩, hb1⟩
      have HV := Lib.hid hv
      have HBX := Lib.hid (below_call HB.out HB.out.size hb1)
      clear hv hb1
      go_wp2
      go_ret
      exact ⟨⟨_, rfl, HV.out⟩, HBX.out⟩
    · have ia : i < us.length := by have := HK.out; omega
      have hia : (i : Int) < (us.length : Int) := by omega
      have cellA : ∃ y, x1 = some y ∧ wr.cell? (y.add i) = some (.int .i64 us[i]) := by
        rcases HA.out with ⟨e, h0⟩ | ⟨y, cap, e, _, hyb, hcs⟩
        · rw [h0] at ia; simp at ia
        · injection e with e1 e2 e3
          exact ⟨y, e1, (hb.cell (p := y.add i) (by rw [add_block]; exact hyb)).trans (ints_at hcs ia)⟩
      obtain ⟨y1, rfl, cy1⟩ := cellA
      have oa := HOA.out.at ia
      have da := Lib.hid (Dg.nv_drop ia)
      obtain ⟨a, hae⟩ : ∃ a, us[i] = a := ⟨_, rfl⟩
      rw [hae] at cy1 oa da
      clear hae
      have hw1 : wrap64 (a - c) = a - c := Dg.wrap_ok (by omega) (by omega)
      by_cases ib : i < vs.length
      · have hib : (i : Int) < (vs.length : Int) := by omega
        have cellB : ∃ y, x2 = some y ∧ wr.cell? (y.add i) = some (.int .i64 vs[i]) := by
          rcases HBB.out with ⟨e, h0⟩ | ⟨y, cap, e, _, hyb, hcs⟩
          · rw [h0] at ib; simp at ib
          · injection e with e1 e2 e3
            exact ⟨y, e1, (hb.cell (p := y.add i) (by rw [add_block]; exact hyb)).trans (ints_at hcs ib)⟩
        obtain ⟨y2, rfl, cy2⟩ := cellB
        have ob := HOB.out.at ib
        have db := Lib.hid (Dg.nv_drop ib)
        obtain ⟨b, hbe⟩ : ∃ b, vs[i] = b := ⟨_, rfl⟩
        rw [hbe] at cy2 ob db
        clear hbe
        have hw2 : wrap64 (a - c - b) = a - c - b := Dg.wrap_ok (by omega) (by omega)
        by_cases hneg : a - c - b < 0
        · have hs : a - c - b < 0 := hneg
          have hw3 : wrap64 (a - c - b + 65536) = a - c - b + 65536 := Dg.wrap_ok (by omega) (by omega)
          have HN := Lib.hid (HI.out.step (T := a - c - b + 65536) (c2 := 1) (by omega) (by omega) (by omega) (by omega) (by have := da.out; have := db.out; omega))
          obtain ⟨m, hm⟩ : ∃ m, a - c - b + 65536 = m := ⟨_, rfl⟩
          rw [hm] at HN
          have HM := Lib.hid hm
          clear hneg
          rw [hm] at hw3
          go_wp2_with (at_builtin; refine wpList_append_own _ rfl _ _ 31 rfl w.heap.size 3 i0 (.int .i64 0) 1 8 Try.underlying31 hi hz0 hz1 hz2 rfl (by decide) _ _ _ rfl (hown.alloc _) ⟨wr.heap.size, 0, none⟩ 1 1 [.int .i64 m] rfl rfl (cell_one_new _ _ _) (fun x hx => by simp at hx; subst hx; rfl) (by unfold maxLen; omega) (by omega) (by have := hb.size; simp; omega) ?_; intro v' w1 hown' hgrow hnil)
          go_roundg kq
          case measure => exact Nat.lt_succ_self kq
          case rel =>
            exact ⟨i + 1, ds ++ [m], 1, rfl, by simp, (by have := HK.out; omega : kq + (i + 1) = us.length), HN.out, (by rw [i64s_append]; exact hown' : World.ownsRow _ _ _ _ _ (i + 1) (i64s (ds ++ [m]))), (hb.alloc hb.size _).grown hgrow (by have := hb.size; simp; omega) (fun j e => (hlt _ e).1)⟩
        · have hs : ¬ a - c - b < 0 := hneg
          have HN := Lib.hid (HI.out.step (T := a - c - b) (c2 := 0) (by omega) (by omega) (by omega) (by omega) (by have := da.out; have := db.out; omega))
          obtain ⟨m, hm⟩ : ∃ m, a - c - b = m := ⟨_, rfl⟩
          rw [hm] at HN
          have HM := Lib.hid hm
          clear hneg
          rw [hm] at hs hw2
          go_wp2_with (at_builtin; refine wpList_append_own _ rfl _ _ 31 rfl w.heap.size 3 i0 (.int .i64 0) 1 8 Try.underlying31 hi hz0 hz1 hz2 rfl (by decide) _ _ _ rfl (hown.alloc _) ⟨wr.heap.size, 0, none⟩ 1 1 [.int .i64 m] rfl rfl (cell_one_new _ _ _) (fun x hx => by simp at hx; subst hx; rfl) (by unfold maxLen; omega) (by omega) (by have := hb.size; simp; omega) ?_; intro v' w1 hown' hgrow hnil)
          go_roundg kq
          case measure => exact Nat.lt_succ_self kq
          case rel =>
            exact ⟨i + 1, ds ++ [m], 0, rfl, by simp, (by have := HK.out; omega : kq + (i + 1) = us.length), HN.out, (by rw [i64s_append]; exact hown' : World.ownsRow _ _ _ _ _ (i + 1) (i64s (ds ++ [m]))), (hb.alloc hb.size _).grown hgrow (by have := hb.size; simp; omega) (fun j e => (hlt _ e).1)⟩
      · have hib : ¬ (i : Int) < (vs.length : Int) := by omega
        have db : Hid (nv (vs.drop i) = 0 ∧ nv (vs.drop (i + 1)) = 0) := ⟨drop_none (by omega), drop_none (by omega)⟩
        by_cases hneg : a - c < 0
        · have hs : a - c < 0 := hneg
          have hw3 : wrap64 (a - c + 65536) = a - c + 65536 := Dg.wrap_ok (by omega) (by omega)
          have HN := Lib.hid (HI.out.step (T := a - c + 65536) (c2 := 1) (by omega) (by omega) (by omega) (by omega) (by have := da.out; have := db.out; omega))
          obtain ⟨m, hm⟩ : ∃ m, a - c + 65536 = m := ⟨_, rfl⟩
          rw [hm] at HN
          have HM := Lib.hid hm
          clear hneg
          rw [hm] at hw3
          go_wp2_with (at_builtin; refine wpList_append_own _ rfl _ _ 31 rfl w.heap.size 3 i0 (.int .i64 0) 1 8 Try.underlying31 hi hz0 hz1 hz2 rfl (by decide) _ _ _ rfl (hown.alloc _) ⟨wr.heap.size, 0, none⟩ 1 1 [.int .i64 m] rfl rfl (cell_one_new _ _ _) (fun x hx => by simp at hx; subst hx; rfl) (by unfold maxLen; omega) (by omega) (by have := hb.size; simp; omega) ?_; intro v' w1 hown' hgrow hnil)
          go_roundg kq
          case measure => exact Nat.lt_succ_self kq
          case rel =>
            exact ⟨i + 1, ds ++ [m], 1, rfl, by simp, (by have := HK.out; omega : kq + (i + 1) = us.length), HN.out, (by rw [i64s_append]; exact hown' : World.ownsRow _ _ _ _ _ (i + 1) (i64s (ds ++ [m]))), (hb.alloc hb.size _).grown hgrow (by have := hb.size; simp; omega) (fun j e => (hlt _ e).1)⟩
        · have hs : ¬ a - c < 0 := hneg
          have HN := Lib.hid (HI.out.step (T := a - c) (c2 := 0) (by omega) (by omega) (by omega) (by omega) (by have := da.out; have := db.out; omega))
          obtain ⟨m, hm⟩ : ∃ m, a - c = m := ⟨_, rfl⟩
          rw [hm] at HN
          have HM := Lib.hid hm
          clear hneg
          rw [hm] at hs hw1
          go_wp2_with (at_builtin; refine wpList_append_own _ rfl _ _ 31 rfl w.heap.size 3 i0 (.int .i64 0) 1 8 Try.underlying31 hi hz0 hz1 hz2 rfl (by decide) _ _ _ rfl (hown.alloc _) ⟨wr.heap.size, 0, none⟩ 1 1 [.int .i64 m] rfl rfl (cell_one_new _ _ _) (fun x hx => by simp at hx; subst hx; rfl) (by unfold maxLen; omega) (by omega) (by have := hb.size; simp; omega) ?_; intro v' w1 hown' hgrow hnil)
          go_roundg kq
          case measure => exact Nat.lt_succ_self kq
          case rel =>
            exact ⟨i + 1, ds ++ [m], 0, rfl, by simp, (by have := HK.out; omega : kq + (i + 1) = us.length), HN.out, (by rw [i64s_append]; exact hown' : World.ownsRow _ _ _ _ _ (i + 1) (i64s (ds ++ [m]))), (hb.alloc hb.size _).grown hgrow (by have := hb.size; simp; omega) (fun j e => (hlt _ e).1)⟩

def orderD : List Int := [54253, 23797, 25370, 22546, 40150, 41719, 63966, 5342, 0, 0, 0, 0, 0, 0, 0, 4096]
theorem orderD_ok : Ok orderD := by unfold Dg.Ok; decide
theorem orderD_v : nv orderD = (Pl.pL : Int) := by decide +kernel
set_option maxHeartbeats 2000000 in
theorem ROrder_fact (w : World) : Calls Try.prog 33 #[] w fun e w' => (∃ v, e = .returned v ∧ RdI w'.heap.size w' v orderD) ∧ Below w.heap.size w w' := by
  go_enter Try.func33, Try.ntmps33
  go_wp2
  go_ret
  refine ⟨⟨_, rfl, ?_⟩, by go_grown⟩
  refine rdi_owned (n := w.heap.size) ⟨rfl, .inr ⟨w.heap.size, 16, _, rfl, Nat.le_refl _, heap_new _ _, by decide, by unfold maxLen; omega, by decide, rfl⟩⟩

end Go.Proofs.Ytldnjbpcdojffaa
