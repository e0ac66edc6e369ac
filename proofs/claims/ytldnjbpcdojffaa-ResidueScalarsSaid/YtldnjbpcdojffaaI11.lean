/- @@NUM 25 The walk of the document's Plus on digits. Conditions: rows of at most 1000 digits. -/
import Derived.Test.YtldnjbpcdojffaaI3
namespace Go.Proofs.Ytldnjbpcdojffaa
set_option linter.unusedVariables false
set_option linter.unusedSimpArgs false
open Go Go.RowKit
open Dg (nv dg Ok Cn)

/-- What holds when i digits of the sum stand. -/
def PlusI (us vs : List Int) (S : Int) (i : Nat) (ds : List Int) (c : Int) : Prop := ds.length = i ∧ Ok ds ∧ 0 ≤ c ∧ c ≤ 1 ∧ nv ds + 65536 ^ i * (c + nv (us.drop i) + nv (vs.drop i)) = S
theorem PlusI.step {us vs : List Int} {S : Int} {i : Nat} {ds : List Int} {c T : Int} (h : PlusI us vs S i ds c) (t0 : 0 ≤ T) (t1 : T ≤ 131071) (he : T + 65536 * nv (us.drop (i + 1)) + 65536 * nv (vs.drop (i + 1)) = c + nv (us.drop i) + nv (vs.drop i)) : PlusI us vs S (i + 1) (ds ++ [T % 65536]) (T / 65536) := by
  obtain ⟨h1, h2, h3, h4, h5⟩ := h
  refine ⟨by rw [List.length_append, h1]; rfl, h2.append (Dg.Ok.one (by omega)), by omega, by omega, ?_⟩
  rw [Dg.nv_snoc, h1, Int.pow_succ, ← h5, ← he]
  generalize nv (us.drop (i + 1)) = A
  generalize nv (vs.drop (i + 1)) = B
  have e3 : T = T % 65536 + 65536 * (T / 65536) := by omega
  generalize T % 65536 = u at *
  generalize T / 65536 = v at *
  subst e3
  generalize (65536 : Int) ^ i = P
  grind
theorem drop_none {us : List Int} {i : Nat} (h : us.length ≤ i) : nv (us.drop i) = 0 := by rw [List.drop_eq_nil_of_le h]; rfl
theorem PlusI.done {us vs : List Int} {S : Int} {i : Nat} {ds : List Int} (h : PlusI us vs S i ds 0) (ha : us.length ≤ i) (hb : vs.length ≤ i) : nv ds = S := by
  have := h.2.2.2.2
  rw [drop_none ha, drop_none hb] at this
  simpa using this

set_option maxHeartbeats 16000000 in
theorem Plus_fact (us vs : List Int) (ha : Ok us) (hb : Ok vs) (hla : us.length ≤ 1000) (hlb : vs.length ≤ 1000) (sa sb : Value) (w : World) (hA : RdI w.heap.size w sa us) (hB : RdI w.heap.size w sb vs) :
    Calls Try.prog 40 #[sa, sb] w fun e w' => (∃ v, e = .returned v ∧ RdI w'.heap.size w' v (dg (nv us + nv vs).toNat)) ∧ Below w.heap.size w w' := by
  obtain ⟨i0, hi, hz0, hz1, hz2⟩ := info_parts info_i64
  obtain ⟨n, hn⟩ : ∃ n, max us.length vs.length = n := ⟨_, rfl⟩
  obtain ⟨S, hS⟩ : ∃ S, nv us + nv vs = S := ⟨_, rfl⟩
  have hn1 : us.length ≤ n := by omega
  have hn2 : vs.length ≤ n := by omega
  have hn3 : n ≤ 1000 := by omega
  have HA := Lib.hid hA; have HBB := Lib.hid hB; have HOA := Lib.hid ha; have HOB := Lib.hid hb
  have HST : Hid (PlusI us vs S 0 [] 0) := ⟨rfl, Dg.Ok.nil, by omega, by omega, by simp [nv, hS]⟩
  rw [hS]
  clear hA hB ha hb hn hS hla hlb
  obtain ⟨x1, c1, rfl⟩ := HA.out.some
  obtain ⟨x2, c2, rfl⟩ := HBB.out.some
  go_enter Try.func40, Try.ntmps40
  go_wp2
  go_loopg [5, 6, 7] (n + 1) (fun kq v5 v6 v7 wr => ∃ (i : Nat) (ds : List Int) (c : Int), v6 = .int .i64 c ∧ v7 = .int .i64 i ∧ Hid (kq + i = n + 1 ∧ (kq = 0 → c = 0)) ∧ Hid (PlusI us vs S i ds c) ∧ Hid (wr.ownsRow w.heap.size 3 1 v5 i (i64s ds)) ∧ Hid (Below w.heap.size w wr))
  case atStart => exact ⟨0, [], 0, rfl, rfl, ⟨rfl, fun h => by omega⟩, HST.out, World.ownsRow_nil _ _ _ _, Below.refl _ _⟩
  case round =>
    obtain ⟨i, ds, c, rfl, rfl, HK, HI, HR, HB⟩ := hrel
    have hi1 : i ≤ 1001 := by have := HK.out.1; omega
    have hown := HR.out
    have hb := HB.out
    have hlt := hown.lt
    have c0 := HI.out.2.2.1; have c1_ := HI.out.2.2.2.1
    have cellA : ∀ (h : i < us.length), ∃ y, x1 = some y ∧ wr.cell? (y.add i) = some (.int .i64 us[i]) := fun h => by
      rcases HA.out with ⟨e, h0⟩ | ⟨y, cap, e, _, hyb, hcs⟩
      · rw [h0] at h; simp at h
      · injection e with e1 e2 e3
        exact ⟨y, e1, (hb.cell (p := y.add i) (by rw [add_block]; exact hyb)).trans (ints_at hcs h)⟩
    have cellB : ∀ (h : i < vs.length), ∃ y, x2 = some y ∧ wr.cell? (y.add i) = some (.int .i64 vs[i]) := fun h => by
      rcases HBB.out with ⟨e, h0⟩ | ⟨y, cap, e, _, hyb, hcs⟩
      · rw [h0] at h; simp at h
      · injection e with e1 e2 e3
        exact ⟨y, e1, (hb.cell (p := y.add i) (by rw [add_block]; exact hyb)).trans (ints_at hcs h)⟩
    have CA := Lib.hid cellA; have CB := Lib.hid cellB
    clear cellA cellB
    by_cases ia : i < us.length
    · obtain ⟨kq, rfl⟩ : ∃ kq, gk = kq + 1 := ⟨gk - 1, by have := HK.out; omega⟩
      by_cases ib : i < vs.length
      · obtain ⟨y1, rfl, cy1⟩ := CA.out ia
        have oa := HOA.out.at ia
        have hia : (i : Int) < (us.length : Int) := by omega
        obtain ⟨y2, rfl, cy2⟩ := CB.out ib
        have ob := HOB.out.at ib
        have hib : (i : Int) < (vs.length : Int) := by omega
        have HN := Lib.hid (HI.out.step (T := c + us[i] + vs[i]) (by omega) (by omega) (by have := Dg.nv_drop ia; have := Dg.nv_drop ib; omega))
        obtain ⟨a, hae⟩ : ∃ a, us[i] = a := ⟨_, rfl⟩
        rw [hae] at cy1 oa HN
        clear hae
        obtain ⟨b, hbe⟩ : ∃ b, vs[i] = b := ⟨_, rfl⟩
        rw [hbe] at cy2 ob HN
        clear hbe
        have hw1 : wrap64 (c + a) = c + a := Dg.wrap_ok (by omega) (by omega)
        have hw2 : wrap64 (c + a + b) = c + a + b := Dg.wrap_ok (by omega) (by omega)
        obtain ⟨m, hm⟩ : ∃ m, (c + a + b) % 65536 = m := ⟨_, rfl⟩
        obtain ⟨q, hq⟩ : ∃ q, (c + a + b) / 65536 = q := ⟨_, rfl⟩
        have hm1 : (c + a + b).tmod 65536 = m := by rw [Int.tmod_eq_emod_of_nonneg (by omega)]; exact hm
        have hq1 : (c + a + b).tdiv 65536 = q := by rw [Int.tdiv_eq_ediv_of_nonneg (by omega)]; exact hq
        rw [hm, hq] at HN
        have hqw : wrap64 q = q := Dg.wrap_ok (by omega) (by omega)
        have hq0 := HN.out.2.2.1; have hq2 := HN.out.2.2.2.1
        have HQ : Hid (i = n → q = 0) := fun e => by omega
        clear hm hq
        go_wp2_with (at_builtin; refine wpList_append_own _ rfl _ _ 31 rfl w.heap.size 3 i0 (.int .i64 0) 1 8 Try.underlying31 hi hz0 hz1 hz2 rfl (by decide) _ _ _ rfl (hown.alloc _) ⟨wr.heap.size, 0, none⟩ 1 1 [.int .i64 m] rfl rfl (cell_one_new _ _ _) (fun x hx => by simp at hx; subst hx; rfl) (by unfold maxLen; omega) (by omega) (by have := hb.size; simp; omega) ?_; intro v' w1 hown' hgrow hnil)
        go_roundg kq
        case measure => exact Nat.lt_succ_self kq
        case rel =>
          exact ⟨i + 1, ds ++ [m], q, by simp, by simp, ⟨by have := HK.out.1; omega, fun h => HQ.out (by have := HK.out.1; omega)⟩, HN.out, (by rw [i64s_append]; exact hown' : World.ownsRow _ _ _ _ _ (i + 1) (i64s (ds ++ [m]))), (hb.alloc hb.size _).grown hgrow (by have := hb.size; simp; omega) (fun j e => (hlt _ e).1)⟩
      · obtain ⟨y1, rfl, cy1⟩ := CA.out ia
        have oa := HOA.out.at ia
        have hia : (i : Int) < (us.length : Int) := by omega
        have hib : ¬ (i : Int) < (vs.length : Int) := by omega
        have HN := Lib.hid (HI.out.step (T := c + us[i]) (by omega) (by omega) (by have := Dg.nv_drop ia; have := drop_none (us := vs) (i := i) (by omega); have := drop_none (us := vs) (i := i + 1) (by omega); omega))
        obtain ⟨a, hae⟩ : ∃ a, us[i] = a := ⟨_, rfl⟩
        rw [hae] at cy1 oa HN
        clear hae
        have hw1 : wrap64 (c + a) = c + a := Dg.wrap_ok (by omega) (by omega)
        obtain ⟨m, hm⟩ : ∃ m, (c + a) % 65536 = m := ⟨_, rfl⟩
        obtain ⟨q, hq⟩ : ∃ q, (c + a) / 65536 = q := ⟨_, rfl⟩
        have hm1 : (c + a).tmod 65536 = m := by rw [Int.tmod_eq_emod_of_nonneg (by omega)]; exact hm
        have hq1 : (c + a).tdiv 65536 = q := by rw [Int.tdiv_eq_ediv_of_nonneg (by omega)]; exact hq
        rw [hm, hq] at HN
        have hqw : wrap64 q = q := Dg.wrap_ok (by omega) (by omega)
        have hq0 := HN.out.2.2.1; have hq2 := HN.out.2.2.2.1
        have HQ : Hid (i = n → q = 0) := fun e => by omega
        clear hm hq
        go_wp2_with (at_builtin; refine wpList_append_own _ rfl _ _ 31 rfl w.heap.size 3 i0 (.int .i64 0) 1 8 Try.underlying31 hi hz0 hz1 hz2 rfl (by decide) _ _ _ rfl (hown.alloc _) ⟨wr.heap.size, 0, none⟩ 1 1 [.int .i64 m] rfl rfl (cell_one_new _ _ _) (fun x hx => by simp at hx; subst hx; rfl) (by unfold maxLen; omega) (by omega) (by have := hb.size; simp; omega) ?_; intro v' w1 hown' hgrow hnil)
        go_roundg kq
        case measure => exact Nat.lt_succ_self kq
        case rel =>
          exact ⟨i + 1, ds ++ [m], q, by simp, by simp, ⟨by have := HK.out.1; omega, fun h => HQ.out (by have := HK.out.1; omega)⟩, HN.out, (by rw [i64s_append]; exact hown' : World.ownsRow _ _ _ _ _ (i + 1) (i64s (ds ++ [m]))), (hb.alloc hb.size _).grown hgrow (by have := hb.size; simp; omega) (fun j e => (hlt _ e).1)⟩
    · by_cases ib : i < vs.length
      · obtain ⟨kq, rfl⟩ : ∃ kq, gk = kq + 1 := ⟨gk - 1, by have := HK.out; omega⟩
        have hia : ¬ (i : Int) < (us.length : Int) := by omega
        obtain ⟨y2, rfl, cy2⟩ := CB.out ib
        have ob := HOB.out.at ib
        have hib : (i : Int) < (vs.length : Int) := by omega
        have HN := Lib.hid (HI.out.step (T := c + vs[i]) (by omega) (by omega) (by have := drop_none (us := us) (i := i) (by omega); have := drop_none (us := us) (i := i + 1) (by omega); have := Dg.nv_drop ib; omega))
        obtain ⟨b, hbe⟩ : ∃ b, vs[i] = b := ⟨_, rfl⟩
        rw [hbe] at cy2 ob HN
        clear hbe
        have hw2 : wrap64 (c + b) = c + b := Dg.wrap_ok (by omega) (by omega)
        obtain ⟨m, hm⟩ : ∃ m, (c + b) % 65536 = m := ⟨_, rfl⟩
        obtain ⟨q, hq⟩ : ∃ q, (c + b) / 65536 = q := ⟨_, rfl⟩
        have hm1 : (c + b).tmod 65536 = m := by rw [Int.tmod_eq_emod_of_nonneg (by omega)]; exact hm
        have hq1 : (c + b).tdiv 65536 = q := by rw [Int.tdiv_eq_ediv_of_nonneg (by omega)]; exact hq
        rw [hm, hq] at HN
        have hqw : wrap64 q = q := Dg.wrap_ok (by omega) (by omega)
        have hq0 := HN.out.2.2.1; have hq2 := HN.out.2.2.2.1
        have HQ : Hid (i = n → q = 0) := fun e => by omega
        clear hm hq
        go_wp2_with (at_builtin; refine wpList_append_own _ rfl _ _ 31 rfl w.heap.size 3 i0 (.int .i64 0) 1 8 Try.underlying31 hi hz0 hz1 hz2 rfl (by decide) _ _ _ rfl (hown.alloc _) ⟨wr.heap.size, 0, none⟩ 1 1 [.int .i64 m] rfl rfl (cell_one_new _ _ _) (fun x hx => by simp at hx; subst hx; rfl) (by unfold maxLen; omega) (by omega) (by have := hb.size; simp; omega) ?_; intro v' w1 hown' hgrow hnil)
        go_roundg kq
        case measure => exact Nat.lt_succ_self kq
        case rel =>
          exact ⟨i + 1, ds ++ [m], q, by simp, by simp, ⟨by have := HK.out.1; omega, fun h => HQ.out (by have := HK.out.1; omega)⟩, HN.out, (by rw [i64s_append]; exact hown' : World.ownsRow _ _ _ _ _ (i + 1) (i64s (ds ++ [m]))), (hb.alloc hb.size _).grown hgrow (by have := hb.size; simp; omega) (fun j e => (hlt _ e).1)⟩
      · by_cases hcz : c > 0
        · obtain ⟨kq, rfl⟩ : ∃ kq, gk = kq + 1 := ⟨gk - 1, by have := HK.out; apply Classical.byContradiction; intro h; have := HK.out.2 (by omega); omega⟩
          have hia : ¬ (i : Int) < (us.length : Int) := by omega
          have hib : ¬ (i : Int) < (vs.length : Int) := by omega
          have HN := Lib.hid (HI.out.step (T := c) (by omega) (by omega) (by have := drop_none (us := us) (i := i) (by omega); have := drop_none (us := us) (i := i + 1) (by omega); have := drop_none (us := vs) (i := i) (by omega); have := drop_none (us := vs) (i := i + 1) (by omega); omega))
          obtain ⟨m, hm⟩ : ∃ m, (c) % 65536 = m := ⟨_, rfl⟩
          obtain ⟨q, hq⟩ : ∃ q, (c) / 65536 = q := ⟨_, rfl⟩
          have hm1 : (c).tmod 65536 = m := by rw [Int.tmod_eq_emod_of_nonneg (by omega)]; exact hm
          have hq1 : (c).tdiv 65536 = q := by rw [Int.tdiv_eq_ediv_of_nonneg (by omega)]; exact hq
          rw [hm, hq] at HN
          have hqw : wrap64 q = q := Dg.wrap_ok (by omega) (by omega)
          have hq0 := HN.out.2.2.1; have hq2 := HN.out.2.2.2.1
          have HQ : Hid (i = n → q = 0) := fun e => by omega
          clear hm hq
          go_wp2_with (at_builtin; refine wpList_append_own _ rfl _ _ 31 rfl w.heap.size 3 i0 (.int .i64 0) 1 8 Try.underlying31 hi hz0 hz1 hz2 rfl (by decide) _ _ _ rfl (hown.alloc _) ⟨wr.heap.size, 0, none⟩ 1 1 [.int .i64 m] rfl rfl (cell_one_new _ _ _) (fun x hx => by simp at hx; subst hx; rfl) (by unfold maxLen; omega) (by omega) (by have := hb.size; simp; omega) ?_; intro v' w1 hown' hgrow hnil)
          go_roundg kq
          case measure => exact Nat.lt_succ_self kq
          case rel =>
            exact ⟨i + 1, ds ++ [m], q, by simp, by simp, ⟨by have := HK.out.1; omega, fun h => HQ.out (by have := HK.out.1; omega)⟩, HN.out, (by rw [i64s_append]; exact hown' : World.ownsRow _ _ _ _ _ (i + 1) (i64s (ds ++ [m]))), (hb.alloc hb.size _).grown hgrow (by have := hb.size; simp; omega) (fun j e => (hlt _ e).1)⟩
        · obtain rfl : c = 0 := by omega
          have hia : ¬ (i : Int) < (us.length : Int) := by omega
          have hib : ¬ (i : Int) < (vs.length : Int) := by omega
          have hdl : ds.length = i := HI.out.1
          have hrd : RdI wr.heap.size wr u5 ds := by
            refine rdi_owned (n := w.heap.size) ?_
            rw [hdl]; exact hown
          obtain ⟨y1, k1, e1⟩ := hrd.some
          subst e1
          have HRD := Lib.hid hrd
          have T := Lib.hid (Trim_fact ds HI.out.2.1 (by omega))
          rw [HI.out.done (by omega) (by omega)] at T
          clear hrd hown hlt hdl
          go_wp2_with (fail)
          go_at_call 44
          refine (T.out _ _ HRD.out).mono ?_
          rintro e wa ⟨⟨v, rfl, hv⟩, hb1⟩
          have HV := Lib.hid hv
          have HBX := Lib.hid (below_call HB.out HB.out.size hb1)
          clear hv hb1
          go_wp2
          go_ret
          exact ⟨⟨_, rfl, HV.out⟩, HBX.out⟩

end Go.Proofs.Ytldnjbpcdojffaa
