/- @@NUM 25 The walk of the document's Times on digits. Conditions: rows of at most 1000 digits. -/
import Derived.Test.YtldnjbpcdojffaaI14
import Derived.Laws.MakeOwn
namespace Go.Proofs.Ytldnjbpcdojffaa
set_option linter.unusedVariables false
set_option linter.unusedSimpArgs false
open Go Go.RowKit
open Dg (nv dg Ok Cn)

theorem made_zeros (n : Nat) : (madeCells (Value.int .i64 0).cells (n * 1)).toList = i64s (List.replicate n 0) := by
  rw [Nat.mul_one]
  apply List.ext_getElem
  · simp [madeCells, i64s]
  · intro i h1 h2
    simp [madeCells, i64s, Value.cells, Nat.mod_one]
theorem nv_zeros (n : Nat) : nv (List.replicate n 0) = 0 := by
  induction n with
  | zero => rfl
  | succ n ih => rw [List.replicate_succ, nv, ih]; rfl
theorem ok_zeros (n : Nat) : Ok (List.replicate n 0) := fun x hx => by
  obtain ⟨_, rfl⟩ := List.mem_replicate.1 hx
  omega
theorem own_cell {w : World} {base n : Nat} {g cap : Nat} {ds : List Int} {j : Nat} (h : w.ownsRow base 3 1 (.slice (some ⟨g, 0, none⟩) n cap) n (i64s ds)) (hj : j < ds.length) : w.cell? ⟨g, j, none⟩ = some (.int .i64 ds[j]) ∧ ∀ i, w.frozen? ⟨g, i, none⟩ = false := by
  have hcd := World.ownsRow.cells h (g := g) rfl j (.int .i64 ds[j]) (by simp [i64s, hj])
  have e2 : ((⟨g, 0, none⟩ : Addr).add j) = ⟨g, j, none⟩ := by unfold Addr.add; split <;> simp_all
  rw [e2] at hcd
  refine ⟨hcd, ?_⟩
  rcases h.2 with ⟨e, _⟩ | ⟨g2, cap2, cur, e, _, hh, _⟩
  · cases e
  · injection e with e1 e2 e3
    injection e1 with e1
    injection e1 with e1
    subst e1
    exact frozen_of hh
theorem own_put {w : World} {base n : Nat} {g cap : Nat} {ds : List Int} {j : Nat} {m : Int} (h : w.ownsRow base 3 1 (.slice (some ⟨g, 0, none⟩) n cap) n (i64s ds)) : (w.setCell ⟨g, j, none⟩ (.int .i64 m)).ownsRow base 3 1 (.slice (some ⟨g, 0, none⟩) n cap) n (i64s (ds.set j m)) := by
  have hs := own_set (i := j) h (.int .i64 m)
  have e : (i64s ds).set j (.int .i64 m) = i64s (ds.set j m) := by simp [i64s, List.map_set]
  rw [e] at hs; exact hs

set_option maxHeartbeats 16000000 in
theorem Times_fact (us vs : List Int) (ha : Ok us) (hb : Ok vs) (hla : us.length ≤ 1000) (hlb : vs.length ≤ 1000) (sa sb : Value) (w : World) (hA : RdI w.heap.size w sa us) (hB : RdI w.heap.size w sb vs) :
    Calls Try.prog 42 #[sa, sb] w fun e w' => (∃ v, e = .returned v ∧ RdI w'.heap.size w' v (dg (nv us * nv vs).toNat)) ∧ Below w.heap.size w w' := by
  obtain ⟨i0, hi, hz0, hz1, hz2⟩ := info_parts info_i64
  obtain ⟨L, hL⟩ : ∃ L, us.length + vs.length + 1 = L := ⟨_, rfl⟩
  have hLe : (us.length : Int) + (vs.length : Int) + 1 = (L : Int) := by omega
  have HA := Lib.hid hA; have HBB := Lib.hid hB; have HOA := Lib.hid ha; have HOB := Lib.hid hb; have HLL := Lib.hid hL
  clear hA hB ha hb hL
  obtain ⟨x1, c1, rfl⟩ := HA.out.some
  obtain ⟨x2, c2, rfl⟩ := HBB.out.some
  go_enter Try.func42, Try.ntmps42
  go_wp2_with (at_make; refine wpList_make_full _ rfl _ _ 31 rfl w.heap.size 3 i0 (.int .i64 0) 1 Try.underlying31 hi hz0 hz1 .i64 .i64 _ _ L rfl rfl (by first | rfl | exact hLe | omega) (by first | rfl | exact hLe | omega) (by rw [hz2]; have := HLL.out; omega) (by have := HLL.out; unfold maxLen; omega) (Nat.le_refl _) ?_; intro w0 hown0 hgrow0)
  rw [made_zeros] at hown0
  have HO0 := Lib.hid hown0
  have HB0 : Hid (Below w.heap.size w w0) := (Below.refl _ w).grown hgrow0 (Nat.le_refl _) (fun k e => by cases e)
  clear hown0 hgrow0 hLe
  go_loopg [19] us.length (fun kq v19 wr => ∃ (i : Nat) (ds : List Int), v19 = .int .i64 i ∧ Hid (kq + i = us.length) ∧ Hid (ds.length = us.length + vs.length + 1 ∧ Ok ds ∧ nv ds = nv (us.take i) * nv vs ∧ nv (ds.drop (i + vs.length)) = 0) ∧ Hid (wr.ownsRow w.heap.size 3 1 (.slice (some ⟨w.heap.size, 0, none⟩) L L) L (i64s ds)) ∧ Hid (Below w.heap.size w wr))
  case atStart =>
    refine ⟨0, List.replicate L 0, rfl, rfl, ⟨by rw [List.length_replicate, HLL.out], ok_zeros _, by simp [nv_zeros, nv], ?_⟩, HO0.out, HB0.out⟩
    rw [List.drop_replicate]; exact nv_zeros _
  case round =>
    obtain ⟨i, ds, rfl, HK, HD, HR, HB⟩ := hrel
    rcases gk with _ | kq
    · obtain rfl : i = us.length := by have := HK.out; omega
      have hdl : ds.length = L := by rw [HD.out.1]; exact HLL.out
      have hrd : RdI wr.heap.size wr (.slice (some ⟨w.heap.size, 0, none⟩) L L) ds := by
        have := HR.out
        rw [← hdl] at this ⊢
        exact rdi_owned this
      have HRD := Lib.hid hrd
      have T := Lib.hid (Trim_fact ds HD.out.2.1 (by have := HLL.out; omega))
      rw [HD.out.2.2.1, List.take_length] at T
      clear hrd hdl
      go_wp2_with (fail)
      go_at_call 44
      refine (T.out _ _ HRD.out).mono ?_
      rintro e wa ⟨⟨v, rfl, hv⟩, hb1⟩
      have HV := Lib.hid hv
      have HBX := Lib.hid (below_call HB.out HB.out.size hb1)
      clear hv hb1
      go_wp2
      go_ret
      exact ⟨⟨_, rfl, HV.out⟩, HBX.out⟩
    · have ia : i < us.length := by have := HK.out; omega
      have hia : (i : Int) < (us.length : Int) := by omega
      obtain ⟨x, hx⟩ : ∃ x, us[i] = x := ⟨_, rfl⟩
      have HX := Lib.hid hx
      have HOX := Lib.hid (HOA.out.at ia)
      rw [hx] at HOX
      have cellA : ∃ y, x1 = some y ∧ y.block < w.heap.size ∧ w.cell? (y.add i) = some (.int .i64 x) := by
        rcases HA.out with ⟨e, h0⟩ | ⟨y, cap, e, _, hyb, hcs⟩
        · rw [h0] at ia; simp at ia
        · injection e with e1 e2 e3
          exact ⟨y, e1, hyb, by rw [← hx]; exact ints_at hcs ia⟩
      obtain ⟨y1, rfl, hyb, cy0⟩ := cellA
      have HCY := Lib.hid cy0; have HYB := Lib.hid hyb
      have HST : Hid (TimesI us vs i 0 ds 0 x) := TimesI.start HD.out.1 HD.out.2.1 HD.out.2.2.1 HD.out.2.2.2
      clear hx cy0 hyb
      go_wp2
      go_loopg [7, 8] (vs.length + 1) (fun kk v7 v8 wr => ∃ (k : Nat) (ds : List Int) (c : Int), v7 = .int .i64 c ∧ v8 = .int .i64 k ∧ Hid (kk + k = vs.length + 1) ∧ Hid (TimesI us vs i k ds c x) ∧ Hid (wr.ownsRow w.heap.size 3 1 (.slice (some ⟨w.heap.size, 0, none⟩) L L) L (i64s ds)) ∧ Hid (Below w.heap.size w wr))
      case atStart => exact ⟨0, ds, 0, rfl, rfl, rfl, HST.out, HR.out, HB.out⟩
      case round =>
        clear HR HB HST HD
        obtain ⟨k, ds, c, rfl, rfl, HKK, HT, HR, HB⟩ := hrel
        have hk1 := HT.out.k1
        have c0 := HT.out.c0; have c1_ := HT.out.c1
        by_cases ik : k < vs.length
        · obtain ⟨kk, rfl⟩ : ∃ kk, gk = kk + 1 := ⟨gk - 1, by have := HKK.out; omega⟩
          have hik : (k : Int) < (vs.length : Int) := by omega
          have hj : i + k < ds.length := by rw [HT.out.len]; omega
          have hjL : ((i : Int) + (k : Int)) < (L : Int) := by have := HLL.out; omega
          obtain ⟨cd, hfz⟩ := own_cell HR.out hj
          have od := HT.out.ok.at hj
          have ox := HOX.out
          have ob := HOB.out.at ik
          have hmul := mul_digits ox ob
          have cellB : ∃ y, x2 = some y ∧ wr.cell? (y.add k) = some (.int .i64 vs[k]) := by
            rcases HBB.out with ⟨e, h0⟩ | ⟨y, cap, e, _, hyb, hcs⟩
            · rw [h0] at ik; simp at ik
            · injection e with e1 e2 e3
              exact ⟨y, e1, (HB.out.cell (p := y.add k) (by rw [add_block]; exact hyb)).trans (ints_at hcs ik)⟩
          obtain ⟨y2, rfl, cy2⟩ := cellB
          have cy1 : wr.cell? (y1.add i) = some (.int .i64 x) := (HB.out.cell (p := y1.add i) (by rw [add_block]; exact HYB.out)).trans HCY.out
          have hstep := HT.out.step ox HOB.out ia ik hj _ rfl
          obtain ⟨d, hd⟩ : ∃ d, ds[i + k] = d := ⟨_, rfl⟩
          obtain ⟨b, hbe⟩ : ∃ b, vs[k] = b := ⟨_, rfl⟩
          rw [hd] at cd od hstep
          rw [hbe] at cy2 ob hmul hstep
          obtain ⟨p, hp⟩ : ∃ p, x * b = p := ⟨_, rfl⟩
          rw [hp] at hmul hstep
          have hw1 : wrap64 (d + c) = d + c := Dg.wrap_ok (by omega) (by omega)
          have hw2 : wrap64 p = p := Dg.wrap_ok (by omega) (by omega)
          have hw3 : wrap64 (d + c + p) = d + c + p := Dg.wrap_ok (by omega) (by omega)
          obtain ⟨m, hm⟩ : ∃ m, (d + c + p) % 65536 = m := ⟨_, rfl⟩
          obtain ⟨q, hq⟩ : ∃ q, (d + c + p) / 65536 = q := ⟨_, rfl⟩
          rw [hm, hq] at hstep
          have hm1 : (d + c + p).tmod 65536 = m := by rw [Int.tmod_eq_emod_of_nonneg (by omega)]; exact hm
          have hq1 : (d + c + p).tdiv 65536 = q := by rw [Int.tdiv_eq_ediv_of_nonneg (by omega)]; exact hq
          have hqw : wrap64 q = q := Dg.wrap_ok (by omega) (by omega)
          have HN := Lib.hid hstep.2.2
          have HPUT := Lib.hid (own_put (j := i + k) (m := m) HR.out)
          clear hm hq hd hbe hstep hj
          go_wp2
          go_region
          go_wp2
          go_roundg kk
          case measure => exact Nat.lt_succ_self kk
          case rel => exact ⟨k + 1, _, q, by first | rfl | (simp; done) | simp [hqw], by simp, (by have := HKK.out; omega : kk + (k + 1) = vs.length + 1), HN.out, HPUT.out, (HB.out.setCell (p := ⟨w.heap.size, i + k, none⟩) (Nat.le_refl _) _).drew⟩
        · have hik : ¬ (k : Int) < (vs.length : Int) := by omega
          by_cases hc : 0 < c
          · obtain ⟨kk, rfl⟩ : ∃ kk, gk = kk + 1 := ⟨gk - 1, by
              have := HKK.out
              rcases Nat.lt_or_ge vs.length k with h1 | h1
              · have := HT.out.last (by omega); omega
              · omega⟩
            have hkv : k ≤ vs.length := by have := HKK.out; omega
            have hj : i + k < ds.length := by rw [HT.out.len]; omega
            have hjL : ((i : Int) + (k : Int)) < (L : Int) := by have := HLL.out; omega
            obtain ⟨cd, hfz⟩ := own_cell HR.out hj
            obtain ⟨h0, hover⟩ := HT.out.over ia ik hc hj
            rw [h0] at cd
            have hw1 : wrap64 c = c := Dg.wrap_ok (by omega) (by omega)
            have hm1 : c.tmod 65536 = c := by rw [Int.tmod_eq_emod_of_nonneg (by omega)]; omega
            have hq1 : c.tdiv 65536 = 0 := by rw [Int.tdiv_eq_ediv_of_nonneg (by omega)]; omega
            have HN := Lib.hid hover
            have HPUT := Lib.hid (own_put (j := i + k) (m := c) HR.out)
            clear hover h0 hj hkv
            go_wp2
            go_roundg kk
            case measure => exact Nat.lt_succ_self kk
            case rel => exact ⟨k + 1, _, 0, by first | rfl | simp, by simp, (by have := HKK.out; omega : kk + (k + 1) = vs.length + 1), HN.out, HPUT.out, HB.out.setCell (p := ⟨w.heap.size, i + k, none⟩) (Nat.le_refl _) _⟩
          · obtain rfl : c = 0 := by omega
            have hnx := HT.out.next ia HX.out ik
            have HN := Lib.hid hnx
            clear hnx
            go_wp2
            go_roundg kq
            case measure => exact Nat.lt_succ_self kq
            case rel => exact ⟨i + 1, ds, by simp, (by have := HK.out; omega : kq + (i + 1) = us.length), ⟨HT.out.len, HT.out.ok, HN.out.1, HN.out.2⟩, HR.out, HB.out⟩

end Go.Proofs.Ytldnjbpcdojffaa
