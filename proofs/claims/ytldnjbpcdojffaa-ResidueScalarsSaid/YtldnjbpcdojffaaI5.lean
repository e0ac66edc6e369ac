/- @@NUM 25 The walk of the document's Of: bytes as digits. Conditions: at most 100 bytes. -/
import Derived.Test.YtldnjbpcdojffaaI4
import Derived.Test.YtldnjbpcdojffaaWrd
namespace Go.Proofs.Ytldnjbpcdojffaa
set_option linter.unusedVariables false
set_option linter.unusedSimpArgs false
open Go Go.RowKit
open Pl (V W4 T256 le)
open Dg (nv dg Ok Cn)

theorem own_set {w : World} {base n : Nat} {g cap : Nat} {xs : List Value} {i : Nat} (h : w.ownsRow base 3 1 (.slice (some ⟨g, 0, none⟩) n cap) n xs) (u : Value) : (w.setCell ⟨g, i, none⟩ u).ownsRow base 3 1 (.slice (some ⟨g, 0, none⟩) n cap) n (xs.set i u) := by
  obtain ⟨h1, h2⟩ := h
  refine ⟨by rw [List.length_set]; exact h1, ?_⟩
  rcases h2 with ⟨e, _⟩ | ⟨g2, cap2, cur, e, hb, hh, hle, hm, hs, ht⟩
  · cases e
  · injection e with e1 e2 e3
    injection e1 with e1
    injection e1 with e1
    subst e1 e3
    refine .inr ⟨g, cap, cur.setIfInBounds i u, rfl, hb, heap_set hh u, hle, hm, by simpa using hs, ?_⟩
    rw [← ht]
    simp [List.take_set]

/-- Digits that bytes make: after k bytes. -/
def OfD (zs : List Nat) (k : Nat) (ds : List Int) : Prop := ds.length = (k + 1) / 2 ∧ Ok ds ∧ nv ds = (le (zs.take k) : Int) ∧ (k % 2 = 1 → ∃ us d, ds = us ++ [d] ∧ 0 ≤ d ∧ d < 256)
theorem pow_two (m : Nat) : ((65536 : Int) ^ m) = ((256 ^ (2 * m) : Nat) : Int) := by
  have e := Int.natCast_pow 65536 m
  have e2 : ((65536 : Nat) : Int) = 65536 := rfl
  rw [e2] at e
  rw [← e, Nat.pow_mul]
theorem OfD.even {zs : List Nat} {k : Nat} {ds : List Int} (h : OfD zs k ds) (hk : k % 2 = 0) (hl : k < zs.length) (hz : zs[k] < 256) : OfD zs (k + 1) (ds ++ [(zs[k] : Int)]) := by
  obtain ⟨h1, h2, h3, _⟩ := h
  refine ⟨by rw [List.length_append, h1, List.length_singleton]; omega, h2.append (Dg.Ok.one (by omega)), ?_, fun _ => ⟨ds, _, rfl, by omega, by omega⟩⟩
  rw [Dg.nv_snoc, h1, h3, Pl.le_take hl, pow_two, show 2 * ((k + 1) / 2) = k by omega, Int.natCast_add, Int.natCast_mul]
theorem OfD.odd {zs : List Nat} {k : Nat} {ds : List Int} (h : OfD zs k ds) (hk : k % 2 = 1) (hl : k < zs.length) (hz : zs[k] < 256) : ∃ d : Int, ds[k / 2]? = some d ∧ 0 ≤ d ∧ d < 256 ∧ OfD zs (k + 1) (ds.set (k / 2) (d + 256 * (zs[k] : Int))) := by
  obtain ⟨h1, h2, h3, h4⟩ := h
  obtain ⟨us, d, rfl, hd0, hd1⟩ := h4 hk
  have hu : us.length = k / 2 := by rw [List.length_append, List.length_singleton] at h1; omega
  have hset : (us ++ [d]).set (k / 2) (d + 256 * (zs[k] : Int)) = us ++ [d + 256 * (zs[k] : Int)] := by
    rw [List.set_append_right _ _ (by omega), hu, Nat.sub_self]; rfl
  refine ⟨d, ?_, hd0, hd1, ?_⟩
  · rw [List.getElem?_append_right (by omega), hu, Nat.sub_self]; rfl
  · rw [hset]
    refine ⟨?_, h2.left.append (Dg.Ok.one (by omega)), ?_, fun h => by omega⟩
    · rw [List.length_append, List.length_singleton] at h1 ⊢; omega
    · rw [Dg.nv_snoc] at h3 ⊢
      rw [hu, pow_two] at h3
      rw [Pl.le_take hl, hu, pow_two]
      have e : (256 : Nat) ^ k = 256 ^ (2 * (k / 2)) * 256 := by rw [← Nat.pow_succ]; congr 1; omega
      rw [e, Int.natCast_add, ← h3]
      generalize (256 : Nat) ^ (2 * (k / 2)) = B
      clear h1 h2 h3 h4 hset e
      have e3 : ((256 : Nat) : Int) = 256 := rfl
      rw [Int.natCast_mul, Int.natCast_mul, e3]
      grind

set_option maxHeartbeats 8000000 in
theorem ROf_fact (zs : List Nat) (hz : ∀ x ∈ zs, x < 256) (hl : zs.length ≤ 100) (sv : Value) (w : World) (hI : Bts w.heap.size w sv zs) : Calls Try.prog 17 #[sv] w fun e w' => (∃ v, e = .returned v ∧ RdI w'.heap.size w' v (dg (le zs))) ∧ Below w.heap.size w w' := by
  obtain ⟨i0, hi, hz0, hz1, hz2⟩ := info_parts info_i64
  have hsome : ∃ a cap, sv = .slice a zs.length cap := by
    rcases hI with ⟨rfl, rfl⟩ | ⟨x, cap, rfl, _⟩
    · exact ⟨_, _, rfl⟩
    · exact ⟨_, _, rfl⟩
  obtain ⟨a1, c1, rfl⟩ := hsome
  have HI := Lib.hid hI; have HZ := Lib.hid hz
  clear hI hz
  go_enter Try.func17, Try.ntmps17
  go_wp2
  go_loopg [3, 7] zs.length (fun kq v3 v7 wr => ∃ (k : Nat) (ds : List Int), v7 = .int .i64 k ∧ Hid (kq + k = zs.length) ∧ Hid (OfD zs k ds) ∧ Hid (wr.ownsRow w.heap.size 3 1 v3 ds.length (i64s ds)) ∧ Hid (Below w.heap.size w wr))
  case atStart => exact ⟨0, [], rfl, rfl, ⟨rfl, Dg.Ok.nil, rfl, fun h => by omega⟩, World.ownsRow_nil _ _ _ _, Below.refl _ _⟩
  case round =>
    obtain ⟨k, ds, rfl, HK, HD, HR, HB⟩ := hrel
    rcases gk with _ | kq
    · obtain rfl : k = zs.length := by have := HK.out; omega
      have hrd : RdI wr.heap.size wr u3 ds := rdi_owned HR.out
      obtain ⟨x1, k1, e1⟩ := hrd.some
      subst e1
      have HRD := Lib.hid hrd
      have T := Lib.hid (Trim_fact ds HD.out.2.1 (by rw [HD.out.1]; omega))
      rw [HD.out.2.2.1, List.take_length, Int.toNat_natCast] at T
      clear hrd HR
      go_wp2_with (fail)
      go_at_call 44
      refine (T.out _ _ HRD.out).mono ?_
      rintro e wa ⟨⟨v, rfl, hv⟩, hb1⟩
      have HV := Lib.hid hv
      have HBX := Lib.hid (below_call HB.out HB.out.size hb1)
      clear hv hb1
      go_wp2
      go_ret
      exact ⟨⟨_, rfl, HV.out⟩, HBX.out⟩
    · have hk : k < zs.length := by have := HK.out; omega
      have hown := HR.out
      have hb := HB.out
      have hlt := hown.lt
      obtain ⟨c, hc⟩ : ∃ c, zs[k] = c := ⟨_, rfl⟩
      have hc256 : c < 256 := by rw [← hc]; exact HZ.out _ (List.getElem_mem _)
      have hcell : ∃ x, a1 = some x ∧ wr.cell? (x.add k) = some (.int .u8 (c : Int)) := by
        rcases HI.out with ⟨e, h0⟩ | ⟨x, cap, e, hxb, hcs⟩
        · rw [h0] at hk; simp at hk
        · injection e with e1 e2 e3
          refine ⟨x, e1, ?_⟩
          rw [hb.cell (p := x.add k) (by rw [add_block]; exact hxb), hcs _ hk, List.getElem?_eq_getElem hk, Option.getD_some, hc]
      obtain ⟨x, rfl, hcx⟩ := hcell
      have hkl : (k : Int) < (zs.length : Int) := by omega
      have hw0 : wrap64 (c : Int) = (c : Int) := by unfold wrap64; omega
      rcases Nat.mod_two_eq_zero_or_one k with hp | hp
      · have hp1 : ((k : Int) % 2) = 0 := by omega
        have HN : Hid (OfD zs (k + 1) (ds ++ [(c : Int)])) := by
          have := HD.out.even hp hk (by omega)
          rw [hc] at this; exact this
        have hdl : ds.length ≤ 100 := by rw [HD.out.1]; omega
        clear hc
        go_wp2_with (at_builtin; refine wpList_append_own _ rfl _ _ 31 rfl w.heap.size 3 i0 (.int .i64 0) 1 8 Try.underlying31 hi hz0 hz1 hz2 rfl (by decide) _ _ _ rfl (hown.alloc _) ⟨wr.heap.size, 0, none⟩ 1 1 [.int .i64 (c : Int)] rfl rfl (cell_one_new _ _ _) (fun x hx => by simp at hx; subst hx; rfl) (by unfold maxLen; omega) (by omega) (by have := hb.size; simp; omega) ?_; intro v' w1 hown' hgrow hnil)
        go_roundg kq
        case measure => exact Nat.lt_succ_self kq
        case rel =>
          exact ⟨k + 1, _, by simp, (by have := HK.out; omega : kq + (k + 1) = zs.length), HN.out, (by rw [List.length_append, i64s_append]; exact hown' : World.ownsRow _ _ _ _ _ (ds ++ [(c : Int)]).length (i64s (ds ++ [(c : Int)]))), (hb.alloc hb.size _).grown hgrow (by have := hb.size; simp; omega) (fun j e => (hlt _ e).1)⟩
      · have hp1 : ((k : Int) % 2) = 1 := by omega
        obtain ⟨d, hd, hd0, hd1, hnew⟩ := HD.out.odd hp hk (by omega)
        rw [hc] at hnew
        have hdl : ds.length = (k + 1) / 2 := HD.out.1
        have hin : k / 2 < ds.length := by omega
        have HN := Lib.hid hnew
        have hrow : ∃ g cap, u3 = .slice (some ⟨g, 0, none⟩) ds.length cap ∧ w.heap.size ≤ g ∧ ∀ i, wr.frozen? ⟨g, i, none⟩ = false := by
          rcases hown.2 with ⟨e, h0⟩ | ⟨g, cap, cur, e, hgb, hh, _⟩
          · omega
          · exact ⟨g, cap, e, hgb, frozen_of hh⟩
        obtain ⟨g, cap, rfl, hgb, hfz⟩ := hrow
        have hcd := World.ownsRow.cells hown (g := g) rfl (k / 2) (.int .i64 d) (by simp [i64s, hd])
        have hcd2 : wr.cell? ⟨g, k / 2, none⟩ = some (.int .i64 d) := by
          have e2 : ((⟨g, 0, none⟩ : Addr).add (k / 2)) = ⟨g, k / 2, none⟩ := by unfold Addr.add; split <;> simp_all
          rw [e2] at hcd; exact hcd
        have hin2 : ((k : Int) / 2) < (ds.length : Int) := by omega
        have hw1 : wrap64 (256 * (c : Int)) = 256 * (c : Int) := by unfold wrap64; omega
        have hw2 : wrap64 (d + 256 * (c : Int)) = d + 256 * (c : Int) := by unfold wrap64; omega
        have HOWN := Lib.hid hown
        clear hnew hown hlt hcd hc hd HR
        go_wp2
        go_region
        go_wp2
        have hs := own_set (i := k / 2) HOWN.out (.int .i64 (d + 256 * (c : Int)))
        have hset : (i64s ds).set (k / 2) (.int .i64 (d + 256 * (c : Int))) = i64s (ds.set (k / 2) (d + 256 * (c : Int))) := by simp [i64s, List.map_set]
        rw [hset] at hs
        go_roundg kq
        case measure => exact Nat.lt_succ_self kq
        case rel =>
          exact ⟨k + 1, ds.set (k / 2) (d + 256 * (c : Int)), by simp, (by have := HK.out; omega : kq + (k + 1) = zs.length), HN.out, (by rw [List.length_set]; exact hs : World.ownsRow (World.drew _) _ _ _ _ (ds.set (k / 2) (d + 256 * (c : Int))).length _), (hb.setCell (p := ⟨g, k / 2, none⟩) hgb _).drew⟩

end Go.Proofs.Ytldnjbpcdojffaa
