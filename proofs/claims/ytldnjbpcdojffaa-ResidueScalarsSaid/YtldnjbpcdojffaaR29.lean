/- @@NUM 25 The walk of residue's Bytes. Conditions: words are below 2^64. -/
import Derived.Test.YtldnjbpcdojffaaR11
import Derived.Test.YtldnjbpcdojffaaR27
import Derived.Test.YtldnjbpcdojffaaByt
import Derived.Maps.AppendAt
import Derived.OwnWalk
namespace Go.Proofs.Ytldnjbpcdojffaa
set_option linter.unusedVariables false
set_option linter.unusedSimpArgs false
open Go Go.RowKit
open Pl (V W4 T256 bytesOf byteAt)

theorem info_u8 : (Try.prog.info? 5).map (fun i => (i.zero, i.size, i.bytes)) = some (some (.int .u8 0), 1, 1) := by kernel_rfl
/-- Bytes as values. -/
def u8s (l : List Nat) : List Value := l.map fun (z : Nat) => .int .u8 (z : Int)
theorem u8s_append (a b : List Nat) : u8s (a ++ b) = u8s a ++ u8s b := by simp [u8s]
theorem u8s_length (a : List Nat) : (u8s a).length = a.length := by simp [u8s]
/-- What an owned row reads as. -/
theorem bts_owned {w : World} {n : Nat} {v : Value} {zs : List Nat} (h : w.ownsRow n 5 1 v zs.length (u8s zs)) : Bts w.heap.size w v zs := by
  obtain ⟨h1, h2⟩ := h
  rcases h2 with ⟨rfl, h0⟩ | ⟨g, cap, cur, rfl, hb, hh, hle, hm, hs, ht⟩
  · exact .inl ⟨rfl, by simpa using h0⟩
  · refine .inr ⟨⟨g, 0, none⟩, cap, rfl, (Array.getElem?_eq_some_iff.1 hh).1, fun j hj => ?_⟩
    have e : ((⟨g, 0, none⟩ : Addr).add j).block = g := add_block _ _
    have e2 : ((⟨g, 0, none⟩ : Addr).add j).off = j := by unfold Addr.add; split <;> simp_all
    have e4 : ((⟨g, 0, none⟩ : Addr).add j).spot = none := by unfold Addr.add; split <;> rfl
    have h3 : cur[j]? = some (.int .u8 ((zs[j]?.getD 0 : Nat) : Int)) := by
      have h4 : (cur.toList.take (zs.length * 1))[j]? = (u8s zs)[j]? := by rw [ht]
      rw [List.getElem?_take_of_lt (by omega)] at h4
      simp only [u8s, List.getElem?_map, List.getElem?_eq_getElem hj, Option.map_some] at h4
      rw [List.getElem?_eq_getElem hj, Option.getD_some, ← h4]
      simp
    simp only [World.cell?, e, e2, hh]
    simpa [e4] using h3

theorem cell_at {w : World} {b i : Nat} {cs : Array Value} {t : TypeId} {mk : Nat × Nat} {v : Value} (h : w.heap[b]? = some (.cells cs t mk)) (hv : cs[i]? = some v) : w.cell? ⟨b, i, none⟩ = some v := by
  simp [World.cell?, h, hv]

set_option maxHeartbeats 4000000 in
theorem Bytes_fact (a0 a1 a2 a3 : Nat) (ha : W4 a0 a1 a2 a3) (w : World) : Calls Try.prog 18 #[.agg #[.int .u64 a0, .int .u64 a1, .int .u64 a2, .int .u64 a3]] w fun e w' => (∃ v, e = .returned v ∧ w'.ownsRow w.heap.size 5 1 v 32 (u8s (bytesOf 32 (V a0 a1 a2 a3)))) ∧ Below w.heap.size w w' := by
  obtain ⟨i0, hi, hz0, hz1, hz2⟩ := info_parts info_u8
  obtain ⟨N, hN⟩ : ∃ N, V a0 a1 a2 a3 = N := ⟨_, rfl⟩
  rw [hN]
  have HA := Lib.hid ha; have HN := Lib.hid hN
  clear ha hN
  go_enter Try.func18, Try.ntmps18
  go_wp2
  go_loopg [3, 5] 32 (fun kq v3 v5 wr => ∃ k : Nat, v5 = .int .i64 k ∧ Hid (kq + k = 32) ∧ wr.ownsRow (w.heap.size + 1) 5 1 v3 k (u8s (bytesOf k N)) ∧ Hid (wr.heap[w.heap.size]? = some (.cells #[.int .u64 a0, .int .u64 a1, .int .u64 a2, .int .u64 a3] 25 (0, 0))) ∧ Hid (Below w.heap.size w wr))
  case atStart => exact ⟨0, rfl, rfl, by simpa [bytesOf, u8s] using World.ownsRow_nil _ _ _ _, heap_new _ _, (Below.refl _ w).alloc (Nat.le_refl _) _⟩
  case round =>
    obtain ⟨k, rfl, HK, hrow, HH, HB⟩ := hrel
    rcases gk with _ | kq
    · obtain rfl : k = 32 := by have := HK.out; omega
      go_wp2
      go_ret
      obtain ⟨h1, h2⟩ := hrow
      refine ⟨⟨_, rfl, h1, ?_⟩, HB.out⟩
      rcases h2 with h2 | ⟨g, cap, cur, e, hb, h3⟩
      · exact .inl h2
      · exact .inr ⟨g, cap, cur, e, by omega, h3⟩
    · have hk : k < 32 := by have := HK.out; omega
      have h0 : k / 8 < 4 := by omega
      obtain ⟨x, hx, hxv, hp⟩ := word_pick a0 a1 a2 a3 HA.out (k / 8) h0
      rw [HN.out] at hxv
      have hbyte := Pl.byte_word (N := N) (k := k) (r := k % 8) (by omega) (Nat.mod_lt _ (by omega)) hxv
      have hcx := cell_at HH.out (i := k / 8) (v := .int .u64 x) (by rw [← Array.getElem?_toList, List.getElem?_eq_getElem (show k / 8 < 4 from h0), hp])
      have hconv : IntKind.u8.wrap ((x : Int) / 2 ^ (8 * (k % 8))) = ((byteAt N k : Nat) : Int) := by
        rw [IntKind.wrap_u8, ← hbyte]
        have e : ((x : Int) / 2 ^ (8 * (k % 8))) = ((x / 2 ^ (8 * (k % 8)) : Nat) : Int) := by
          generalize 8 * (k % 8) = m
          push_cast; rfl
        rw [e]; omega
      have hB := HB.out
      have hz := lt_of_heap HH.out
      clear hp hxv
      go_wp2_with (at_builtin; refine wpList_append_own _ rfl _ _ 22 rfl (w.heap.size + 1) 5 i0 (.int .u8 0) 1 1 Try.underlying22 hi hz0 hz1 hz2 rfl (by decide) _ _ _ rfl (hrow.alloc _) ⟨wr.heap.size, 0, none⟩ 1 1 [.int .u8 (byteAt N k : Nat)] rfl rfl (cell_one_new _ _ _) (fun x hx => by simp at hx; subst hx; rfl) (by unfold maxLen; omega) (by omega) (by simp; omega) ?_; intro v' w1 hown' hgrow hnil)
      have hlt := hrow.lt
      go_roundg kq
      case measure => exact Nat.lt_succ_self kq
      case rel =>
        refine ⟨k + 1, by simp, (by have := HK.out; omega : kq + (k + 1) = 32), ?_, ?_, ?_⟩
        · rw [Pl.bytesOf_succ, u8s_append]; exact hown'
        · refine (hgrow.block _ (by simp; omega) (fun e => ?_)).trans (heap_old HH.out _)
          have := (hlt _ e.symm).1
          omega
        · exact (hB.alloc (by omega) _).grown hgrow (by simp; omega) (fun j e => by have := (hlt _ e).1; omega)

end Go.Proofs.Ytldnjbpcdojffaa
