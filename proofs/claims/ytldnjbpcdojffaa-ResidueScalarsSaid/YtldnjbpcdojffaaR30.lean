/- @@NUM 25 The walk of residue's Of: a number out of 32 bytes. Conditions: none. -/
import Derived.Test.YtldnjbpcdojffaaR29
import Derived.Test.YtldnjbpcdojffaaWrd
import Derived.Laws.Bits64b
namespace Go.Proofs.Ytldnjbpcdojffaa
set_option linter.unusedVariables false
set_option linter.unusedSimpArgs false
open Go Go.RowKit
open Pl (V W4 T256 le lw)

/-- Words as values. -/
def u64s (l : List Nat) : Array Value := (l.map fun (z : Nat) => .int .u64 (z : Int)).toArray

set_option maxHeartbeats 4000000 in
theorem Of_fact (zs : List Nat) (hz : ∀ x ∈ zs, x < 256) (h32 : zs.length = 32) : ∃ r0 r1 r2 r3 : Nat, (W4 r0 r1 r2 r3 ∧ V r0 r1 r2 r3 = le zs) ∧ ∀ (sv : Value) (w : World), Bts w.heap.size w sv zs →
    Calls Try.prog 14 #[sv] w fun e w' => e = .returned (.tuple #[.agg #[.int .u64 r0, .int .u64 r1, .int .u64 r2, .int .u64 r3], .int .i64 0]) ∧ Below w.heap.size w w' := by
  obtain ⟨r0, r1, r2, r3, hr, hrv⟩ := Pl.words (le zs) (by have h := Pl.le_lt zs hz; rw [h32] at h; exact Nat.lt_of_lt_of_eq h (by decide +kernel))
  refine ⟨r0, r1, r2, r3, ⟨hr, hrv⟩, fun sv w hI => ?_⟩
  rcases hI with ⟨rfl, rfl⟩ | ⟨x, cap, rfl, hb, hcs⟩
  · cases h32
  rw [h32] at hcs ⊢
  have HCS := Lib.hid hcs; have HXB := Lib.hid hb
  have HR := Lib.hid hr; have HV := Lib.hid hrv
  clear hcs hb hr hrv
  go_enter Try.func14, Try.ntmps14
  go_wp2
  go_loopg [13] 32 (fun kq v13 wr => ∃ (k : Nat) (ws : List Nat), v13 = .int .i64 k ∧ Hid (kq + k = 32) ∧ Hid (ws.length = 4 ∧ (∀ y ∈ ws, y < 18446744073709551616) ∧ lw ws = le (zs.take k)) ∧ Hid (wr.heap[w.heap.size + 1]? = some (.cells (u64s ws) 25 (0, 0))) ∧ Hid (wr.heap[w.heap.size]? = some (.cells #[.int .u64 0, .int .u64 0, .int .u64 0, .int .u64 0] 25 (0, 0))) ∧ Hid (Below w.heap.size w wr))
  case atStart => exact ⟨0, [0, 0, 0, 0], rfl, rfl, ⟨rfl, by decide, rfl⟩, heap_new' (by simp) _, heap_old (heap_new _ _) _, ((Below.refl _ w).alloc (Nat.le_refl _) _).alloc (by simp) _⟩
  case round =>
    obtain ⟨k, ws, rfl, HK, HW, HO, HR0, HB⟩ := hrel
    rcases gk with _ | kq
    · obtain rfl : k = 32 := by have := HK.out; omega
      obtain ⟨o0, o1, o2, o3, rfl⟩ : ∃ o0 o1 o2 o3, ws = [o0, o1, o2, o3] := by
        have h := HW.out.1
        match ws, h with
        | [a, b, c, d], _ => exact ⟨a, b, c, d, rfl⟩
      have h := HW.out.2
      rw [Pl.lw_four, show zs.take 32 = zs by rw [← h32]; exact List.take_length] at h
      obtain ⟨rfl, rfl, rfl, rfl⟩ := Pl.V_inj (by unfold W4; exact ⟨h.1 _ (by simp), h.1 _ (by simp), h.1 _ (by simp), h.1 _ (by simp)⟩) HR.out (h.2.trans HV.out.symm)
      clear h
      have hO : wr.heap[w.heap.size + 1]? = some (.cells #[.int .u64 o0, .int .u64 o1, .int .u64 o2, .int .u64 o3] 25 (0, 0)) := HO.out
      have cO := cells4 hO; have cR := cells4 HR0.out; have fR := frozen_of HR0.out
      have hK := set4 HR0.out (.int .u64 o0) (.int .u64 o1) (.int .u64 o2) (.int .u64 o3)
      have hL := set4_below HB.out (b := w.heap.size) (by omega) (.int .u64 o0) (.int .u64 o1) (.int .u64 o2) (.int .u64 o3)
      have hQ := cells4 hK
      go_wp2
      exact bodyPost_ret (v := .tuple #[.agg #[.int .u64 o0, .int .u64 o1, .int .u64 o2, .int .u64 o3], .int .i64 0]) (by simp [results, Try.results14, go_sem, hQ]) rfl ⟨rfl, hL⟩
    · have hk : k < 32 := by have := HK.out; omega
      have hq : k / 8 < ws.length := by rw [HW.out.1]; omega
      obtain ⟨c, hc⟩ : ∃ c, zs[k]'(by omega) = c := ⟨_, rfl⟩
      have hc256 : c < 256 := by rw [← hc]; exact hz _ (List.getElem_mem _)
      obtain ⟨y, hy⟩ : ∃ y, ws[k / 8] = y := ⟨_, rfl⟩
      obtain ⟨hy1, hy2, hy3⟩ := Pl.lw_byte (k := k) (r := k % 8) (c := c) (n := le (zs.take k)) (by omega) (Nat.mod_lt _ (by omega)) hq HW.out.2.1 hc256 (Pl.le_take_lt hz (by omega)) HW.out.2.2
      rw [hy] at hy1 hy2 hy3
      have hor := Pl.or_add (c := c) hy1
      rw [← hc, ← Pl.le_take (by omega)] at hy3
      have hcx : wr.cell? (x.add k) = some (.int .u8 (c : Int)) := by
        rw [HB.out.cell (p := x.add k) (by rw [add_block]; exact HXB.out), HCS.out k hk, List.getElem?_eq_getElem (by omega), Option.getD_some, hc]
      have hcy : wr.cell? ⟨w.heap.size + 1, k / 8, none⟩ = some (.int .u64 (y : Int)) := cell_at HO.out (by simp [u64s, hq, hy])
      have fO := frozen_of HO.out
      have cw : IntKind.u64.wrap (c : Int) = (c : Int) := by rw [IntKind.wrap_u64]; omega
      have HN : Hid (lw (ws.set (k / 8) (y + c * 256 ^ (k % 8))) = le (zs.take (k + 1)) ∧ y + c * 256 ^ (k % 8) < 18446744073709551616) := ⟨by rw [hc] at hy3; exact hy3, hy2⟩
      have hval : bits .or .u64 (y : Int) (IntKind.u64.wrap ((c : Int) * 2 ^ (8 * (k % 8)))) = ((y + c * 256 ^ (k % 8) : Nat) : Int) := by
        have e : ((c : Int) * 2 ^ (8 * (k % 8))) = ((c * 256 ^ (k % 8) : Nat) : Int) := by
          rw [show (256 : Nat) = 2 ^ 8 from rfl, ← Nat.pow_mul]
          generalize 8 * (k % 8) = m
          push_cast; rfl
        rw [e, ← hor]
        have h1 : IntKind.u64.wrap ((c * 256 ^ (k % 8) : Nat) : Int) = ((c * 256 ^ (k % 8) : Nat) : Int) := by rw [IntKind.wrap_u64]; omega
        rw [h1, bits_or_u64_nat _ _ (by omega) (by omega)]
      obtain ⟨y2, hy4⟩ : ∃ y2, y + c * 256 ^ (k % 8) = y2 := ⟨_, rfl⟩
      rw [hy4] at hval HN
      have hset : (u64s ws).setIfInBounds (k / 8) (.int .u64 (y2 : Int)) = u64s (ws.set (k / 8) y2) := by simp [u64s, List.map_set]
      have HOR := Lib.hid hval
      clear hy3 hy2 hor hy4 hval hy1
      go_wp2
      go_region
      go_wp2
      rw [HOR.out]
      go_roundg kq
      case measure => exact Nat.lt_succ_self kq
      case rel =>
        have hW := HW.out; have hN := HN.out
        refine ⟨k + 1, ws.set (k / 8) y2, by simp, (by have := HK.out; omega : kq + (k + 1) = 32), ⟨by rw [List.length_set]; exact hW.1, fun z hz => ?_, hN.1⟩, ?_, heap_drew (heap_set_ne HR0.out (by simp) _), (HB.out.setCell (p := ⟨w.heap.size + 1, k / 8, none⟩) (by simp) _).drew⟩
        · rcases List.mem_or_eq_of_mem_set hz with h | rfl
          · exact hW.2.1 _ h
          · exact hN.2
        · rw [← hset]; exact heap_drew (heap_set HO.out _)

end Go.Proofs.Ytldnjbpcdojffaa
