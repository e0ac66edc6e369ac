/- Plain law: a number's bytes, the lowest one first. Conditions: none. -/
import Derived.Test.YtgeldhdijochdaaZ10
import Derived.Test.YtgeldhdijochdaaZ7
import Derived.Maps.AppendAt
import Derived.OwnWalk
import Derived.Laws.Bits64b
import Derived.Test.YtgeldhdijochdaaZ9
import Derived.Test.YtgeldhdijochdaaZ6
set_option linter.unusedSectionVars false
namespace Go.Proofs.Ytgeldhdijochdaa
set_option linter.unusedVariables false
set_option linter.unusedSimpArgs false
namespace Pl

def byteAt (N i : Nat) : Nat := N / 256 ^ i % 256
def bytesOf (n N : Nat) : List Nat := (List.range n).map (byteAt N)
theorem bytesOf_length (n N : Nat) : (bytesOf n N).length = n := by simp [bytesOf]
theorem bytesOf_succ (n N : Nat) : bytesOf (n + 1) N = bytesOf n N ++ [byteAt N n] := by simp [bytesOf, List.range_succ]
theorem byteAt_lt (N i : Nat) : byteAt N i < 256 := Nat.mod_lt _ (by decide)
theorem bytesOf_lt (n N : Nat) : ∀ x ∈ bytesOf n N, x < 256 := by
  intro x hx
  simp only [bytesOf, List.mem_map] at hx
  obtain ⟨i, _, rfl⟩ := hx
  exact byteAt_lt N i
theorem le_bytesOf (n N : Nat) : le (bytesOf n N) = N % 256 ^ n := by
  induction n with
  | zero => simp [bytesOf, le, Nat.mod_one]
  | succ n ih =>
    rw [bytesOf_succ, le_append, bytesOf_length, ih, le, le, Nat.mul_zero, Nat.add_zero, byteAt, Nat.pow_succ, Nat.mod_mul]
theorem le_bytes32 {N : Nat} (h : N < T256) : le (bytesOf 32 N) = N := by
  rw [le_bytesOf]
  exact Nat.mod_eq_of_lt (Nat.lt_of_lt_of_eq h (by decide +kernel))

/-- A word's byte. -/
theorem byte_word {N k q r x : Nat} (hk : k = 8 * q + r) (hr : r < 8) (hx : x = N / 18446744073709551616 ^ q % 18446744073709551616) : x / 2 ^ (8 * r) % 256 = byteAt N k := by
  have h64 : (18446744073709551616 : Nat) = 256 ^ 8 := by decide
  have e2 : (2 : Nat) ^ (8 * r) = 256 ^ r := by rw [Nat.pow_mul]
  have e1 : (256 : Nat) ^ 8 = 256 ^ r * 256 ^ (8 - r) := by rw [← Nat.pow_add]; congr 1; omega
  have e3 : (256 : Nat) ∣ 256 ^ (8 - r) := ⟨256 ^ (7 - r), by rw [← Nat.pow_succ']; congr 1; omega⟩
  unfold byteAt
  rw [hx, h64, e2, hk, Nat.pow_add, Nat.pow_mul, ← Nat.div_div_eq_div_mul]
  generalize N / (256 ^ 8) ^ q = M
  rw [e1, Nat.mod_mul_right_div_self, Nat.mod_mod_of_dvd _ e3]

/-- The bytes of a number that bytes make. -/
theorem bytesOf_le : ∀ (l : List Nat), (∀ x ∈ l, x < 256) → bytesOf l.length (le l) = l := by
  intro l
  induction l with
  | nil => intro _; simp [bytesOf]
  | cons x l ih =>
    intro h
    have hx := h x (by simp)
    have ih := ih fun y hy => h y (by simp [hy])
    rw [List.length_cons]
    unfold bytesOf at ih ⊢
    rw [List.range_succ_eq_map, List.map_cons, List.map_map]
    congr 1
    · unfold byteAt; rw [le, Nat.pow_zero, Nat.div_one]; omega
    · refine Eq.trans (List.map_congr_left fun i _ => ?_) ih
      simp only [Function.comp, byteAt, le]
      rw [show 256 ^ (i + 1) = 256 * 256 ^ i by rw [Nat.pow_succ, Nat.mul_comm], ← Nat.div_div_eq_div_mul, show (x + 256 * le l) / 256 = le l by omega]

end Pl
end Go.Proofs.Ytgeldhdijochdaa
/- @@NUM 26 The walk of residue's Bytes. Conditions: words are below 2^64. -/
set_option maxRecDepth 100000
namespace Go.Proofs.Ytgeldhdijochdaa
set_option linter.unusedVariables false
set_option linter.unusedSimpArgs false
open Go Go.RowKit
open Pl (V W4 T256 bytesOf byteAt)

theorem info_u8 : (Try.prog.info? 5).map (fun i => (i.zero, i.size, i.bytes)) = some (some (.int .u8 0), 1, 1) := by kernel_rfl
/-- Bytes as values. -/
def u8s (l : List Nat) : List Value := l.map fun (z : Nat) => .int .u8 (z : Int)
theorem u8s_append (a b : List Nat) : u8s (a ++ b) = u8s a ++ u8s b := by simp [u8s]
theorem u8s_length (a : List Nat) : (u8s a).length = a.length := by simp [u8s]
/-- What an owned row reads as. -/
theorem bts_owned {w : World} {n : Nat} {v : Value} {zs : List Nat} (h : w.ownsRow n 5 1 v zs.length (u8s zs)) : Bts w.heap.size w v zs := by
  obtain ⟨h1, h2⟩ := h
  rcases h2 with ⟨rfl, h0⟩ | ⟨g, cap, cur, rfl, hb, hh, hle, hm, hs, ht⟩
  · exact .inl ⟨rfl, by simpa using h0⟩
  · refine .inr ⟨⟨g, 0, none⟩, cap, rfl, (Array.getElem?_eq_some_iff.1 hh).1, fun j hj => ?_⟩
    have e : ((⟨g, 0, none⟩ : Addr).add j).block = g := add_block _ _
    have e2 : ((⟨g, 0, none⟩ : Addr).add j).off = j := by unfold Addr.add; split <;> simp_all
    have e4 : ((⟨g, 0, none⟩ : Addr).add j).spot = none := by unfold Addr.add; split <;> rfl
    have h3 : cur[j]? = some (.int .u8 ((zs[j]?.getD 0 : Nat) : Int)) := by
      have h4 : (cur.toList.take (zs.length * 1))[j]? = (u8s zs)[j]? := by rw [ht]
      rw [List.getElem?_take_of_lt (by omega)] at h4
      simp only [u8s, List.getElem?_map, List.getElem?_eq_getElem hj, Option.map_some] at h4
      rw [List.getElem?_eq_getElem hj, Option.getD_some, ← h4]
      simp
    simp only [World.cell?, e, e2, hh]
    simpa [e4] using h3

theorem cell_at {w : World} {b i : Nat} {cs : Array Value} {t : TypeId} {mk : Nat × Nat} {v : Value} (h : w.heap[b]? = some (.cells cs t mk)) (hv : cs[i]? = some v) : w.cell? ⟨b, i, none⟩ = some v := by
  simp [World.cell?, h, hv]

set_option maxHeartbeats 4000000 in
theorem Bytes_fact (a0 a1 a2 a3 : Nat) (ha : W4 a0 a1 a2 a3) (w : World) : Calls Try.prog 16 #[.agg #[.int .u64 a0, .int .u64 a1, .int .u64 a2, .int .u64 a3]] w fun e w' => (∃ v, e = .returned v ∧ w'.ownsRow w.heap.size 5 1 v 32 (u8s (bytesOf 32 (V a0 a1 a2 a3)))) ∧ Below w.heap.size w w' := by
  obtain ⟨i0, hi, hz0, hz1, hz2⟩ := info_parts info_u8
  obtain ⟨N, hN⟩ : ∃ N, V a0 a1 a2 a3 = N := ⟨_, rfl⟩
  rw [hN]
  have HA := Lib.hid ha; have HN := Lib.hid hN
  clear ha hN
  go_enter Try.func16, Try.ntmps16
  go_wp2
  go_loopg [3, 5] 32 (fun kq v3 v5 wr => ∃ k : Nat, v5 = .int .i64 k ∧ Hid (kq + k = 32) ∧ wr.ownsRow (w.heap.size + 1) 5 1 v3 k (u8s (bytesOf k N)) ∧ Hid (wr.heap[w.heap.size]? = some (.cells #[.int .u64 a0, .int .u64 a1, .int .u64 a2, .int .u64 a3] 26 (0, 0))) ∧ Hid (Below w.heap.size w wr))
  case atStart => exact ⟨0, rfl, rfl, by simpa [bytesOf, u8s] using World.ownsRow_nil _ _ _ _, heap_new _ _, (Below.refl _ w).alloc (Nat.le_refl _) _⟩
  case round =>
    obtain ⟨k, rfl, HK, hrow, HH, HB⟩ := hrel
    rcases gk with _ | kq
    · obtain rfl : k = 32 := by have := HK.out; omega
      go_wp2
      go_ret
      obtain ⟨h1, h2⟩ := hrow
      refine ⟨⟨_, rfl, h1, ?_⟩, HB.out⟩
      rcases h2 with h2 | ⟨g, cap, cur, e, hb, h3⟩
      · exact .inl h2
      · exact .inr ⟨g, cap, cur, e, by omega, h3⟩
    · have hk : k < 32 := by have := HK.out; omega
      have h0 : k / 8 < 4 := by omega
      obtain ⟨x, hx, hxv, hp⟩ := word_pick a0 a1 a2 a3 HA.out (k / 8) h0
      rw [HN.out] at hxv
      have hbyte := Pl.byte_word (N := N) (k := k) (r := k % 8) (by omega) (Nat.mod_lt _ (by omega)) hxv
      have hcx := cell_at HH.out (i := k / 8) (v := .int .u64 x) (by rw [← Array.getElem?_toList, List.getElem?_eq_getElem (show k / 8 < 4 from h0), hp])
      have hconv : IntKind.u8.wrap ((x : Int) / 2 ^ (8 * (k % 8))) = ((byteAt N k : Nat) : Int) := by
        rw [IntKind.wrap_u8, ← hbyte]
        have e : ((x : Int) / 2 ^ (8 * (k % 8))) = ((x / 2 ^ (8 * (k % 8)) : Nat) : Int) := by
          generalize 8 * (k % 8) = m
          push_cast; rfl
        rw [e]; omega
      have hB := HB.out
      have hz := lt_of_heap HH.out
      clear hp hxv
      go_wp2_with (at_builtin; refine wpList_append_own _ rfl _ _ 35 rfl (w.heap.size + 1) 5 i0 (.int .u8 0) 1 1 Try.underlying35 hi hz0 hz1 hz2 rfl (by decide) _ _ _ rfl (hrow.alloc _) ⟨wr.heap.size, 0, none⟩ 1 1 [.int .u8 (byteAt N k : Nat)] rfl rfl (cell_one_new _ _ _) (fun x hx => by simp at hx; subst hx; rfl) (by unfold maxLen; omega) (by omega) (by simp; omega) ?_; intro v' w1 hown' hgrow hnil)
      have hlt := hrow.lt
      go_roundg kq
      case measure => exact Nat.lt_succ_self kq
      case rel =>
        refine ⟨k + 1, by simp, (by have := HK.out; omega : kq + (k + 1) = 32), ?_, ?_, ?_⟩
        · rw [Pl.bytesOf_succ, u8s_append]; exact hown'
        · refine (hgrow.block _ (by simp; omega) (fun e => ?_)).trans (heap_old HH.out _)
          have := (hlt _ e.symm).1
          omega
        · exact (hB.alloc (by omega) _).grown hgrow (by simp; omega) (fun j e => by have := (hlt _ e).1; omega)

end Go.Proofs.Ytgeldhdijochdaa
/- Plain law: words that bytes fill one by one. Conditions: none. -/
namespace Go.Proofs.Ytgeldhdijochdaa
set_option linter.unusedVariables false
set_option linter.unusedSimpArgs false
namespace Pl

/-- The number of a row of words, the lowest one first. -/
def lw : List Nat → Nat
  | [] => 0
  | x :: l => x + 18446744073709551616 * lw l
theorem lw_set : ∀ (l : List Nat) (q y : Nat) (h : q < l.length), lw (l.set q y) + l[q] * 18446744073709551616 ^ q = lw l + y * 18446744073709551616 ^ q
  | [], q, y, h => by simp at h
  | x :: l, 0, y, h => by simp [lw]; omega
  | x :: l, q + 1, y, h => by
    have ih := lw_set l q y (by simpa using h)
    rw [List.set_cons_succ, lw, lw, List.getElem_cons_succ, Nat.pow_succ]
    generalize 18446744073709551616 ^ q = B at ih ⊢
    grind
theorem lw_get : ∀ (l : List Nat) (q : Nat) (h : q < l.length), (∀ x ∈ l, x < 18446744073709551616) → l[q] = lw l / 18446744073709551616 ^ q % 18446744073709551616
  | [], q, h, _ => by simp at h
  | x :: l, 0, h, ha => by
    have := ha x (by simp)
    simp [lw]; omega
  | x :: l, q + 1, h, ha => by
    have ih := lw_get l q (by simpa using h) fun y hy => ha y (by simp [hy])
    have hx := ha x (by simp)
    rw [List.getElem_cons_succ, ih, lw, Nat.pow_succ', ← Nat.div_div_eq_div_mul, show (x + 18446744073709551616 * lw l) / 18446744073709551616 = lw l by omega]
theorem lw_four (a b c d : Nat) : lw [a, b, c, d] = V a b c d := by simp [lw, V]; omega

theorem pow_word (q r : Nat) : (256 : Nat) ^ (8 * q + r) = 18446744073709551616 ^ q * 256 ^ r := by
  rw [Nat.pow_add, Nat.pow_mul]

/-- A byte more: the word it goes into is below its place. -/
theorem lw_byte {l : List Nat} {k q r c n : Nat} (hk : k = 8 * q + r) (hr : r < 8) (hq : q < l.length) (ha : ∀ x ∈ l, x < 18446744073709551616) (hc : c < 256) (hn : n < 256 ^ k) (hl : lw l = n) :
    l[q] < 256 ^ r ∧ l[q] + c * 256 ^ r < 18446744073709551616 ∧ lw (l.set q (l[q] + c * 256 ^ r)) = n + 256 ^ k * c := by
  have h1 := lw_get l q hq ha
  have h3 : l[q] < 256 ^ r := by
    rw [h1, hl]
    refine Nat.lt_of_le_of_lt (Nat.mod_le _ _) ?_
    rw [Nat.div_lt_iff_lt_mul (Nat.pow_pos (by decide)), Nat.mul_comm, ← pow_word, ← hk]
    exact hn
  have h4 : l[q] + c * 256 ^ r < 18446744073709551616 := by
    have e : (18446744073709551616 : Nat) = 256 ^ r * 256 ^ (8 - r) := by rw [← Nat.pow_add, show r + (8 - r) = 8 by omega]
    have e2 : 256 ≤ 256 ^ (8 - r) := by
      have := Nat.pow_le_pow_right (n := 256) (by decide) (show 1 ≤ 8 - r by omega)
      simpa using this
    have e3 : 256 ^ r * 256 ≤ 18446744073709551616 := by rw [e]; exact Nat.mul_le_mul_left _ e2
    have e4 : c * 256 ^ r ≤ 255 * 256 ^ r := Nat.mul_le_mul_right _ (by omega)
    omega
  refine ⟨h3, h4, ?_⟩
  have h2 := lw_set l q (l[q] + c * 256 ^ r) hq
  have e5 : (l[q] + c * 256 ^ r) * 18446744073709551616 ^ q = l[q] * 18446744073709551616 ^ q + 256 ^ k * c := by
    rw [Nat.add_mul, hk, pow_word, Nat.mul_comm c, Nat.mul_right_comm, Nat.mul_comm (256 ^ r)]
  rw [e5, hl] at h2
  omega

theorem le_take {zs : List Nat} {k : Nat} (h : k < zs.length) : le (zs.take (k + 1)) = le (zs.take k) + 256 ^ k * zs[k] := by
  rw [List.take_succ_eq_append_getElem h, le_append, List.length_take, Nat.min_eq_left (by omega), le, le, Nat.mul_zero, Nat.add_zero]
theorem le_take_lt {zs : List Nat} (hz : ∀ x ∈ zs, x < 256) {k : Nat} (h : k ≤ zs.length) : le (zs.take k) < 256 ^ k := by
  have := le_lt (zs.take k) fun x hx => hz x (List.mem_of_mem_take hx)
  rwa [List.length_take, Nat.min_eq_left h] at this

/-- Bits that don't meet. -/
theorem or_add {x c r : Nat} (hx : x < 256 ^ r) : x ||| c * 256 ^ r = x + c * 256 ^ r := by
  rw [show (256 : Nat) = 2 ^ 8 from rfl, ← Nat.pow_mul] at hx ⊢
  rw [Nat.or_comm, Nat.mul_comm, ← Nat.two_pow_add_eq_or_of_lt hx, Nat.add_comm]

end Pl
end Go.Proofs.Ytgeldhdijochdaa
/- @@NUM 26 The walk of residue's Of: a number out of 32 bytes. Conditions: none. -/
namespace Go.Proofs.Ytgeldhdijochdaa
set_option linter.unusedVariables false
set_option linter.unusedSimpArgs false
open Go Go.RowKit
open Pl (V W4 T256 le lw)

/-- Words as values. -/
def u64s (l : List Nat) : Array Value := (l.map fun (z : Nat) => .int .u64 (z : Int)).toArray

set_option maxHeartbeats 4000000 in
theorem Of_fact (zs : List Nat) (hz : ∀ x ∈ zs, x < 256) (h32 : zs.length = 32) : ∃ r0 r1 r2 r3 : Nat, (W4 r0 r1 r2 r3 ∧ V r0 r1 r2 r3 = le zs) ∧ ∀ (sv : Value) (w : World), Bts w.heap.size w sv zs →
    Calls Try.prog 39 #[sv] w fun e w' => e = .returned (.tuple #[.agg #[.int .u64 r0, .int .u64 r1, .int .u64 r2, .int .u64 r3], .int .i64 0]) ∧ Below w.heap.size w w' := by
  obtain ⟨r0, r1, r2, r3, hr, hrv⟩ := Pl.words (le zs) (by have h := Pl.le_lt zs hz; rw [h32] at h; exact Nat.lt_of_lt_of_eq h (by decide +kernel))
  refine ⟨r0, r1, r2, r3, ⟨hr, hrv⟩, fun sv w hI => ?_⟩
  rcases hI with ⟨rfl, rfl⟩ | ⟨x, cap, rfl, hb, hcs⟩
  · cases h32
  rw [h32] at hcs ⊢
  have HCS := Lib.hid hcs; have HXB := Lib.hid hb
  have HR := Lib.hid hr; have HV := Lib.hid hrv
  clear hcs hb hr hrv
  go_enter Try.func39, Try.ntmps39
  go_wp2
  go_loopg [13] 32 (fun kq v13 wr => ∃ (k : Nat) (ws : List Nat), v13 = .int .i64 k ∧ Hid (kq + k = 32) ∧ Hid (ws.length = 4 ∧ (∀ y ∈ ws, y < 18446744073709551616) ∧ lw ws = le (zs.take k)) ∧ Hid (wr.heap[w.heap.size + 1]? = some (.cells (u64s ws) 26 (0, 0))) ∧ Hid (wr.heap[w.heap.size]? = some (.cells #[.int .u64 0, .int .u64 0, .int .u64 0, .int .u64 0] 26 (0, 0))) ∧ Hid (Below w.heap.size w wr))
  case atStart => exact ⟨0, [0, 0, 0, 0], rfl, rfl, ⟨rfl, by decide, rfl⟩, heap_new' (by simp) _, heap_old (heap_new _ _) _, ((Below.refl _ w).alloc (Nat.le_refl _) _).alloc (by simp) _⟩
  case round =>
    obtain ⟨k, ws, rfl, HK, HW, HO, HR0, HB⟩ := hrel
    rcases gk with _ | kq
    · obtain rfl : k = 32 := by have := HK.out; omega
      obtain ⟨o0, o1, o2, o3, rfl⟩ : ∃ o0 o1 o2 o3, ws = [o0, o1, o2, o3] := by
        have h := HW.out.1
        match ws, h with
        | [a, b, c, d], _ => exact ⟨a, b, c, d, rfl⟩
      have h := HW.out.2
      rw [Pl.lw_four, show zs.take 32 = zs by rw [← h32]; exact List.take_length] at h
      obtain ⟨rfl, rfl, rfl, rfl⟩ := Pl.V_inj (by unfold W4; exact ⟨h.1 _ (by simp), h.1 _ (by simp), h.1 _ (by simp), h.1 _ (by simp)⟩) HR.out (h.2.trans HV.out.symm)
      clear h
      have hO : wr.heap[w.heap.size + 1]? = some (.cells #[.int .u64 o0, .int .u64 o1, .int .u64 o2, .int .u64 o3] 26 (0, 0)) := HO.out
      have cO := cells4 hO; have cR := cells4 HR0.out; have fR := frozen_of HR0.out
      have hK := set4 HR0.out (.int .u64 o0) (.int .u64 o1) (.int .u64 o2) (.int .u64 o3)
      have hL := set4_below HB.out (b := w.heap.size) (by omega) (.int .u64 o0) (.int .u64 o1) (.int .u64 o2) (.int .u64 o3)
      have hQ := cells4 hK
      go_wp2
      exact bodyPost_ret (v := .tuple #[.agg #[.int .u64 o0, .int .u64 o1, .int .u64 o2, .int .u64 o3], .int .i64 0]) (by simp [results, Try.results39, go_sem, hQ]) rfl ⟨rfl, hL⟩
    · have hk : k < 32 := by have := HK.out; omega
      have hq : k / 8 < ws.length := by rw [HW.out.1]; omega
      obtain ⟨c, hc⟩ : ∃ c, zs[k]'(by omega) = c := ⟨_, rfl⟩
      have hc256 : c < 256 := by rw [← hc]; exact hz _ (List.getElem_mem _)
      obtain ⟨y, hy⟩ : ∃ y, ws[k / 8] = y := ⟨_, rfl⟩
      obtain ⟨hy1, hy2, hy3⟩ := Pl.lw_byte (k := k) (r := k % 8) (c := c) (n := le (zs.take k)) (by omega) (Nat.mod_lt _ (by omega)) hq HW.out.2.1 hc256 (Pl.le_take_lt hz (by omega)) HW.out.2.2
      rw [hy] at hy1 hy2 hy3
      have hor := Pl.or_add (c := c) hy1
      rw [← hc, ← Pl.le_take (by omega)] at hy3
      have hcx : wr.cell? (x.add k) = some (.int .u8 (c : Int)) := by
        rw [HB.out.cell (p := x.add k) (by rw [add_block]; exact HXB.out), HCS.out k hk, List.getElem?_eq_getElem (by omega), Option.getD_some, hc]
      have hcy : wr.cell? ⟨w.heap.size + 1, k / 8, none⟩ = some (.int .u64 (y : Int)) := cell_at HO.out (by simp [u64s, hq, hy])
      have fO := frozen_of HO.out
      have cw : IntKind.u64.wrap (c : Int) = (c : Int) := by rw [IntKind.wrap_u64]; omega
      have HN : Hid (lw (ws.set (k / 8) (y + c * 256 ^ (k % 8))) = le (zs.take (k + 1)) ∧ y + c * 256 ^ (k % 8) < 18446744073709551616) := ⟨by rw [hc] at hy3; exact hy3, hy2⟩
      have hval : bits .or .u64 (y : Int) (IntKind.u64.wrap ((c : Int) * 2 ^ (8 * (k % 8)))) = ((y + c * 256 ^ (k % 8) : Nat) : Int) := by
        have e : ((c : Int) * 2 ^ (8 * (k % 8))) = ((c * 256 ^ (k % 8) : Nat) : Int) := by
          rw [show (256 : Nat) = 2 ^ 8 from rfl, ← Nat.pow_mul]
          generalize 8 * (k % 8) = m
          push_cast; rfl
        rw [e, ← hor]
        have h1 : IntKind.u64.wrap ((c * 256 ^ (k % 8) : Nat) : Int) = ((c * 256 ^ (k % 8) : Nat) : Int) := by rw [IntKind.wrap_u64]; omega
        rw [h1, bits_or_u64_nat _ _ (by omega) (by omega)]
      obtain ⟨y2, hy4⟩ : ∃ y2, y + c * 256 ^ (k % 8) = y2 := ⟨_, rfl⟩
      rw [hy4] at hval HN
      have hset : (u64s ws).setIfInBounds (k / 8) (.int .u64 (y2 : Int)) = u64s (ws.set (k / 8) y2) := by simp [u64s, List.map_set]
      have HOR := Lib.hid hval
      clear hy3 hy2 hor hy4 hval hy1
      go_wp2
      go_region
      go_wp2
      rw [HOR.out]
      go_roundg kq
      case measure => exact Nat.lt_succ_self kq
      case rel =>
        have hW := HW.out; have hN := HN.out
        refine ⟨k + 1, ws.set (k / 8) y2, by simp, (by have := HK.out; omega : kq + (k + 1) = 32), ⟨by rw [List.length_set]; exact hW.1, fun z hz => ?_, hN.1⟩, ?_, heap_drew (heap_set_ne HR0.out (by simp) _), (HB.out.setCell (p := ⟨w.heap.size + 1, k / 8, none⟩) (by simp) _).drew⟩
        · rcases List.mem_or_eq_of_mem_set hz with h | rfl
          · exact hW.2.1 _ h
          · exact hN.2
        · rw [← hset]; exact heap_drew (heap_set HO.out _)

end Go.Proofs.Ytgeldhdijochdaa
/- The machine's contracts of residue's Of and Bytes. Conditions: none. -/
namespace Go.Proofs.Ytgeldhdijochdaa
set_option linter.unusedVariables false
set_option linter.unusedSimpArgs false
open Go Go.RowKit
set_option maxHeartbeats 2000000 in
theorem Of_badE (a : Option Addr) (len cap : Nat) (hl : len ≤ 1048576) (hn : len ≠ 32) (w : World) : Calls Try.prog 39 #[.slice a len cap] w fun e w' => e = .returned (.tuple #[.agg #[.int .u64 0, .int .u64 0, .int .u64 0, .int .u64 0], .int .i64 3]) ∧ Below w.heap.size w w' := by
  have h1 : ¬ ((len : Int) = 32) := by omega
  go_enter Try.func39, Try.ntmps39
  go_wp2
  refine bodyPost_ret (v := .tuple #[.agg #[.int .u64 0, .int .u64 0, .int .u64 0, .int .u64 0], .int .i64 3]) (by simp [results, Try.results39, go_sem]) rfl ⟨rfl, ?_⟩
  go_grown
end Go.Proofs.Ytgeldhdijochdaa
namespace Go.Proofs.Ytgeldhdijochdaa.Am
open Go Go.RowKit
open Pl (V W4 T256 pP le byteAt)
set_option linter.unusedSectionVars false
section
variable [GT]
/-- The number of bytes, the lowest one first. -/
def leI (l : List Int) : Nat := le (l.map Int.toNat)
/-- A number's bytes. -/
def byI (a : Nat) : List Int := keyL 32 fun i => (byteAt (a % T256) i : Nat)
def nE (pre : List Int → Prop) (N : List Int → Nat) (E : Int) : List CB → Option BR
  | [.sl .u8 l] => some { pre := pre l, val := .tup [.one (.num (N l)), .one (.v (.int .i64 E))] }
  | _ => none
theorem readBs_sl {R G : Nat → Option Blk} {args : List SV} {cbs : List CB} {ms : List Nat} {ks : List Seg} {p : Asm} (h : readBs R G 0 [.sl .u8] args = some (cbs, ms, ks, p)) : ∃ x l p', args = [.av (.one x)] ∧ cbs = [.sl .u8 l] ∧ readSl false R .u8 x = some (l, p') ∧ (p.holds → p'.holds) ∧ ms = [] := by
  match args, h with
  | [], h => simp [readBs] at h
  | [.tup _], h => simp [readBs, readB] at h
  | [.av (.agg _)], h => simp [readBs, readB] at h
  | [.av (.one x)], h =>
    simp only [readBs, readB] at h
    cases hx : readSl false R .u8 x with
    | none => rw [hx] at h; cases h
    | some y =>
      obtain ⟨l, p'⟩ := y
      rw [hx] at h
      simp only [Option.some.injEq, Prod.mk.injEq] at h
      obtain ⟨rfl, rfl, _, rfl⟩ := h
      exact ⟨x, l, p', rfl, rfl, hx, fun hp => hp.1, rfl⟩
  | x :: _ :: _, h =>
    simp only [readBs] at h
    split at h
    · cases h
    · cases h
theorem ok_nE {f : FuncId} (hf : ∃ fn, Try.prog.funcs[f]? = some fn ∧ (fn.name == "runtime.NumGoroutine") = false ∧ fn.body.isSome = true) {pre : List Int → Prop} {N : List Int → Nat} {E : Int} (h : ∀ (l : List Int) (a : Option Addr) (cap : Nat) (w : World), pre l → RowAt w ⟨a, cap⟩ .u8 l → Calls Try.prog f #[.slice a l.length cap] w fun e w' => e = .returned (.tuple #[SV.conc (fun _ => ⟨none, 0⟩) (.av (.one (.num (N l)))), .int .i64 E]) ∧ Below w.heap.size w w') : EntOK Try.prog f (entB [.sl .u8] (nE pre N E)) := by
  refine ⟨hf, fun args G base res hr ha ρ D N' M w hG hin hfr => ?_⟩
  unfold entB at hr
  split at hr
  rotate_left
  · cases hr
  rename_i cbs ms ks p hread
  split at hr
  rotate_left
  · cases hr
  rename_i r hnd hF
  simp only [Option.some.injEq] at hr
  subst hr
  obtain ⟨hap, har⟩ := ha
  have har : r.pre := har
  obtain ⟨x, l, p', rfl, rfl, hx, hp', rfl⟩ := readBs_sl hread
  unfold nE at hF
  simp only [Option.some.injEq] at hF
  subst hF
  have hGR : HR ρ D N' M (hide G (msOf [.sl .u8] [.av (.one x)])) w := hG.weaken fun id b hb => (hide_some hb).1
  obtain ⟨lc, hrow, _, hcv⟩ := readSl_spec hGR hx (hp' hap)
  have hc : x.conc ρ = .slice lc.a l.length lc.cap := by
    rw [← (hcv (fun _ => lc) 0 rfl).2]
    simp only [Seg.conc, radr, Nat.sub_zero]
    congr 1
    cases lc.a <;> simp [Addr.add]
  have hcall := h l lc.a lc.cap w har hrow
  have e : ([SV.av (.one x)].map (SV.conc ρ)).toArray = #[.slice lc.a l.length lc.cap] := by
    simp only [List.map_cons, List.map_nil, SV.conc, AV.conc, hc]
  rw [e]
  exact ent_val hcall hG rfl rfl rfl
theorem leI_eq (l : List Int) : leI l = le (l.map Int.toNat) := rfl
theorem bts_of {w : World} {a : Option Addr} {cap : Nat} {l : List Int} (h : RowAt w ⟨a, cap⟩ .u8 l) (hb : isBs l) (hl : l.length = 32) : Bts w.heap.size w (.slice a l.length cap) (l.map Int.toNat) := by
  obtain ⟨_, h2, h3⟩ := h
  rcases h2 with rfl | ⟨x, rfl, hc⟩
  · simp at hl
  · refine .inr ⟨x, cap, by rw [List.length_map], h3 x rfl, fun j hj => ?_⟩
    rw [List.length_map] at hj
    have hz := hb l[j] (List.getElem_mem hj)
    refine hc j _ ?_
    rw [List.getElem?_map, List.getElem?_map, List.getElem?_eq_getElem hj]
    simp only [Option.map_some, Option.getD_some, Option.some.injEq, Value.int.injEq, true_and]
    omega
/-- 32 bytes. -/
def is32 (l : List Int) : Prop := l.length = 32 ∧ isBs l
theorem of_ent : EntOK Try.prog 39 (entB [.sl .u8] (nE is32 leI 0)) := ok_nE (has Try.func39 (by kernel_rfl) (by kernel_rfl)) fun l a cap w hl hrow => by
  obtain ⟨r0, r1, r2, r3, ⟨hw, hv⟩, hc⟩ := Of_fact (l.map Int.toNat) (fun x hx => by
    obtain ⟨z, hz, rfl⟩ := List.mem_map.1 hx
    have := hl.2 z hz
    omega) (by rw [List.length_map]; exact hl.1)
  have := hc _ w (bts_of hrow hl.2 hl.1)
  rw [num_of (fun _ => ⟨none, 0⟩) hw hv] at this
  exact this
theorem ofbad_ent : EntOK Try.prog 39 (entB [.sl .u8] (nE (fun l => l.length ≠ 32 ∧ l.length ≤ 1048576) (fun _ => 0) 3)) := ok_nE (has Try.func39 (by kernel_rfl) (by kernel_rfl)) fun l a cap w hl hrow => Of_badE a l.length cap hl.2 hl.1 w
theorem leI_lt {l : List Int} (h : is32 l) : leI l < T256 := by
  unfold leI
  have := Pl.le_lt (l.map Int.toNat) (fun x hx => by
    obtain ⟨z, hz, rfl⟩ := List.mem_map.1 hx
    have := h.2 z hz
    omega)
  rw [List.length_map, h.1] at this
  exact Nat.lt_of_lt_of_eq this (by decide +kernel)
/-- A number's bytes, as a new row. -/
def eBy : Ent := fun args _ base => match args with
  | [.av (.one (.num a))] => some { val := .av (.one (.r (base + 0) 0 32 0)), new := [⟨1, 5, [.arr .u8 (byI a)]⟩] }
  | _ => none
theorem byI_vals (a : Nat) (ρ : Nat → Loc) : segsVals ρ [.arr .u8 (byI a)] = u8s (Pl.bytesOf 32 (a % T256)) := by
  rw [segsVals_one]
  show (byI a).map (Value.int .u8) = _
  unfold byI keyL u8s Pl.bytesOf
  rw [upTo_range, List.map_map, List.map_map, List.map_map]
  exact List.map_congr_left fun i _ => by simp only [Function.comp_apply, Nat.zero_add]
theorem by_ent : EntOK Try.prog 16 eBy := by
  refine ⟨has Try.func16 (by kernel_rfl) (by kernel_rfl), fun args G base res hr ha ρ D N M w hG hin hfr => ?_⟩
  unfold eBy at hr
  split at hr
  · rename_i a
    simp only [Option.some.injEq] at hr
    subst hr
    have hc := Bytes_fact _ _ _ _ (wd4 a) w
    rw [wdV] at hc
    exact ent_row hc hG (hfr base (Nat.le_refl _) (by simp)) rfl rfl (fun s hs => (by simp at hs; subst hs; trivial)) (byI_vals a ρ) rfl
  · cases hr
end
end Go.Proofs.Ytgeldhdijochdaa.Am
/- The curve's functions on numbers, as the machine reckons with them. Conditions: none. -/
namespace Go.Proofs.Ytgeldhdijochdaa.Am
set_option linter.unusedVariables false
set_option linter.unusedSimpArgs false
open Go Go.RowKit
open Pl (pP T256)
set_option linter.unusedSectionVars false
section
variable [GT]
/-- A function of values to a value, under a condition. -/
def vEnt (F : List SV → Option (SV × Asm)) : Ent := fun args _ _ => match F args with
  | some (v, p) => some { val := v, asm := p }
  | none => none
theorem ok_V {O : List (Nat × Ent)} (hO : OOK Try.prog O) {f : FuncId} {fn : Func} (hf : Try.prog.funcs[f]? = some fn) (hname : (fn.name == "runtime.NumGoroutine") = false) (hbs : fn.body.isSome = true) {F : List SV → Option (SV × Asm)} (h : ∀ args v p, F args = some (v, p) → p.holds → ∃ H LH fuel ps, wholeV tyT O H LH fuel fn args = some (v, ps) ∧ AllP ps ∧ args.all (svB fun _ => false) = true ∧ svB (fun _ => false) v = true ∧ Nat.ble args.length fn.ntmps = true) : EntOK Try.prog f (vEnt F) := by
  refine ⟨has hf hname hbs, fun args G base res hr ha ρ D N M w hG hin hfr => ?_⟩
  unfold vEnt at hr
  split at hr
  · rename_i v p hF
    simp only [Option.some.injEq] at hr
    subst hr
    obtain ⟨H, LH, fuel, ps, hrun, hps, hb, hv, hlen⟩ := h args v p hF ha
    exact ent_val (am_val tyT_ok hO mixed_ hf hlen hrun hps hb hv ρ w hG.gwc) hG rfl rfl rfl
  · cases hr
def nu (n : Nat) : SV := .av (.one (.num n))
def bo (b : Bool) : SV := .av (.one (.v (.bool b)))
def pt2 (x y : Nat) : SV := .av (.agg [.num x, .num y])
/-- A place: a point with a divisor, and its product. -/
structure P4 where
  x : Nat
  y : Nat
  z : Nat
  t : Nat
def p4 (p : P4) : SV := .av (.agg [.num p.x, .num p.y, .num p.z, .num p.t])
def nFac : Nat := nPro [nSub 0 121665, nInv 121666]
def nTwice : Nat := nSum [nFac, nFac]
def nOA (y : Nat) : Nat := nPro [nSub (nPro [y, y]) 1, nInv (nSum [nPro [nFac, nPro [y, y]], 1])]
def nBy : Nat := nPro [4, nInv 5]
noncomputable def nBx : Nat := nRoot (nOA nBy)
def pAdd' (a b c d : Nat) : P4 := ⟨nPro [nSub b a, nSub d c], nPro [nSum [d, c], nSum [b, a]], nPro [nSub d c, nSum [d, c]], nPro [nSub b a, nSum [b, a]]⟩
def pAdd (d : Nat) (p q : P4) : P4 := pAdd' (nPro [nSub p.y p.x, nSub q.y q.x]) (nPro [nSum [p.y, p.x], nSum [q.y, q.x]]) (nPro [p.t, d, q.t]) (nPro [p.z, q.z, 2])
def pFar (x y : Nat) : P4 := ⟨x, y, 1, nPro [x, y]⟩
def nGood (x y : Nat) : Bool := nLess x pP && (nLess y pP && numEq (nSub (nPro [y, y]) (nPro [x, x])) (nSum [1, nPro [nFac, nPro [x, x], nPro [y, y]]]))
noncomputable def cvO1 : List (Nat × Ent) := [(23, e2N nSub), (43, eLN 26 nSum), (22, eLN 26 nPro), (45, e1N nInv), (58, eRoot), (40, e2B nLess), (41, e0N pP), (28, e1B nZero)]
theorem cvO1_ok : OOK Try.prog cvO1 := ook_of (l := [(23, e2N nSub), (43, eLN 26 nSum), (22, eLN 26 nPro), (45, e1N nInv), (58, eRoot), (40, e2B nLess), (41, e0N pP), (28, e1B nZero)]) ⟨Sub_ent, Add_ent, Mul_ent, Inverse_ent, Root_ent, Less_ent, Prime_ent, Zero_ent, trivial⟩
def vone : List SV → Option (SV × Asm)
  | [] => some (.av (.one (.num 1)), .tt)
  | _ => none
theorem one_ent : EntOK Try.prog 44 (vEnt vone) := ok_V cvO1_ok Try.func44 (by kernel_rfl) (by kernel_rfl) fun args v p hF hp => by
  unfold vone at hF
  split at hF
  · simp only [Option.some.injEq, Prod.mk.injEq] at hF
    obtain ⟨rfl, rfl⟩ := hF
    exact ⟨fun _ _ => {}, [], 2000, [], by kernel_rfl, trivial, by kernel_rfl, by kernel_rfl, by kernel_rfl⟩
  · cases hF
def vfac : List SV → Option (SV × Asm)
  | [] => some (.av (.one (.num nFac)), .tt)
  | _ => none
theorem fac_ent : EntOK Try.prog 54 (vEnt vfac) := ok_V cvO1_ok Try.func54 (by kernel_rfl) (by kernel_rfl) fun args v p hF hp => by
  unfold vfac at hF
  split at hF
  · simp only [Option.some.injEq, Prod.mk.injEq] at hF
    obtain ⟨rfl, rfl⟩ := hF
    exact ⟨fun _ _ => {}, [], 2000, [], by kernel_rfl, trivial, by kernel_rfl, by kernel_rfl, by kernel_rfl⟩
  · cases hF
noncomputable def cvO2 : List (Nat × Ent) := [(44, vEnt vone), (54, vEnt vfac), (23, e2N nSub), (43, eLN 26 nSum), (22, eLN 26 nPro), (45, e1N nInv), (58, eRoot), (40, e2B nLess), (41, e0N pP), (28, e1B nZero)]
theorem cvO2_ok : OOK Try.prog cvO2 := ook_of (l := [(44, vEnt vone), (54, vEnt vfac), (23, e2N nSub), (43, eLN 26 nSum), (22, eLN 26 nPro), (45, e1N nInv), (58, eRoot), (40, e2B nLess), (41, e0N pP), (28, e1B nZero)]) ⟨one_ent, fac_ent, Sub_ent, Add_ent, Mul_ent, Inverse_ent, Root_ent, Less_ent, Prime_ent, Zero_ent, trivial⟩
def vopen : List SV → Option (SV × Asm)
  | [] => some (.av (.one (.num nTwice)), .tt)
  | _ => none
theorem open_ent : EntOK Try.prog 35 (vEnt vopen) := ok_V cvO2_ok Try.func35 (by kernel_rfl) (by kernel_rfl) fun args v p hF hp => by
  unfold vopen at hF
  split at hF
  · simp only [Option.some.injEq, Prod.mk.injEq] at hF
    obtain ⟨rfl, rfl⟩ := hF
    exact ⟨fun _ _ => {}, [], 2000, [], by kernel_rfl, trivial, by kernel_rfl, by kernel_rfl, by kernel_rfl⟩
  · cases hF
def vnaught : List SV → Option (SV × Asm)
  | [] => some (.av (.agg [.num 0, .num 1]), .tt)
  | _ => none
theorem naught_ent : EntOK Try.prog 19 (vEnt vnaught) := ok_V cvO2_ok Try.func19 (by kernel_rfl) (by kernel_rfl) fun args v p hF hp => by
  unfold vnaught at hF
  split at hF
  · simp only [Option.some.injEq, Prod.mk.injEq] at hF
    obtain ⟨rfl, rfl⟩ := hF
    exact ⟨fun _ _ => {}, [], 2000, [], by kernel_rfl, trivial, by kernel_rfl, by kernel_rfl, by kernel_rfl⟩
  · cases hF
def vfar : List SV → Option (SV × Asm)
  | [.av (.agg [.num x, .num y])] => some (p4 (pFar x y), .tt)
  | _ => none
theorem far_ent : EntOK Try.prog 36 (vEnt vfar) := ok_V cvO2_ok Try.func36 (by kernel_rfl) (by kernel_rfl) fun args v p hF hp => by
  unfold vfar at hF
  split at hF
  · simp only [Option.some.injEq, Prod.mk.injEq] at hF
    obtain ⟨rfl, rfl⟩ := hF
    exact ⟨fun _ _ => {}, [], 2000, [], by kernel_rfl, trivial, by kernel_rfl, by kernel_rfl, by kernel_rfl⟩
  · cases hF
def vnear : List SV → Option (SV × Asm)
  | [.av (.agg [.num x, .num y, .num z, .num t])] => some (.av (.agg [.num (nPro [x, nInv z]), .num (nPro [y, nInv z])]), .tt)
  | _ => none
theorem near_ent : EntOK Try.prog 38 (vEnt vnear) := ok_V cvO2_ok Try.func38 (by kernel_rfl) (by kernel_rfl) fun args v p hF hp => by
  unfold vnear at hF
  split at hF
  · simp only [Option.some.injEq, Prod.mk.injEq] at hF
    obtain ⟨rfl, rfl⟩ := hF
    exact ⟨fun _ _ => {}, [], 2000, [], by kernel_rfl, trivial, by kernel_rfl, by kernel_rfl, by kernel_rfl⟩
  · cases hF
noncomputable def vother : List SV → Option (SV × Asm)
  | [.av (.one (.num y))] => some (.tup [.one (.num (nRoot (nOA y))), .one (.v (.bool (nIsSq (nOA y))))], .tt)
  | _ => none
theorem other_ent : EntOK Try.prog 42 (vEnt vother) := ok_V cvO2_ok Try.func42 (by kernel_rfl) (by kernel_rfl) fun args v p hF hp => by
  unfold vother at hF
  split at hF
  · simp only [Option.some.injEq, Prod.mk.injEq] at hF
    obtain ⟨rfl, rfl⟩ := hF
    exact ⟨fun _ _ => {}, [], 2000, [], by kernel_rfl, trivial, by kernel_rfl, by kernel_rfl, by kernel_rfl⟩
  · cases hF
def vminusP : List SV → Option (SV × Asm)
  | [.av (.agg [.num x, .num y])] => some (.av (.agg [.num (nSub 0 x), .num y]), .tt)
  | _ => none
theorem minusP_ent : EntOK Try.prog 29 (vEnt vminusP) := ok_V cvO2_ok Try.func29 (by kernel_rfl) (by kernel_rfl) fun args v p hF hp => by
  unfold vminusP at hF
  split at hF
  · simp only [Option.some.injEq, Prod.mk.injEq] at hF
    obtain ⟨rfl, rfl⟩ := hF
    exact ⟨fun _ _ => {}, [], 2000, [], by kernel_rfl, trivial, by kernel_rfl, by kernel_rfl, by kernel_rfl⟩
  · cases hF
def vmont : List SV → Option (SV × Asm)
  | [.av (.agg [.num x, .num y])] => some (.av (.one (.num (nPro [nSum [1, y], nInv (nSub 1 y)]))), .tt)
  | _ => none
theorem mont_ent : EntOK Try.prog 17 (vEnt vmont) := ok_V cvO2_ok Try.func17 (by kernel_rfl) (by kernel_rfl) fun args v p hF hp => by
  unfold vmont at hF
  split at hF
  · simp only [Option.some.injEq, Prod.mk.injEq] at hF
    obtain ⟨rfl, rfl⟩ := hF
    exact ⟨fun _ _ => {}, [], 2000, [], by kernel_rfl, trivial, by kernel_rfl, by kernel_rfl, by kernel_rfl⟩
  · cases hF
def vaddP : List SV → Option (SV × Asm)
  | [.av (.one (.num d)), .av (.agg [.num x, .num y, .num z, .num t]), .av (.agg [.num a, .num b, .num c, .num e])] => some (p4 (pAdd d ⟨x, y, z, t⟩ ⟨a, b, c, e⟩), .tt)
  | _ => none
theorem addP_ent : EntOK Try.prog 37 (vEnt vaddP) := ok_V cvO2_ok Try.func37 (by kernel_rfl) (by kernel_rfl) fun args v p hF hp => by
  unfold vaddP at hF
  split at hF
  · simp only [Option.some.injEq, Prod.mk.injEq] at hF
    obtain ⟨rfl, rfl⟩ := hF
    exact ⟨fun _ _ => {}, [], 2000, [], by kernel_rfl, trivial, by kernel_rfl, by kernel_rfl, by kernel_rfl⟩
  · cases hF
noncomputable def cvO3 : List (Nat × Ent) := [(44, vEnt vone), (54, vEnt vfac), (35, vEnt vopen), (19, vEnt vnaught), (36, vEnt vfar), (38, vEnt vnear), (42, vEnt vother), (29, vEnt vminusP), (17, vEnt vmont), (37, vEnt vaddP), (23, e2N nSub), (43, eLN 26 nSum), (22, eLN 26 nPro), (45, e1N nInv), (58, eRoot), (40, e2B nLess), (41, e0N pP), (28, e1B nZero)]
theorem cvO3_ok : OOK Try.prog cvO3 := ook_of (l := [(44, vEnt vone), (54, vEnt vfac), (35, vEnt vopen), (19, vEnt vnaught), (36, vEnt vfar), (38, vEnt vnear), (42, vEnt vother), (29, vEnt vminusP), (17, vEnt vmont), (37, vEnt vaddP), (23, e2N nSub), (43, eLN 26 nSum), (22, eLN 26 nPro), (45, e1N nInv), (58, eRoot), (40, e2B nLess), (41, e0N pP), (28, e1B nZero)]) ⟨one_ent, fac_ent, open_ent, naught_ent, far_ent, near_ent, other_ent, minusP_ent, mont_ent, addP_ent, Sub_ent, Add_ent, Mul_ent, Inverse_ent, Root_ent, Less_ent, Prime_ent, Zero_ent, trivial⟩
noncomputable def vbase : List SV → Option (SV × Asm)
  | [] => some (.av (.agg [.num nBx, .num nBy]), .tt)
  | _ => none
theorem base_ent : EntOK Try.prog 20 (vEnt vbase) := ok_V cvO3_ok Try.func20 (by kernel_rfl) (by kernel_rfl) fun args v p hF hp => by
  unfold vbase at hF
  split at hF
  · simp only [Option.some.injEq, Prod.mk.injEq] at hF
    obtain ⟨rfl, rfl⟩ := hF
    exact ⟨fun _ _ => {}, [], 2000, [], by kernel_rfl, trivial, by kernel_rfl, by kernel_rfl, by kernel_rfl⟩
  · cases hF
def vgood : List SV → Option (SV × Asm)
  | [.av (.agg [.num x, .num y])] => some (.av (.one (.v (.bool (nGood x y)))), .tt)
  | _ => none
noncomputable abbrev fGood : Func := Try.f30
theorem gd_1 (x y : Nat) : wholeV tyT cvO3 (atH 1 4 (isB true) noH) [] 2000 fGood [.av (.agg [.num x, .num y])] = some (ofV (.bool false), [tB (!nLess x pP) true]) := by kernel_rfl
theorem gd_2 (x y : Nat) : wholeV tyT cvO3 (atH 1 4 (isB false) (atH 1 10 (isB true) noH)) [] 2000 fGood [.av (.agg [.num x, .num y])] = some (ofV (.bool false), [tB (!nLess x pP) false, tB (!nLess y pP) true]) := by kernel_rfl
theorem gd_3 (x y : Nat) : wholeV tyT cvO3 (atH 1 4 (isB false) (atH 1 10 (isB false) noH)) [] 2000 fGood [.av (.agg [.num x, .num y])] = some (ofV (.bool (numEq (nSub (nPro [y, y]) (nPro [x, x])) (nSum [1, nPro [nFac, nPro [x, x], nPro [y, y]]]))), [tB (!nLess x pP) false, tB (!nLess y pP) false]) := by kernel_rfl
theorem good_ent : EntOK Try.prog 30 (vEnt vgood) := ok_V cvO3_ok Try.func30 (by kernel_rfl) (by kernel_rfl) fun args v p hF hp => by
  unfold vgood at hF
  split at hF
  · rename_i x y
    simp only [Option.some.injEq, Prod.mk.injEq] at hF
    obtain ⟨rfl, rfl⟩ := hF
    unfold nGood
    cases h1 : nLess x pP
    · exact ⟨_, _, _, _, gd_1 x y, ⟨tB_iff.2 (by rw [h1]; rfl), trivial⟩, by kernel_rfl, by kernel_rfl, by kernel_rfl⟩
    · cases h2 : nLess y pP
      · exact ⟨_, _, _, _, gd_2 x y, ⟨tB_iff.2 (by rw [h1]; rfl), tB_iff.2 (by rw [h2]; rfl), trivial⟩, by kernel_rfl, by kernel_rfl, by kernel_rfl⟩
      · exact ⟨_, _, _, _, gd_3 x y, ⟨tB_iff.2 (by rw [h1]; rfl), tB_iff.2 (by rw [h2]; rfl), trivial⟩, by kernel_rfl, by kernel_rfl, by kernel_rfl⟩
  · cases hF
end
end Go.Proofs.Ytgeldhdijochdaa.Am
/- Words of 64 bits as numbers (plain law). Conditions: none. -/
namespace Go.Proofs.Ytgeldhdijochdaa.Am
set_option linter.unusedVariables false
set_option linter.unusedSimpArgs false
open Go
theorem wU_def (z : Int) : IntKind.wrap .u64 z = z % 18446744073709551616 := by
  simp [IntKind.wrap, IntKind.signed, IntKind.bits]
theorem wU {z : Int} (h0 : 0 ≤ z) (h1 : z < 18446744073709551616) : IntKind.wrap .u64 z = z := by
  rw [wU_def]
  exact Int.emod_eq_of_lt h0 h1
/-- In a word's range. -/
def inU (z : Int) : Prop := 0 ≤ z ∧ z < 18446744073709551616
theorem wU_in (z : Int) : inU (IntKind.wrap .u64 z) := by
  rw [wU_def]
  exact ⟨by omega, by omega⟩
def V64 (z : Int) : BitVec 64 := BitVec.ofInt 64 z
theorem toNat_wU (v : BitVec 64) : IntKind.wrap .u64 (v.toNat : Int) = v.toNat := by
  have := v.isLt
  exact wU (by omega) (by omega)
theorem V64_toNat (v : BitVec 64) : V64 (v.toNat : Int) = v := by
  unfold V64
  rw [BitVec.ofInt_natCast, BitVec.ofNat_toNat, BitVec.setWidth_eq]
theorem toNat_V64 {z : Int} (h : inU z) : ((V64 z).toNat : Int) = z := by
  obtain ⟨h0, h1⟩ := h
  unfold V64
  rw [BitVec.toNat_ofInt]
  omega
theorem toNat_V64n {a : Nat} (h : a < 18446744073709551616) : (V64 (a : Int)).toNat = a := by
  have := toNat_V64 (z := (a : Int)) ⟨by omega, by omega⟩
  omega
theorem V64_inj {a b : Int} (ha : inU a) (hb : inU b) (h : V64 a = V64 b) : a = b := by
  rw [← toNat_V64 ha, h, toNat_V64 hb]
theorem V64_wrap (z : Int) : V64 (IntKind.wrap .u64 z) = V64 z := by
  apply BitVec.eq_of_toNat_eq
  unfold V64
  rw [BitVec.toNat_ofInt, BitVec.toNat_ofInt, wU_def]
  omega
theorem V64_and (a b : Int) : V64 (iand .u64 a b) = V64 a &&& V64 b := by
  show V64 (IntKind.wrap .u64 ((V64 a &&& V64 b).toNat : Int)) = _
  rw [toNat_wU, V64_toNat]
theorem V64_or (a b : Int) : V64 (ior .u64 a b) = V64 a ||| V64 b := by
  show V64 (IntKind.wrap .u64 ((V64 a ||| V64 b).toNat : Int)) = _
  rw [toNat_wU, V64_toNat]
theorem V64_xor (a b : Int) : V64 (ixor .u64 a b) = V64 a ^^^ V64 b := by
  show V64 (IntKind.wrap .u64 ((V64 a ^^^ V64 b).toNat : Int)) = _
  rw [toNat_wU, V64_toNat]
theorem V64_sub (a b : Int) : V64 (a - b) = V64 a - V64 b := by
  unfold V64
  rw [Int.sub_eq_add_neg, BitVec.ofInt_add, BitVec.ofInt_neg]
  rw [BitVec.sub_eq_add_neg]
theorem ior_in (a b : Int) : inU (ior .u64 a b) := wU_in _
theorem iand_in (a b : Int) : inU (iand .u64 a b) := wU_in _
theorem ixor_inU (a b : Int) : inU (ixor .u64 a b) := wU_in _
theorem ishr_nat (X n : Nat) (hn : n ≤ 64) : ishr .u64 (X : Int) n = ((X / 2 ^ n : Nat) : Int) := by
  unfold ishr
  show (X : Int).fdiv (2 ^ min n 64) = _
  rw [Nat.min_eq_left (by omega)]
  have : ((2 : Int) ^ n) = ((2 ^ n : Nat) : Int) := (Int.natCast_pow 2 n).symm
  rw [this, Int.natCast_ediv, Int.fdiv_eq_ediv_of_nonneg _ (Int.natCast_nonneg _)]
theorem wB_def (z : Int) : IntKind.wrap .u8 z = z % 256 := by
  simp [IntKind.wrap, IntKind.signed, IntKind.bits]
theorem iand_nat (X Y : Nat) (hX : X < 18446744073709551616) (hY : Y < 18446744073709551616) : iand .u64 (X : Int) (Y : Int) = ((X &&& Y : Nat) : Int) := by
  refine V64_inj (iand_in _ _) ⟨by omega, ?_⟩ ?_
  · have := Nat.and_le_left (n := X) (m := Y); omega
  · rw [V64_and]
    apply BitVec.eq_of_toNat_eq
    rw [BitVec.toNat_and, toNat_V64n hX, toNat_V64n hY, toNat_V64n (Nat.lt_of_le_of_lt Nat.and_le_left hX)]
/-- A number's bit, as the machine tells it. -/
theorem bit_eq (n i : Nat) (b : Bool) : (iand .u64 (ishr .u64 ((n / 18446744073709551616 ^ (i / 64) % 18446744073709551616 : Nat) : Int) (i % 64)) 1 == 1) = n.testBit i := by
  have hr : i % 64 < 64 := Nat.mod_lt _ (by decide)
  rw [ishr_nat _ _ (by omega)]
  have hlt : n / 18446744073709551616 ^ (i / 64) % 18446744073709551616 / 2 ^ (i % 64) < 18446744073709551616 := Nat.lt_of_le_of_lt (Nat.div_le_self _ _) (Nat.mod_lt _ (by decide))
  have := iand_nat _ 1 hlt (by decide)
  rw [show ((1 : Nat) : Int) = 1 from rfl] at this
  rw [this, Nat.and_one_is_mod]
  have e : n / 18446744073709551616 ^ (i / 64) % 18446744073709551616 / 2 ^ (i % 64) % 2 = n / 2 ^ i % 2 := by
    have e1 : (18446744073709551616 : Nat) ^ (i / 64) = 2 ^ (64 * (i / 64)) := by rw [Nat.pow_mul]
    have e2 : (18446744073709551616 : Nat) = 2 ^ (i % 64) * 2 ^ (64 - i % 64) := by rw [← Nat.pow_add, show i % 64 + (64 - i % 64) = 64 by omega]
    rw [e1]
    generalize hm : n / 2 ^ (64 * (i / 64)) = m
    rw [e2, Nat.mod_mul_right_div_self, Nat.mod_mod_of_dvd _ (by
      rw [show 64 - i % 64 = (63 - i % 64) + 1 by omega, Nat.pow_succ]
      exact Nat.dvd_mul_left _ _), ← hm, Nat.div_div_eq_div_mul, ← Nat.pow_add, Nat.div_add_mod]
  rw [e, Nat.testBit_eq_decide_div_mod_eq]
  have h2 : n / 2 ^ i % 2 = 0 ∨ n / 2 ^ i % 2 = 1 := by omega
  rcases h2 with h | h <;> rw [h] <;> rfl
end Go.Proofs.Ytgeldhdijochdaa.Am
/- The curve's Times and Add. Conditions: none. -/
namespace Go.Proofs.Ytgeldhdijochdaa.Am
set_option linter.unusedVariables false
set_option linter.unusedSimpArgs false
open Go Go.RowKit
open Pl (pP T256)
set_option linter.unusedSectionVars false
section
variable [GT]
noncomputable abbrev fTm : Func := Try.f13
noncomputable def tmO : List (Nat × Ent) := [(37, vEnt vaddP), (35, vEnt vopen), (36, vEnt vfar), (19, vEnt vnaught), (38, vEnt vnear)]
theorem tmO_ok : OOK Try.prog tmO := ook_of (l := [(37, vEnt vaddP), (35, vEnt vopen), (36, vEnt vfar), (19, vEnt vnaught), (38, vEnt vnear)]) ⟨addP_ent, open_ent, far_ent, naught_ent, near_ent, trivial⟩
def tmS (n : Nat) (o f : P4) (i : Int) : St := { tm := tmL 37 [(3, .av (.one (.p 0 0))), (4, .av (.one (.p 1 0))), (5, .av (.one (.p 2 0))), (6, .av (.one (.p 3 0))), (7, .av (.one (.p 4 0))), (8, ofV (.int .i64 i))], hp := [(0, ⟨0, 26, [.num n]⟩), (1, ⟨0, 28, [.num 0, .num 0]⟩), (2, ⟨0, 56, [.num nTwice]⟩), (3, ⟨0, 59, [.num o.x, .num o.y, .num o.z, .num o.t]⟩), (4, ⟨0, 59, [.num f.x, .num f.y, .num f.z, .num f.t]⟩)], nx := 5, gl := [] }
def tmE (x y : Nat) : St := { tm := tmL 37 [(4, .av (.one (.p 0 0)))], hp := [(0, ⟨0, 28, [.num x, .num y]⟩)], nx := 1, gl := [] }
def tmB (x y n : Nat) : List CB := [.av (.agg [.num x, .num y]), .av (.one (.num n))]
theorem tm_start (κ : Nat → Value) (x y n : Nat) : runF tyT tmO noH [] 0 [1, 2, 23, 27, 31] [3, 4, 5, 6, 7, 8] fTm (bA (tmB x y n) 0 0) (bH κ (tmB x y n) 0 0) 0 [] = some (toAt fTm 3 [], tmS n (pFar 0 1) (pFar x y) 255, []) := by kernel_rfl
theorem tm_one (n : Nat) (o f : P4) (i k_ : Nat) : runN tyT tmO (atH 3 1 (isB true) (atH 6 1 (isI IntKind.i64 ((i / 64 : Nat) : Int)) (atH 6 2 symH (atH 6 3 symH (atH 6 5 (isI IntKind.i64 ((i % 64 : Nat) : Int)) (atH 6 8 (isB true) (atH 4 1 (isI .i64 ((i : Int) - 1)) noH))))))) [] 2000 0 [0, 1, 2, 3, 4] [3, 4, 5, 6, 7, 8] (inAt fTm 3 [] k_) (tmS n o f i) = some (hdAt fTm 3 [] k_, tmS n (pAdd nTwice (pAdd nTwice o o) f) f ((i : Int) - 1), [tB (decide (0 ≤ (i : Int))) true, tI .i64 (IntKind.wrap IntKind.i64 (Int.tdiv (i : Int) 64)) ((i / 64 : Nat) : Int), 0 ≤ ((i / 64 : Nat) : Int) ∧ i / 64 ≤ 3, i / 64 < 4, tI .i64 (Int.tmod (i : Int) 64) ((i % 64 : Nat) : Int), tB (iand IntKind.u64 (ishr IntKind.u64 ((n / 18446744073709551616 ^ (i / 64) % 18446744073709551616 : Nat) : Int) (i % 64)) 1 == 1) true, tI .i64 (IntKind.wrap IntKind.i64 ((i : Int) - 1)) ((i : Int) - 1)]) := by kernel_rfl
theorem tm_zero (n : Nat) (o f : P4) (i k_ : Nat) : runN tyT tmO (atH 3 1 (isB true) (atH 6 1 (isI IntKind.i64 ((i / 64 : Nat) : Int)) (atH 6 2 symH (atH 6 3 symH (atH 6 5 (isI IntKind.i64 ((i % 64 : Nat) : Int)) (atH 6 8 (isB false) (atH 4 1 (isI .i64 ((i : Int) - 1)) noH))))))) [] 2000 0 [0, 1, 2, 3, 4] [3, 4, 5, 6, 7, 8] (inAt fTm 3 [] k_) (tmS n o f i) = some (hdAt fTm 3 [] k_, tmS n (pAdd nTwice o o) f ((i : Int) - 1), [tB (decide (0 ≤ (i : Int))) true, tI .i64 (IntKind.wrap IntKind.i64 (Int.tdiv (i : Int) 64)) ((i / 64 : Nat) : Int), 0 ≤ ((i / 64 : Nat) : Int) ∧ i / 64 ≤ 3, i / 64 < 4, tI .i64 (Int.tmod (i : Int) 64) ((i % 64 : Nat) : Int), tB (iand IntKind.u64 (ishr IntKind.u64 ((n / 18446744073709551616 ^ (i / 64) % 18446744073709551616 : Nat) : Int) (i % 64)) 1 == 1) false, tI .i64 (IntKind.wrap IntKind.i64 ((i : Int) - 1)) ((i : Int) - 1)]) := by kernel_rfl
theorem tm_end (n : Nat) (o f : P4) (k_ : Nat) : runN tyT tmO noH [] 2000 0 [1] [4] (inAt fTm 3 [] k_) (tmS n o f (-1)) = some ([.fin], tmE (nPro [o.x, nInv o.z]) (nPro [o.y, nInv o.z]), []) := by kernel_rfl
/-- The bits of n below i, one by one from above. -/
def tmR (n : Nat) (f : P4) : Nat → P4 → P4
  | 0, o => o
  | i + 1, o => tmR n f i (match n.testBit i with
    | true => pAdd nTwice (pAdd nTwice o o) f
    | false => pAdd nTwice o o)
def tmP (x y n : Nat) : P4 := tmR n (pFar x y) 256 (pFar 0 1)
def tmX (x y n : Nat) : Nat := nPro [(tmP x y n).x, nInv (tmP x y n).z]
def tmY (x y n : Nat) : Nat := nPro [(tmP x y n).y, nInv (tmP x y n).z]
theorem tm_rounds (n : Nat) (f : P4) : ∀ (i : Nat) (o : P4), i ≤ 256 → Reaches Try.prog 0 (hdAt fTm 3 [] (i + 1)) (tmS n o f ((i : Int) - 1)) [.fin] (tmE (nPro [(tmR n f i o).x, nInv (tmR n f i o).z]) (nPro [(tmR n f i o).y, nInv (tmR n f i o).z]))
  | 0, o, _ => Reaches.oneK (Reaches.runK tyT_ok tmO_ok mixed_ (tm_end n o f 0) trivial)
  | i + 1, o, hi => by
    have e1 : ((i + 1 : Nat) : Int) - 1 = (i : Int) := by omega
    have e2 : IntKind.wrap IntKind.i64 (Int.tdiv (i : Int) 64) = ((i / 64 : Nat) : Int) := by
      rw [Int.tdiv_eq_ediv_of_nonneg (by omega), w64 (by omega) (by omega)]
      omega
    have e3 : Int.tmod (i : Int) 64 = ((i % 64 : Nat) : Int) := by
      rw [Int.tmod_eq_emod_of_nonneg (by omega)]
      omega
    have e4 : IntKind.wrap IntKind.i64 ((i : Int) - 1) = (i : Int) - 1 := w64 (by omega) (by omega)
    have h0 : decide (0 ≤ (i : Int)) = true := decide_eq_true (by omega)
    rw [e1]
    unfold tmR
    cases hb : n.testBit i with
    | true => exact (Reaches.oneK (Reaches.runK tyT_ok tmO_ok mixed_ (tm_one n o f i (i + 1)) ⟨tB_iff.2 h0, tI_iff.2 e2, ⟨by omega, by omega⟩, by omega, tI_iff.2 e3, tB_iff.2 (by rw [bit_eq n i true]; exact hb), tI_iff.2 e4, trivial⟩)).trans (tm_rounds n f i _ (by omega))
    | false => exact (Reaches.oneK (Reaches.runK tyT_ok tmO_ok mixed_ (tm_zero n o f i (i + 1)) ⟨tB_iff.2 h0, tI_iff.2 e2, ⟨by omega, by omega⟩, by omega, tI_iff.2 e3, tB_iff.2 (by rw [bit_eq n i true]; exact hb), tI_iff.2 e4, trivial⟩)).trans (tm_rounds n f i _ (by omega))
theorem tm_go (κ : Nat → Value) (x y n : Nat) : FromK Try.prog 0 fTm (bA (tmB x y n) 0 0) (bH κ (tmB x y n) 0 0) 0 [] [.fin] (tmE (tmX x y n) (tmY x y n)) :=
  (FromK.run (m0 := 0) tyT_ok tmO_ok mixed_ (tm_start κ x y n) trivial).trans (Reaches.roundsK 257 (tm_rounds n (pFar x y) 256 (pFar 0 1) (Nat.le_refl _)))
def tmF : List CB → Option BR
  | [.av (.agg [.num x, .num y]), .av (.one (.num n))] => some { pre := True, val := .av (.agg [.num (tmX x y n), .num (tmY x y n)]) }
  | _ => none
theorem tm_ends (cbs : List CB) (r : BR) (hF : tmF cbs = some r) (hp : r.pre) : EndsB Try.prog tyT [] fTm cbs r := by
  unfold tmF at hF
  split at hF
  · rename_i x y n
    injection hF with hF
    subst hF
    intro κ
    exact ⟨[.fin], _, .av (.agg [.num (tmX x y n), .num (tmY x y n)]), [], .inr rfl, tm_go κ x y n, by kernel_rfl, by kernel_rfl, by kernel_rfl⟩
  · cases hF
noncomputable def eTimes : Ent := entB [.av, .av] tmF
theorem times_ent : EntOK Try.prog 13 eTimes :=
  ok_B tyT_ok Try.func13 (by kernel_rfl) (by kernel_rfl) [] (fun x hx => by cases hx) (by kernel_rfl) tm_ends
/-- The sum of points, as the machine runs it through. -/
noncomputable def eAddP : Ent := inl tyT tmO noH [(3, 10)] 4000 Try.f12 []
theorem eAddP_ok : EntOK Try.prog 12 eAddP := inl_ok tyT_ok tmO_ok mixed_ Try.func12 (by kernel_rfl) (by kernel_rfl) []
/-- The sum of a list of points. -/
def adP : P4 → List (Nat × Nat) → P4
  | o, [] => o
  | o, p :: l => adP (pAdd nTwice o (pFar p.1 p.2)) l
def adX (l : List (Nat × Nat)) : Nat := nPro [(adP (pFar 0 1) l).x, nInv (adP (pFar 0 1) l).z]
def adY (l : List (Nat × Nat)) : Nat := nPro [(adP (pFar 0 1) l).y, nInv (adP (pFar 0 1) l).z]
/-- Small. -/
noncomputable def smO : List (Nat × Ent) := [(13, eTimes), (19, vEnt vnaught)]
theorem smO_ok : OOK Try.prog smO := ook_of (l := [(13, eTimes), (19, vEnt vnaught)]) ⟨times_ent, naught_ent, trivial⟩
def nSmallP (x y : Nat) : Bool := numEq (tmX x y 8) 0 && (numEq (tmY x y 8) 1 && true)
end
end Go.Proofs.Ytgeldhdijochdaa.Am
/- The curve's Read, Bytes and Small. Conditions: none. -/
namespace Go.Proofs.Ytgeldhdijochdaa.Am
set_option linter.unusedVariables false
set_option linter.unusedSimpArgs false
open Go Go.RowKit
open Pl (pP T256)
set_option linter.unusedSectionVars false
set_option maxRecDepth 2000
/-- A hint: the value is a number. -/
def isN (n : Nat) : Hint := { is := some (.av (.one (.num n))) }
/-- Four words are a number's. -/
def tN (l : List Int) (n : Nat) : Prop := ∀ ρ : Nat → Loc, (SV.av (.one (.arr .u64 l))).conc ρ = (SV.av (.one (.num n))).conc ρ
theorem tN_of {l : List Int} {n : Nat} (h : l = words n) : tN l n := fun ρ => by rw [h]; rfl
/-- The words of a number without its highest bit. -/
theorem cut_word (N : Nat) (h : N < T256) : (words N).set 3 (iand .u64 ((words N).getD 3 0) 9223372036854775807) = words (N % 57896044618658097711785492504343953926634992332820282019728792003956564819968) := by
  unfold T256 at h
  have w3 : (words N).getD 3 0 = ((N / 6277101735386680763835789423207666416102355444464034512896 % 18446744073709551616 : Nat) : Int) := by
    show word N 3 = _
    unfold word
    rw [show (18446744073709551616 : Nat) ^ 3 = 6277101735386680763835789423207666416102355444464034512896 from by decide +kernel]
  have ha := iand_nat (N / 6277101735386680763835789423207666416102355444464034512896 % 18446744073709551616) 9223372036854775807 (by omega) (by decide)
  rw [show ((9223372036854775807 : Nat) : Int) = 9223372036854775807 from rfl] at ha
  rw [w3, ha, show (9223372036854775807 : Nat) = 2 ^ 63 - 1 from by decide +kernel, Nat.and_two_pow_sub_one_eq_mod]
  unfold words word
  rw [show (18446744073709551616 : Nat) ^ 0 = 1 from rfl, show (18446744073709551616 : Nat) ^ 1 = 18446744073709551616 from rfl, show (18446744073709551616 : Nat) ^ 2 = 340282366920938463463374607431768211456 from by decide +kernel, show (18446744073709551616 : Nat) ^ 3 = 6277101735386680763835789423207666416102355444464034512896 from by decide +kernel, show (2 : Nat) ^ 63 = 9223372036854775808 from by decide +kernel]
  simp only [List.set_cons_succ, List.set_cons_zero, List.cons.injEq, and_true]
  omega
theorem top_bit (N : Nat) (h : N < T256) : (ishr .u64 ((words N).getD 3 0) 63 == 1) = decide (57896044618658097711785492504343953926634992332820282019728792003956564819968 ≤ N) := by
  unfold T256 at h
  have w3 : (words N).getD 3 0 = ((N / 6277101735386680763835789423207666416102355444464034512896 % 18446744073709551616 : Nat) : Int) := by
    show word N 3 = _
    unfold word
    rw [show (18446744073709551616 : Nat) ^ 3 = 6277101735386680763835789423207666416102355444464034512896 from by decide +kernel]
  rw [w3, ishr_nat _ _ (by decide), show (2 : Nat) ^ 63 = 9223372036854775808 from by decide +kernel]
  by_cases hb : 57896044618658097711785492504343953926634992332820282019728792003956564819968 ≤ N
  · rw [decide_eq_true hb, beq_iff_eq]; omega
  · rw [decide_eq_false hb, beq_eq_false_iff_ne]; omega
section
variable [GT]
noncomputable def rdO : List (Nat × Ent) := [(39, entB [.sl .u8] (nE is32 leI 0)), (40, e2B nLess), (41, e0N pP), (28, e1B nZero), (42, vEnt vother), (29, vEnt vminusP)]
theorem rdO_ok : OOK Try.prog rdO := ook_of (l := [(39, entB [.sl .u8] (nE is32 leI 0)), (40, e2B nLess), (41, e0N pP), (28, e1B nZero), (42, vEnt vother), (29, vEnt vminusP)]) ⟨of_ent, Less_ent, Prime_ent, Zero_ent, other_ent, minusP_ent, trivial⟩
noncomputable def rdO3 : List (Nat × Ent) := [(39, entB [.sl .u8] (nE (fun l => l.length ≠ 32 ∧ l.length ≤ 1048576) (fun _ => 0) 3)), (40, e2B nLess), (41, e0N pP), (28, e1B nZero), (42, vEnt vother), (29, vEnt vminusP)]
theorem rdO3_ok : OOK Try.prog rdO3 := ook_of (l := [(39, entB [.sl .u8] (nE (fun l => l.length ≠ 32 ∧ l.length ≤ 1048576) (fun _ => 0) 3)), (40, e2B nLess), (41, e0N pP), (28, e1B nZero), (42, vEnt vother), (29, vEnt vminusP)]) ⟨ofbad_ent, Less_ent, Prime_ent, Zero_ent, other_ent, minusP_ent, trivial⟩
noncomputable abbrev fRd : Func := Try.f15
def rdE (x y : Nat) (e : Int) : St := { tm := tmL 54 [(2, .av (.one (.p 0 0))), (3, ofV (.int .i64 e))], hp := [(0, ⟨0, 28, [.num x, .num y]⟩)], nx := 1, gl := [] }
theorem rd_len (κ : Nat → Value) (l : List Int) : runF tyT rdO3 noH [] 0 [1] [2, 3] fRd (bA [.sl .u8 l] 0 0) (bH κ [.sl .u8 l] 0 0) 1 [] = some ([.fin], rdE 0 0 3, [0 + l.length ≤ l.length, (cutI l 0 l.length).length ≠ 32 ∧ (cutI l 0 l.length).length ≤ 1048576]) := by kernel_rfl
theorem rd_big (κ : Nat → Value) (l : List Int) : runF tyT rdO (atH 6 0 (isN ((leI (cutI l 0 l.length)) % 57896044618658097711785492504343953926634992332820282019728792003956564819968)) (atH 6 3 (isB true) noH)) [] 0 [1] [2, 3] fRd (bA [.sl .u8 l] 0 0) (bH κ [.sl .u8 l] 0 0) 1 [] = some ([.fin], rdE 0 0 5, [0 + l.length ≤ l.length, is32 (cutI l 0 l.length), tN ((words (leI (cutI l 0 l.length))).set 3 (iand .u64 ((words (leI (cutI l 0 l.length))).getD 3 0) 9223372036854775807)) ((leI (cutI l 0 l.length)) % 57896044618658097711785492504343953926634992332820282019728792003956564819968), tB (!nLess ((leI (cutI l 0 l.length)) % 57896044618658097711785492504343953926634992332820282019728792003956564819968) pP) true]) := by kernel_rfl
theorem rd_none (κ : Nat → Value) (l : List Int) : runF tyT rdO (atH 6 0 (isN ((leI (cutI l 0 l.length)) % 57896044618658097711785492504343953926634992332820282019728792003956564819968)) (atH 6 3 (isB false) (atH 8 0 (isN ((leI (cutI l 0 l.length)) % 57896044618658097711785492504343953926634992332820282019728792003956564819968)) (atH 9 2 (isB true) noH)))) [] 0 [1] [2, 3] fRd (bA [.sl .u8 l] 0 0) (bH κ [.sl .u8 l] 0 0) 1 [] = some ([.fin], rdE 0 0 5, [0 + l.length ≤ l.length, is32 (cutI l 0 l.length), tN ((words (leI (cutI l 0 l.length))).set 3 (iand .u64 ((words (leI (cutI l 0 l.length))).getD 3 0) 9223372036854775807)) ((leI (cutI l 0 l.length)) % 57896044618658097711785492504343953926634992332820282019728792003956564819968), tB (!nLess ((leI (cutI l 0 l.length)) % 57896044618658097711785492504343953926634992332820282019728792003956564819968) pP) false, tN ((words (leI (cutI l 0 l.length))).set 3 (iand .u64 ((words (leI (cutI l 0 l.length))).getD 3 0) 9223372036854775807)) ((leI (cutI l 0 l.length)) % 57896044618658097711785492504343953926634992332820282019728792003956564819968), tB (!(nIsSq (nOA ((leI (cutI l 0 l.length)) % 57896044618658097711785492504343953926634992332820282019728792003956564819968)))) true]) := by kernel_rfl
theorem rd_zero (κ : Nat → Value) (l : List Int) : runF tyT rdO (atH 4 3 (isB true) (atH 6 0 (isN ((leI (cutI l 0 l.length)) % 57896044618658097711785492504343953926634992332820282019728792003956564819968)) (atH 6 3 (isB false) (atH 8 0 (isN ((leI (cutI l 0 l.length)) % 57896044618658097711785492504343953926634992332820282019728792003956564819968)) (atH 9 2 (isB false) (atH 9 8 (isB true) noH)))))) [] 0 [1] [2, 3] fRd (bA [.sl .u8 l] 0 0) (bH κ [.sl .u8 l] 0 0) 1 [] = some ([.fin], rdE 0 0 5, [0 + l.length ≤ l.length, is32 (cutI l 0 l.length), tB (ishr .u64 ((words (leI (cutI l 0 l.length))).getD 3 0) 63 == 1) true, tN ((words (leI (cutI l 0 l.length))).set 3 (iand .u64 ((words (leI (cutI l 0 l.length))).getD 3 0) 9223372036854775807)) ((leI (cutI l 0 l.length)) % 57896044618658097711785492504343953926634992332820282019728792003956564819968), tB (!nLess ((leI (cutI l 0 l.length)) % 57896044618658097711785492504343953926634992332820282019728792003956564819968) pP) false, tN ((words (leI (cutI l 0 l.length))).set 3 (iand .u64 ((words (leI (cutI l 0 l.length))).getD 3 0) 9223372036854775807)) ((leI (cutI l 0 l.length)) % 57896044618658097711785492504343953926634992332820282019728792003956564819968), tB (!(nIsSq (nOA ((leI (cutI l 0 l.length)) % 57896044618658097711785492504343953926634992332820282019728792003956564819968)))) false, tB (nZero (nRoot (nOA ((leI (cutI l 0 l.length)) % 57896044618658097711785492504343953926634992332820282019728792003956564819968)))) true]) := by kernel_rfl
theorem rd_odd (κ : Nat → Value) (l : List Int) : runF tyT rdO (atH 4 3 (isB true) (atH 6 0 (isN ((leI (cutI l 0 l.length)) % 57896044618658097711785492504343953926634992332820282019728792003956564819968)) (atH 6 3 (isB false) (atH 8 0 (isN ((leI (cutI l 0 l.length)) % 57896044618658097711785492504343953926634992332820282019728792003956564819968)) (atH 9 2 (isB false) (atH 9 8 (isB false) (atH 11 1 (isN ((leI (cutI l 0 l.length)) % 57896044618658097711785492504343953926634992332820282019728792003956564819968)) noH))))))) [] 0 [1] [2, 3] fRd (bA [.sl .u8 l] 0 0) (bH κ [.sl .u8 l] 0 0) 1 [] = some ([.fin], rdE (nSub 0 (nRoot (nOA ((leI (cutI l 0 l.length)) % 57896044618658097711785492504343953926634992332820282019728792003956564819968)))) ((leI (cutI l 0 l.length)) % 57896044618658097711785492504343953926634992332820282019728792003956564819968) 0, [0 + l.length ≤ l.length, is32 (cutI l 0 l.length), tB (ishr .u64 ((words (leI (cutI l 0 l.length))).getD 3 0) 63 == 1) true, tN ((words (leI (cutI l 0 l.length))).set 3 (iand .u64 ((words (leI (cutI l 0 l.length))).getD 3 0) 9223372036854775807)) ((leI (cutI l 0 l.length)) % 57896044618658097711785492504343953926634992332820282019728792003956564819968), tB (!nLess ((leI (cutI l 0 l.length)) % 57896044618658097711785492504343953926634992332820282019728792003956564819968) pP) false, tN ((words (leI (cutI l 0 l.length))).set 3 (iand .u64 ((words (leI (cutI l 0 l.length))).getD 3 0) 9223372036854775807)) ((leI (cutI l 0 l.length)) % 57896044618658097711785492504343953926634992332820282019728792003956564819968), tB (!(nIsSq (nOA ((leI (cutI l 0 l.length)) % 57896044618658097711785492504343953926634992332820282019728792003956564819968)))) false, tB (nZero (nRoot (nOA ((leI (cutI l 0 l.length)) % 57896044618658097711785492504343953926634992332820282019728792003956564819968)))) false, tN ((words (leI (cutI l 0 l.length))).set 3 (iand .u64 ((words (leI (cutI l 0 l.length))).getD 3 0) 9223372036854775807)) ((leI (cutI l 0 l.length)) % 57896044618658097711785492504343953926634992332820282019728792003956564819968)]) := by kernel_rfl
theorem rd_even (κ : Nat → Value) (l : List Int) : runF tyT rdO (atH 4 3 (isB false) (atH 6 0 (isN ((leI (cutI l 0 l.length)) % 57896044618658097711785492504343953926634992332820282019728792003956564819968)) (atH 6 3 (isB false) (atH 8 0 (isN ((leI (cutI l 0 l.length)) % 57896044618658097711785492504343953926634992332820282019728792003956564819968)) (atH 9 2 (isB false) (atH 11 1 (isN ((leI (cutI l 0 l.length)) % 57896044618658097711785492504343953926634992332820282019728792003956564819968)) noH)))))) [] 0 [1] [2, 3] fRd (bA [.sl .u8 l] 0 0) (bH κ [.sl .u8 l] 0 0) 1 [] = some ([.fin], rdE (nRoot (nOA ((leI (cutI l 0 l.length)) % 57896044618658097711785492504343953926634992332820282019728792003956564819968))) ((leI (cutI l 0 l.length)) % 57896044618658097711785492504343953926634992332820282019728792003956564819968) 0, [0 + l.length ≤ l.length, is32 (cutI l 0 l.length), tB (ishr .u64 ((words (leI (cutI l 0 l.length))).getD 3 0) 63 == 1) false, tN ((words (leI (cutI l 0 l.length))).set 3 (iand .u64 ((words (leI (cutI l 0 l.length))).getD 3 0) 9223372036854775807)) ((leI (cutI l 0 l.length)) % 57896044618658097711785492504343953926634992332820282019728792003956564819968), tB (!nLess ((leI (cutI l 0 l.length)) % 57896044618658097711785492504343953926634992332820282019728792003956564819968) pP) false, tN ((words (leI (cutI l 0 l.length))).set 3 (iand .u64 ((words (leI (cutI l 0 l.length))).getD 3 0) 9223372036854775807)) ((leI (cutI l 0 l.length)) % 57896044618658097711785492504343953926634992332820282019728792003956564819968), tB (!(nIsSq (nOA ((leI (cutI l 0 l.length)) % 57896044618658097711785492504343953926634992332820282019728792003956564819968)))) false, tN ((words (leI (cutI l 0 l.length))).set 3 (iand .u64 ((words (leI (cutI l 0 l.length))).getD 3 0) 9223372036854775807)) ((leI (cutI l 0 l.length)) % 57896044618658097711785492504343953926634992332820282019728792003956564819968)]) := by kernel_rfl
/-- What is read of 32 bytes that are the number N. -/
structure RV where
  x : Nat
  y : Nat
  e : Int
noncomputable def rdV (N : Nat) : RV :=
  if nLess (N % 57896044618658097711785492504343953926634992332820282019728792003956564819968) pP = false then ⟨0, 0, 5⟩
  else if nIsSq (nOA (N % 57896044618658097711785492504343953926634992332820282019728792003956564819968)) = false then ⟨0, 0, 5⟩
  else if 57896044618658097711785492504343953926634992332820282019728792003956564819968 ≤ N then
    if nZero (nRoot (nOA (N % 57896044618658097711785492504343953926634992332820282019728792003956564819968))) = true then ⟨0, 0, 5⟩
    else ⟨nSub 0 (nRoot (nOA (N % 57896044618658097711785492504343953926634992332820282019728792003956564819968))), N % 57896044618658097711785492504343953926634992332820282019728792003956564819968, 0⟩
  else ⟨nRoot (nOA (N % 57896044618658097711785492504343953926634992332820282019728792003956564819968)), N % 57896044618658097711785492504343953926634992332820282019728792003956564819968, 0⟩
theorem rd_go (κ : Nat → Value) (l : List Int) (hl : is32 l) : FromK Try.prog 0 fRd (bA [.sl .u8 l] 0 0) (bH κ [.sl .u8 l] 0 0) 1 [] [.fin] (rdE (rdV (leI l)).x (rdV (leI l)).y (rdV (leI l)).e) := by
  have hlt := leI_lt hl
  have a1 := rd_big κ l
  have a2 := rd_none κ l
  have a3 := rd_zero κ l
  have a4 := rd_odd κ l
  have a5 := rd_even κ l
  rw [cutI_all] at a1 a2 a3 a4 a5
  have hN := tN_of (cut_word _ hlt)
  have ho := top_bit _ hlt
  unfold rdV
  cases h1 : nLess (leI l % 57896044618658097711785492504343953926634992332820282019728792003956564819968) pP
  · rw [if_pos rfl]
    exact FromK.run (m0 := 0) tyT_ok rdO_ok mixed_ a1 ⟨by omega, hl, hN, tB_iff.2 (by rw [h1]; rfl), trivial⟩
  rw [if_neg (by decide)]
  cases h2 : nIsSq (nOA (leI l % 57896044618658097711785492504343953926634992332820282019728792003956564819968))
  · rw [if_pos rfl]
    exact FromK.run (m0 := 0) tyT_ok rdO_ok mixed_ a2 ⟨by omega, hl, hN, tB_iff.2 (by rw [h1]; rfl), hN, tB_iff.2 (by rw [h2]; rfl), trivial⟩
  rw [if_neg (by decide)]
  by_cases h3 : 57896044618658097711785492504343953926634992332820282019728792003956564819968 ≤ leI l
  · rw [if_pos h3]
    rw [decide_eq_true h3] at ho
    cases h4 : nZero (nRoot (nOA (leI l % 57896044618658097711785492504343953926634992332820282019728792003956564819968)))
    · rw [if_neg (by decide)]
      exact FromK.run (m0 := 0) tyT_ok rdO_ok mixed_ a4 ⟨by omega, hl, tB_iff.2 ho, hN, tB_iff.2 (by rw [h1]; rfl), hN, tB_iff.2 (by rw [h2]; rfl), tB_iff.2 h4, hN, trivial⟩
    · rw [if_pos rfl]
      exact FromK.run (m0 := 0) tyT_ok rdO_ok mixed_ a3 ⟨by omega, hl, tB_iff.2 ho, hN, tB_iff.2 (by rw [h1]; rfl), hN, tB_iff.2 (by rw [h2]; rfl), tB_iff.2 h4, trivial⟩
  · rw [if_neg h3]
    rw [decide_eq_false h3] at ho
    dsimp only
    refine FromK.run (m0 := 0) tyT_ok rdO_ok mixed_ a5 ?_
    exact ⟨by omega, hl, tB_iff.2 ho, hN, tB_iff.2 (by rw [h1]; rfl), hN, tB_iff.2 (by rw [h2]; rfl), hN, trivial⟩
noncomputable def rdF : List CB → Option BR
  | [.sl .u8 l] => some { pre := is32 l, val := .tup [.agg [.num (rdV (leI l)).x, .num (rdV (leI l)).y], .one (.v (.int .i64 (rdV (leI l)).e))] }
  | _ => none
def rdF3 : List CB → Option BR
  | [.sl .u8 l] => some { pre := l.length ≠ 32 ∧ l.length ≤ 1048576, val := .tup [.agg [.num 0, .num 0], .one (.v (.int .i64 3))] }
  | _ => none
theorem rd_ends (cbs : List CB) (r : BR) (hF : rdF cbs = some r) (hp : r.pre) : EndsB Try.prog tyT [] fRd cbs r := by
  unfold rdF at hF
  split at hF
  · rename_i l
    injection hF with hF
    subst hF
    intro κ
    exact ⟨[.fin], _, .tup [.agg [.num (rdV (leI l)).x, .num (rdV (leI l)).y], .one (.v (.int .i64 (rdV (leI l)).e))], [], .inr rfl, rd_go κ l hp, by kernel_rfl, by kernel_rfl, by kernel_rfl⟩
  · cases hF
theorem rd_ends3 (cbs : List CB) (r : BR) (hF : rdF3 cbs = some r) (hp : r.pre) : EndsB Try.prog tyT [] fRd cbs r := by
  unfold rdF3 at hF
  split at hF
  · rename_i l
    injection hF with hF
    subst hF
    intro κ
    have h := rd_len κ l
    rw [cutI_all] at h
    exact ⟨[.fin], _, .tup [.agg [.num 0, .num 0], .one (.v (.int .i64 3))], [], .inr rfl, FromK.run (m0 := 0) tyT_ok rdO3_ok mixed_ h ⟨by omega, hp, trivial⟩, by kernel_rfl, by kernel_rfl, by kernel_rfl⟩
  · cases hF
theorem read_ent : EntOK Try.prog 15 (entB [.sl .u8] rdF) :=
  ok_B tyT_ok Try.func15 (by kernel_rfl) (by kernel_rfl) [] (fun x hx => by cases hx) (by kernel_rfl) rd_ends
theorem read3_ent : EntOK Try.prog 15 (entB [.sl .u8] rdF3) :=
  ok_B tyT_ok Try.func15 (by kernel_rfl) (by kernel_rfl) [] (fun x hx => by cases hx) (by kernel_rfl) rd_ends3
/-- A point's bytes. -/
def ptB (x y : Nat) : List Int := (byI y).set 31 (ior .u8 ((byI y).getD 31 0) (ishl .u8 (IntKind.wrap .u8 (iand .u64 ((words x).getD 0 0) 1)) 7))
noncomputable def pbO : List (Nat × Ent) := [(16, eBy)]
theorem pbO_ok : OOK Try.prog pbO := ook_of (l := [(16, eBy)]) ⟨by_ent, trivial⟩
noncomputable def eBytesP : Ent := inl tyT pbO noH [] 2000 Try.f14 []
theorem eBytesP_ok : EntOK Try.prog 14 eBytesP := inl_ok tyT_ok pbO_ok mixed_ Try.func14 (by kernel_rfl) (by kernel_rfl) []
def vsmall : List SV → Option (SV × Asm)
  | [.av (.agg [.num x, .num y])] => some (.av (.one (.v (.bool (nSmallP x y)))), .tt)
  | _ => none
theorem small8_ent : EntOK Try.prog 18 (vEnt vsmall) := ok_V smO_ok Try.func18 (by kernel_rfl) (by kernel_rfl) fun args v p hF hp => by
  unfold vsmall at hF
  split at hF
  · simp only [Option.some.injEq, Prod.mk.injEq] at hF
    obtain ⟨rfl, rfl⟩ := hF
    exact ⟨fun _ _ => {}, [], 2000, [True], by kernel_rfl, ⟨trivial, trivial⟩, by kernel_rfl, by kernel_rfl, by kernel_rfl⟩
  · cases hF
end
end Go.Proofs.Ytgeldhdijochdaa.Am
/- Plain law: the points of a twisted Edwards curve modulo the prime are a group. Conditions: the first parameter is a square, the second one is none. -/
namespace Go.Proofs.Ytgeldhdijochdaa
set_option linter.unusedVariables false
set_option linter.unusedSimpArgs false
namespace Pl

section
variable {R : Type} [Lean.Grind.CommRing R]
theorem ed_close (a d x1 y1 x2 y2 : R) (h1 : a*x1*x1 + y1*y1 = 1 + d*x1*x1*y1*y1) (h2 : a*x2*x2 + y2*y2 = 1 + d*x2*x2*y2*y2)
    (X Y t : R) (e1 : X = x1*y2+x2*y1) (e2 : Y = y1*y2-a*x1*x2) (e3 : t = d*x1*x2*y1*y2) :
    a*X*X*(1-t)*(1-t) + Y*Y*(1+t)*(1+t) = (1-t*t)*(1-t*t) + d*X*X*Y*Y := by
  subst e1 e2 e3
  grind (ringSteps := 10000000)
theorem ed_assocX (a d x1 y1 x2 y2 x3 y3 : R)
    (h1 : a*x1*x1 + y1*y1 = 1 + d*x1*x1*y1*y1) (h2 : a*x2*x2 + y2*y2 = 1 + d*x2*x2*y2*y2) (h3 : a*x3*x3 + y3*y3 = 1 + d*x3*x3*y3*y3)
    (X12 Y12 t12 X23 Y23 t23 : R)
    (e1 : X12 = x1*y2+x2*y1) (e2 : Y12 = y1*y2-a*x1*x2) (e3 : t12 = d*x1*x2*y1*y2)
    (f1 : X23 = x2*y3+x3*y2) (f2 : Y23 = y2*y3-a*x2*x3) (f3 : t23 = d*x2*x3*y2*y3) :
    (X12*(1-t12)*y3 + Y12*(1+t12)*x3) * ((1-t23*t23) + d*x1*y1*X23*Y23) = (x1*Y23*(1+t23) + X23*(1-t23)*y1) * ((1-t12*t12) + d*X12*Y12*x3*y3) := by
  subst e1 e2 e3 f1 f2 f3
  grind (ringSteps := 10000000)
theorem ed_assocY (a d x1 y1 x2 y2 x3 y3 : R)
    (h1 : a*x1*x1 + y1*y1 = 1 + d*x1*x1*y1*y1) (h2 : a*x2*x2 + y2*y2 = 1 + d*x2*x2*y2*y2) (h3 : a*x3*x3 + y3*y3 = 1 + d*x3*x3*y3*y3)
    (X12 Y12 t12 X23 Y23 t23 : R)
    (e1 : X12 = x1*y2+x2*y1) (e2 : Y12 = y1*y2-a*x1*x2) (e3 : t12 = d*x1*x2*y1*y2)
    (f1 : X23 = x2*y3+x3*y2) (f2 : Y23 = y2*y3-a*x2*x3) (f3 : t23 = d*x2*x3*y2*y3) :
    (Y12*(1+t12)*y3 - a*X12*(1-t12)*x3) * ((1-t23*t23) - d*x1*y1*X23*Y23) = (y1*Y23*(1+t23) - a*x1*X23*(1-t23)) * ((1-t12*t12) - d*X12*Y12*x3*y3) := by
  subst e1 e2 e3 f1 f2 f3
  grind (ringSteps := 10000000)
end

/-- A field, not of two. -/
class Kf (K : Type) extends Lean.Grind.CommRing K where
  kinv : K → K
  mul_inv : ∀ a : K, a ≠ 0 → a * kinv a = 1
  two : (2 : K) ≠ 0
section
variable {K : Type} [Kf K]
open Kf (kinv)
theorem F_mul_inv' {a : K} (h : a ≠ 0) : a * kinv a = 1 := Kf.mul_inv a h
theorem K_mul_eq_zero {a b : K} (h : a * b = 0) : a = 0 ∨ b = 0 := by
  by_cases ha : a = 0
  · exact .inl ha
  · right
    have := F_mul_inv' ha
    grind
theorem K_one_ne : (1 : K) ≠ 0 := fun e => Kf.two (by
  have : (2 : K) = 2 * 1 := by grind
  rw [this, e]; grind)
/-- A curve: a x^2 + y^2 = 1 + d x^2 y^2, a a square, d none. -/
structure Cv (K : Type) [Kf K] where
  a : K
  c : K
  d : K
  hc : c * c = a
  c0 : c ≠ 0
  hd : ∀ z : K, z * z ≠ d
structure Pt (C : Cv K) where
  x : K
  y : K
  on : C.a * x * x + y * y = 1 + C.d * x * x * y * y
variable {C : Cv K}
theorem Pt.ext {P Q : Pt C} (h1 : P.x = Q.x) (h2 : P.y = Q.y) : P = Q := by
  cases P; cases Q
  subst h1 h2
  rfl
theorem F_ne_mul {a b : K} (ha : a ≠ 0) (hb : b ≠ 0) : a * b ≠ 0 := fun h => (K_mul_eq_zero h).elim ha hb
theorem F_cancel {a b c : K} (hc : c ≠ 0) (h : a * c = b * c) : a = b := by
  have := F_mul_inv' hc
  grind
def tt (P Q : Pt C) : K := C.d * P.x * Q.x * P.y * Q.y
theorem comp_sq (P Q : Pt C) : tt P Q * tt P Q ≠ 1 := by
  intro ht
  have ht0 : tt P Q ≠ 0 := fun e => by rw [e] at ht; have := K_one_ne (K := K); grind
  have hx1 : P.x ≠ 0 := fun e => ht0 (by unfold tt; rw [e]; grind)
  have hy1 : P.y ≠ 0 := fun e => ht0 (by unfold tt; rw [e]; grind)
  have hx2 : Q.x ≠ 0 := fun e => ht0 (by unfold tt; rw [e]; grind)
  have h1 := P.on
  have h2 := Q.on
  have hc := C.hc
  have key : ∀ s : K, s * s = 1 → (C.c * P.x + s * tt P Q * P.y) * (C.c * P.x + s * tt P Q * P.y) = C.d * (P.x * P.y * (C.c * Q.x + s * Q.y)) * (P.x * P.y * (C.c * Q.x + s * Q.y)) := by
    intro s hs
    have e1 : (C.c * P.x + s * tt P Q * P.y) * (C.c * P.x + s * tt P Q * P.y) = C.a * P.x * P.x + P.y * P.y + 2 * s * C.c * tt P Q * P.x * P.y := by
      have : s * tt P Q * P.y * (s * tt P Q * P.y) = (s * s) * (tt P Q * tt P Q) * (P.y * P.y) := by grind
      rw [hs, ht] at this
      grind
    have e2 : C.d * (P.x * P.y * (C.c * Q.x + s * Q.y)) * (P.x * P.y * (C.c * Q.x + s * Q.y)) = C.d * P.x * P.x * P.y * P.y * (C.a * Q.x * Q.x + Q.y * Q.y) + 2 * s * C.c * tt P Q * P.x * P.y := by
      unfold tt
      have : s * Q.y * (s * Q.y) = (s * s) * (Q.y * Q.y) := by grind
      rw [hs] at this
      grind
    have e3 : C.d * P.x * P.x * P.y * P.y * (1 + C.d * Q.x * Q.x * Q.y * Q.y) = C.d * P.x * P.x * P.y * P.y + tt P Q * tt P Q := by unfold tt; grind
    rw [e1, e2, h1, h2, e3, ht]
    grind
  have nz : ∀ s : K, s * s = 1 → C.c * Q.x + s * Q.y = 0 := by
    intro s hs
    refine Classical.byContradiction fun hn => ?_
    have hw : P.x * P.y * (C.c * Q.x + s * Q.y) ≠ 0 := F_ne_mul (F_ne_mul hx1 hy1) hn
    have := F_mul_inv' hw
    refine C.hd ((C.c * P.x + s * tt P Q * P.y) * kinv (P.x * P.y * (C.c * Q.x + s * Q.y))) ?_
    have k := key s hs
    generalize P.x * P.y * (C.c * Q.x + s * Q.y) = w at *
    generalize C.c * P.x + s * tt P Q * P.y = e at *
    generalize kinv w = i at *
    have : e * i * (e * i) = e * e * (i * i) := by grind
    rw [this, k]
    grind
  have a1 := nz 1 (by grind)
  have a2 := nz (-1) (by grind)
  have a3 : 2 * (C.c * Q.x) = 0 := by grind
  exact (K_mul_eq_zero a3).elim (Kf.two (K := K)) (F_ne_mul C.c0 hx2)
theorem comp_p (P Q : Pt C) : 1 + tt P Q ≠ 0 := fun e => comp_sq P Q (by
  have : tt P Q = -1 := by grind
  rw [this]; grind)
theorem comp_m (P Q : Pt C) : 1 - tt P Q ≠ 0 := fun e => comp_sq P Q (by
  have : tt P Q = 1 := by grind
  rw [this]; grind)
def addX (P Q : Pt C) : K := (P.x * Q.y + Q.x * P.y) * kinv (1 + tt P Q)
def addY (P Q : Pt C) : K := (P.y * Q.y - C.a * P.x * Q.x) * kinv (1 - tt P Q)
theorem add_on (P Q : Pt C) : C.a * addX P Q * addX P Q + addY P Q * addY P Q = 1 + C.d * addX P Q * addX P Q * addY P Q * addY P Q := by
  have hi := F_mul_inv' (comp_p P Q)
  have hj := F_mul_inv' (comp_m P Q)
  have h := ed_close C.a C.d P.x P.y Q.x Q.y P.on Q.on _ _ _ rfl rfl rfl
  unfold addX addY
  change C.a * _ * _ * (1 - tt P Q) * (1 - tt P Q) + _ * _ * (1 + tt P Q) * (1 + tt P Q) = (1 - tt P Q * tt P Q) * (1 - tt P Q * tt P Q) + _ at h
  generalize tt P Q = t at *
  generalize P.x * Q.y + Q.x * P.y = X at *
  generalize P.y * Q.y - C.a * P.x * Q.x = Y at *
  generalize kinv (1 + t) = i at *
  generalize kinv (1 - t) = j at *
  have e1 : C.a * (X * i) * (X * i) + Y * j * (Y * j) = (C.a*X*X*(1-t)*(1-t) + Y*Y*(1+t)*(1+t)) * (i * i * (j * j)) := by
    have a1 : C.a*X*X*(1-t)*(1-t) * (i * i * (j * j)) = C.a * (X * i) * (X * i) * (((1-t) * j) * ((1-t) * j)) := by grind
    have a2 : Y*Y*(1+t)*(1+t) * (i * i * (j * j)) = Y * j * (Y * j) * (((1+t) * i) * ((1+t) * i)) := by grind
    rw [hj] at a1
    rw [hi] at a2
    grind
  have e2 : ((1-t*t)*(1-t*t) + C.d*X*X*Y*Y) * (i * i * (j * j)) = 1 + C.d * (X * i) * (X * i) * (Y * j) * (Y * j) := by
    have a1 : (1-t*t)*(1-t*t) * (i * i * (j * j)) = ((1+t)*i) * ((1+t)*i) * (((1-t)*j) * ((1-t)*j)) := by grind
    rw [hi, hj] at a1
    grind
  rw [e1, h, e2]
def Pt.add (P Q : Pt C) : Pt C := ⟨addX P Q, addY P Q, add_on P Q⟩
instance : Add (Pt C) := ⟨Pt.add⟩
theorem add_x (P Q : Pt C) : (P + Q).x * (1 + tt P Q) = P.x * Q.y + Q.x * P.y := by
  show addX P Q * _ = _
  have := F_mul_inv' (comp_p P Q)
  unfold addX
  generalize kinv (1 + tt P Q) = i at *
  generalize P.x * Q.y + Q.x * P.y = X at *
  grind
theorem add_y (P Q : Pt C) : (P + Q).y * (1 - tt P Q) = P.y * Q.y - C.a * P.x * Q.x := by
  show addY P Q * _ = _
  have := F_mul_inv' (comp_m P Q)
  unfold addY
  generalize kinv (1 - tt P Q) = i at *
  generalize P.y * Q.y - C.a * P.x * Q.x = X at *
  grind
theorem Pt.add_comm (P Q : Pt C) : P + Q = Q + P := by
  have e : tt P Q = tt Q P := by unfold tt; grind
  refine Pt.ext (F_cancel (comp_p P Q) ?_) (F_cancel (comp_m P Q) ?_)
  · rw [add_x, e, add_x]; grind
  · rw [add_y, e, add_y]; grind
theorem frac_eq {x x' N N' D D' : K} (hD : D ≠ 0) (hD' : D' ≠ 0) (h : x * D = N) (h' : x' * D' = N') (e : N * D' = N' * D) : x = x' :=
  F_cancel (F_ne_mul hD hD') (by
    have a1 : x * (D * D') = x * D * D' := by grind
    have a2 : x' * (D * D') = x' * D' * D := by grind
    rw [a1, a2, h, h', e])
theorem assoc_sides (P Q S : Pt C) :
    let t := tt P Q
    let X := P.x * Q.y + Q.x * P.y
    let Y := P.y * Q.y - C.a * P.x * Q.x
    ((1 - t * t) + C.d * X * Y * S.x * S.y ≠ 0) ∧ ((1 - t * t) - C.d * X * Y * S.x * S.y ≠ 0) ∧
    (P + Q + S).x * ((1 - t * t) + C.d * X * Y * S.x * S.y) = X * (1 - t) * S.y + Y * (1 + t) * S.x ∧
    (P + Q + S).y * ((1 - t * t) - C.d * X * Y * S.x * S.y) = Y * (1 + t) * S.y - C.a * X * (1 - t) * S.x := by
  intro t X Y
  have hx : (P + Q).x * (1 + t) = X := add_x P Q
  have hy : (P + Q).y * (1 - t) = Y := add_y P Q
  have nz : (1 + t) * (1 - t) ≠ 0 := F_ne_mul (comp_p P Q) (comp_m P Q)
  have ex := add_x (P + Q) S
  have ey := add_y (P + Q) S
  have np := comp_p (P + Q) S
  have nm := comp_m (P + Q) S
  have e1 : (1 - t * t) + C.d * X * Y * S.x * S.y = (1 + t) * (1 - t) * (1 + tt (P + Q) S) := by
    unfold tt; rw [← hx, ← hy]; grind
  have e2 : (1 - t * t) - C.d * X * Y * S.x * S.y = (1 + t) * (1 - t) * (1 - tt (P + Q) S) := by
    unfold tt; rw [← hx, ← hy]; grind
  refine ⟨by rw [e1]; exact F_ne_mul nz np, by rw [e2]; exact F_ne_mul nz nm, ?_, ?_⟩
  · rw [e1]
    have : (P + Q + S).x * ((1 + t) * (1 - t) * (1 + tt (P + Q) S)) = (1 + t) * (1 - t) * ((P + Q + S).x * (1 + tt (P + Q) S)) := by grind
    rw [this, ex, ← hx, ← hy]; grind
  · rw [e2]
    have : (P + Q + S).y * ((1 + t) * (1 - t) * (1 - tt (P + Q) S)) = (1 + t) * (1 - t) * ((P + Q + S).y * (1 - tt (P + Q) S)) := by grind
    rw [this, ey, ← hx, ← hy]; grind
theorem Pt.add_assoc (P Q S : Pt C) : P + Q + S = P + (Q + S) := by
  obtain ⟨l1, l2, l3, l4⟩ := assoc_sides P Q S
  obtain ⟨r1, r2, r3, r4⟩ := assoc_sides Q S P
  have hX := ed_assocX C.a C.d P.x P.y Q.x Q.y S.x S.y P.on Q.on S.on _ _ _ _ _ _ rfl rfl rfl rfl rfl rfl
  have hY := ed_assocY C.a C.d P.x P.y Q.x Q.y S.x S.y P.on Q.on S.on _ _ _ _ _ _ rfl rfl rfl rfl rfl rfl
  rw [Pt.add_comm P (Q + S)]
  refine Pt.ext (frac_eq l1 r1 l3 r3 ?_) (frac_eq l2 r2 l4 r4 ?_)
  · unfold tt
    generalize P.x * Q.y + Q.x * P.y = X12 at *
    generalize P.y * Q.y - C.a * P.x * Q.x = Y12 at *
    generalize C.d * P.x * Q.x * P.y * Q.y = t12 at *
    generalize Q.x * S.y + S.x * Q.y = X23 at *
    generalize Q.y * S.y - C.a * Q.x * S.x = Y23 at *
    generalize C.d * Q.x * S.x * Q.y * S.y = t23 at *
    clear l1 l2 l3 l4 r1 r2 r3 r4 hY
    exact .trans (by clear hX; grind) (hX.trans (by clear hX; grind))
  · unfold tt
    generalize P.x * Q.y + Q.x * P.y = X12 at *
    generalize P.y * Q.y - C.a * P.x * Q.x = Y12 at *
    generalize C.d * P.x * Q.x * P.y * Q.y = t12 at *
    generalize Q.x * S.y + S.x * Q.y = X23 at *
    generalize Q.y * S.y - C.a * Q.x * S.x = Y23 at *
    generalize C.d * Q.x * S.x * Q.y * S.y = t23 at *
    clear l1 l2 l3 l4 r1 r2 r3 r4 hX
    exact .trans (by clear hY; grind) (hY.trans (by clear hY; grind))
def Pt.O : Pt C := ⟨0, 1, by grind⟩
def Pt.neg (P : Pt C) : Pt C := ⟨-P.x, P.y, by have := P.on; grind⟩
theorem Pt.add_O (P : Pt C) : P + Pt.O = P := by
  have hx := add_x P Pt.O
  have hy := add_y P Pt.O
  unfold tt Pt.O at hx hy
  exact Pt.ext (by unfold Pt.O; grind) (by unfold Pt.O; grind)
theorem Pt.O_add (P : Pt C) : Pt.O + P = P := by rw [Pt.add_comm, Pt.add_O]
theorem Pt.add_neg (P : Pt C) : P + P.neg = Pt.O := by
  have hx := add_x P P.neg
  have hy := add_y P P.neg
  have np := comp_p P P.neg
  have nm := comp_m P P.neg
  have h := P.on
  refine Pt.ext (F_cancel np ?_) (F_cancel nm ?_)
  · rw [hx]; show P.x * P.y + -P.x * P.y = 0 * _; grind
  · rw [hy]; show P.y * P.y - C.a * P.x * -P.x = 1 * (1 - C.d * P.x * -P.x * P.y * P.y); grind
theorem Pt.neg_add (P : Pt C) : P.neg + P = Pt.O := by rw [Pt.add_comm, Pt.add_neg]
theorem Pt.neg_neg (P : Pt C) : P.neg.neg = P := Pt.ext (by show - -P.x = P.x; grind) rfl
theorem Pt.add_right_cancel {P Q S : Pt C} (h : P + S = Q + S) : P = Q := by
  have := congrArg (· + S.neg) h
  simp only [Pt.add_assoc, Pt.add_neg, Pt.add_O] at this
  exact this
theorem Pt.neg_sum (P Q : Pt C) : (P + Q).neg = P.neg + Q.neg := by
  refine Pt.add_right_cancel (S := P + Q) ?_
  rw [Pt.neg_add, Pt.add_comm P Q, Pt.add_assoc, ← Pt.add_assoc Q.neg, Pt.neg_add, Pt.O_add, Pt.neg_add]
/-- So many times a point. -/
def Pt.mul : Nat → Pt C → Pt C
  | 0, _ => Pt.O
  | n + 1, P => Pt.mul n P + P
theorem Pt.mul_one (P : Pt C) : Pt.mul 1 P = P := Pt.O_add P
theorem Pt.mul_O : ∀ n, Pt.mul n (Pt.O : Pt C) = Pt.O
  | 0 => rfl
  | n + 1 => by rw [Pt.mul, Pt.mul_O n, Pt.add_O]
theorem Pt.add_mul (P : Pt C) (n : Nat) : ∀ m, Pt.mul (n + m) P = Pt.mul n P + Pt.mul m P
  | 0 => (Pt.add_O _).symm
  | m + 1 => by rw [← Nat.add_assoc, Pt.mul, Pt.add_mul P n m, Pt.add_assoc, Pt.mul]
theorem Pt.mul_mul (P : Pt C) (n : Nat) : ∀ m, Pt.mul (m * n) P = Pt.mul m (Pt.mul n P)
  | 0 => by rw [Nat.zero_mul]; rfl
  | m + 1 => by rw [Nat.succ_mul, Pt.add_mul, Pt.mul_mul P n m, Pt.mul]
theorem Pt.mul_comm (P : Pt C) (n m : Nat) : Pt.mul m (Pt.mul n P) = Pt.mul n (Pt.mul m P) := by
  rw [← Pt.mul_mul, ← Pt.mul_mul, Nat.mul_comm]
theorem Pt.mul_sum (P Q : Pt C) : ∀ n, Pt.mul n (P + Q) = Pt.mul n P + Pt.mul n Q
  | 0 => (Pt.add_O _).symm
  | n + 1 => by
    rw [Pt.mul, Pt.mul_sum P Q n, Pt.mul, Pt.mul, Pt.add_assoc, Pt.add_assoc, ← Pt.add_assoc (Pt.mul n Q), Pt.add_comm (Pt.mul n Q) P, Pt.add_assoc]
theorem Pt.mul_neg (P : Pt C) : ∀ n, Pt.mul n P.neg = (Pt.mul n P).neg
  | 0 => Pt.ext (by show (0 : K) = -0; grind) rfl
  | n + 1 => by rw [Pt.mul, Pt.mul_neg P n, Pt.mul, Pt.neg_sum]
theorem Pt.neg_O : (Pt.O : Pt C).neg = Pt.O := Pt.ext (by show -(0 : K) = 0; grind) rfl
theorem Pt.mul_mod {P : Pt C} {L : Nat} (h : Pt.mul L P = Pt.O) (n : Nat) : Pt.mul n P = Pt.mul (n % L) P := by
  rw [← congrArg (Pt.mul · P) (Nat.div_add_mod n L), Pt.add_mul, Nat.mul_comm, Pt.mul_mul, h, Pt.mul_O, Pt.O_add]
end
end Pl
end Go.Proofs.Ytgeldhdijochdaa
/- Plain law: what the curve's functions reckon with numbers is the group of the curve's points. Conditions: none. -/
namespace Go.Proofs.Ytgeldhdijochdaa.Am
set_option linter.unusedVariables false
set_option linter.unusedSimpArgs false
open Go
open Pl
/-! ### The field -/
instance fdF : Kf F := { (inferInstance : Lean.Grind.CommRing F) with
  kinv := Pl.inv
  mul_inv := fun _ h => F_mul_inv h
  two := F_two_ne }
theorem kinv_eq (a : F) : Kf.kinv a = Pl.inv a := rfl
def dN : Nat := 37095705934669439343138083508754565189542113879843219016388785533085940283555
def iN : Nat := 19681161376707505956807079304988542015446066515923890162744021073123829784752
theorem dN_lt : dN < pP := by decide +kernel
theorem val_lt (f : F) : f.val < pP := f.isLt
theorem pP_T : pP < T256 := by decide +kernel
theorem val_mod (f : F) : f.val % T256 = f.val := Nat.mod_eq_of_lt (Nat.lt_trans f.isLt pP_T)
theorem val_modp (f : F) : f.val % pP = f.val := Nat.mod_eq_of_lt f.isLt
theorem dN_pow : dN ^ h2 % pP = pP - 1 := by
  have h := powm_eq pP 256 dN h2 (by decide +kernel)
  rw [← h]
  decide +kernel
theorem dN_ns (z : F) : z * z ≠ toF dN := by
  intro e
  have h : z.val * z.val % pP = dN := by
    have := congrArg Fin.val e
    rw [Fin.val_mul, toF_val, Nat.mod_eq_of_lt dN_lt] at this
    exact this
  rcases (euler dN_lt).2 ⟨z.val, h⟩ with h | h
  · exact absurd h (by decide +kernel)
  · rw [dN_pow] at h
    exact absurd h (by decide +kernel)
theorem iN_sq : toF iN * toF iN = (-1 : F) := by
  have : toF iN * toF iN + 1 = 0 := by
    rw [← toF_mul, ← toF_one, ← toF_add, toF_eq_zero]
    decide +kernel
  grind
/-- The curve. -/
def eC : Cv F := ⟨-1, toF iN, toF dN, iN_sq, fun e => absurd (congrArg Fin.val e) (by decide +kernel), dN_ns⟩
abbrev EP := Pt eC

/-! ### The functions -/
theorem nSub_val (a b : F) : nSub a.val b.val = (a - b).val := by
  unfold nSub
  rw [val_mod, val_mod, val_modp, val_modp, Fin.val_sub]
  congr 1
  have := a.isLt; have := b.isLt
  omega
theorem nPro_val1 (a : F) : nPro [a.val] = a.val := by
  show a.val % T256 % pP = _
  rw [val_mod, val_modp]
theorem nPro_val2 (a b : F) : nPro [a.val, b.val] = (a * b).val := by
  show a.val % T256 * (b.val % T256) % pP = _
  rw [val_mod, val_mod, Fin.val_mul]
theorem nPro_val3 (a b c : F) : nPro [a.val, b.val, c.val] = (a * b * c).val := by
  show a.val % T256 * (b.val % T256) * (c.val % T256) % pP = _
  rw [val_mod, val_mod, val_mod, Fin.val_mul, Fin.val_mul, Nat.mod_mul_mod]
theorem nSum_val1 (a : F) : nSum [a.val] = a.val := by
  show a.val % T256 % pP = _
  rw [val_mod, val_modp]
theorem nSum_val2 (a b : F) : nSum [a.val, b.val] = (a + b).val := by
  show (a.val % T256 + b.val % T256) % pP = _
  rw [val_mod, val_mod, Fin.val_add]
theorem nSum_val3 (a b c : F) : nSum [a.val, b.val, c.val] = (a + b + c).val := by
  show (a.val % T256 + b.val % T256 + c.val % T256) % pP = _
  rw [val_mod, val_mod, val_mod, Fin.val_add, Fin.val_add, Nat.mod_add_mod]
theorem nMin_p2 : nMin pP 2 = pP - 2 := by decide +kernel
theorem nInv_val (a : F) : nInv a.val = (inv a).val := by
  unfold nInv nPow
  rw [nMin_p2, val_mod, Nat.mod_eq_of_lt (show pP - 2 < T256 from Nat.lt_of_le_of_lt (Nat.sub_le _ _) pP_T)]
  unfold inv
  have e := toF_pow a.val (pP - 2)
  rw [toF_self] at e
  rw [← e, toF_val]
theorem val_zero : ((0 : F).val) = 0 := rfl
theorem val_one : ((1 : F).val) = 1 := by decide +kernel
theorem val_two : ((2 : F).val) = 2 := by decide +kernel
theorem val_of {n : Nat} (h : n < pP) : n = (toF n).val := by rw [toF_val, Nat.mod_eq_of_lt h]
theorem nFac_val : nFac = (toF dN).val := by
  unfold nFac
  have e1 : (0 : Nat) = (toF 0).val := val_of (by decide +kernel)
  have e2 : (121665 : Nat) = (toF 121665).val := val_of (by decide +kernel)
  have e3 : (121666 : Nat) = (toF 121666).val := val_of (by decide +kernel)
  have h6 : toF 121666 ≠ 0 := fun e => absurd (congrArg Fin.val e) (by decide +kernel)
  have h : toF dN * toF 121666 + toF 121665 = toF 0 := by
    rw [← toF_mul, ← toF_add, toF_eq]
    decide +kernel
  have hi := F_mul_inv h6
  have : (toF 0 - toF 121665) * inv (toF 121666) = toF dN := by
    rw [← h]
    generalize inv (toF 121666) = i at *
    generalize toF 121666 = u at *
    grind
  calc nPro [nSub 0 121665, nInv 121666] = nPro [nSub (toF 0).val (toF 121665).val, nInv (toF 121666).val] := by rw [← e1, ← e2, ← e3]
    _ = (toF dN).val := by rw [nSub_val, nInv_val, nPro_val2, this]
theorem nTwice_val : nTwice = (toF dN + toF dN).val := by unfold nTwice; rw [nFac_val, nSum_val2]

/-! ### Places -/
structure F4 where
  x : F
  y : F
  z : F
  t : F
def F4.v (p : F4) : P4 := ⟨p.x.val, p.y.val, p.z.val, p.t.val⟩
def fAdd (p q : F4) : F4 :=
  ⟨((p.y + p.x) * (q.y + q.x) - (p.y - p.x) * (q.y - q.x)) * (p.z * q.z * 2 - p.t * (toF dN + toF dN) * q.t), (p.z * q.z * 2 + p.t * (toF dN + toF dN) * q.t) * ((p.y + p.x) * (q.y + q.x) + (p.y - p.x) * (q.y - q.x)), (p.z * q.z * 2 - p.t * (toF dN + toF dN) * q.t) * (p.z * q.z * 2 + p.t * (toF dN + toF dN) * q.t), ((p.y + p.x) * (q.y + q.x) - (p.y - p.x) * (q.y - q.x)) * ((p.y + p.x) * (q.y + q.x) + (p.y - p.x) * (q.y - q.x))⟩
theorem pAdd_v (p q : F4) : pAdd nTwice p.v q.v = (fAdd p q).v := by
  unfold pAdd pAdd' F4.v fAdd
  simp only [nTwice_val, nSub_val, nPro_val2, nPro_val3, nSum_val2]
  have e2 : (2 : Nat) = (2 : F).val := val_two.symm
  rw [e2, nPro_val3]
  simp only [nSub_val, nPro_val2, nPro_val3, nSum_val2]
/-- A place stands for a point. -/
structure Rep (p : F4) (P : EP) : Prop where
  z : p.z ≠ 0
  x : p.x = P.x * p.z
  y : p.y = P.y * p.z
  t : p.t = P.x * P.y * p.z
section
variable {R : Type} [Lean.Grind.CommRing R]
theorem rep_x (d x1 y1 z1 x2 y2 z2 X Y : R) (hX : X * (1 + d*x1*x2*y1*y2) = x1*y2 + x2*y1) :
    ((y1*z1 + x1*z1) * (y2*z2 + x2*z2) - (y1*z1 - x1*z1) * (y2*z2 - x2*z2)) * (z1*z2*2 - x1*y1*z1*(d+d)*(x2*y2*z2)) = X * ((z1*z2*2 - x1*y1*z1*(d+d)*(x2*y2*z2)) * (z1*z2*2 + x1*y1*z1*(d+d)*(x2*y2*z2))) := by
  have e1 : (y1*z1 + x1*z1) * (y2*z2 + x2*z2) - (y1*z1 - x1*z1) * (y2*z2 - x2*z2) = 2*z1*z2*(x1*y2 + x2*y1) := by grind
  have e2 : z1*z2*2 + x1*y1*z1*(d+d)*(x2*y2*z2) = 2*z1*z2*(1 + d*x1*x2*y1*y2) := by grind
  rw [e1, e2, ← hX]
  grind
theorem rep_y (d x1 y1 z1 x2 y2 z2 Y : R) (hY : Y * (1 - d*x1*x2*y1*y2) = y1*y2 + x1*x2) :
    (z1*z2*2 + x1*y1*z1*(d+d)*(x2*y2*z2)) * ((y1*z1 + x1*z1) * (y2*z2 + x2*z2) + (y1*z1 - x1*z1) * (y2*z2 - x2*z2)) = Y * ((z1*z2*2 - x1*y1*z1*(d+d)*(x2*y2*z2)) * (z1*z2*2 + x1*y1*z1*(d+d)*(x2*y2*z2))) := by
  have e1 : (y1*z1 + x1*z1) * (y2*z2 + x2*z2) + (y1*z1 - x1*z1) * (y2*z2 - x2*z2) = 2*z1*z2*(y1*y2 + x1*x2) := by grind
  have e2 : z1*z2*2 - x1*y1*z1*(d+d)*(x2*y2*z2) = 2*z1*z2*(1 - d*x1*x2*y1*y2) := by grind
  rw [e1, e2, ← hY]
  grind
theorem rep_t (d x1 y1 z1 x2 y2 z2 X Y : R) (hX : X * (1 + d*x1*x2*y1*y2) = x1*y2 + x2*y1) (hY : Y * (1 - d*x1*x2*y1*y2) = y1*y2 + x1*x2) :
    ((y1*z1 + x1*z1) * (y2*z2 + x2*z2) - (y1*z1 - x1*z1) * (y2*z2 - x2*z2)) * ((y1*z1 + x1*z1) * (y2*z2 + x2*z2) + (y1*z1 - x1*z1) * (y2*z2 - x2*z2)) = X * Y * ((z1*z2*2 - x1*y1*z1*(d+d)*(x2*y2*z2)) * (z1*z2*2 + x1*y1*z1*(d+d)*(x2*y2*z2))) := by
  have e1 : (y1*z1 + x1*z1) * (y2*z2 + x2*z2) - (y1*z1 - x1*z1) * (y2*z2 - x2*z2) = 2*z1*z2*(x1*y2 + x2*y1) := by grind
  have e2 : (y1*z1 + x1*z1) * (y2*z2 + x2*z2) + (y1*z1 - x1*z1) * (y2*z2 - x2*z2) = 2*z1*z2*(y1*y2 + x1*x2) := by grind
  have e3 : z1*z2*2 + x1*y1*z1*(d+d)*(x2*y2*z2) = 2*z1*z2*(1 + d*x1*x2*y1*y2) := by grind
  have e4 : z1*z2*2 - x1*y1*z1*(d+d)*(x2*y2*z2) = 2*z1*z2*(1 - d*x1*x2*y1*y2) := by grind
  rw [e1, e2, e3, e4, ← hX, ← hY]
  grind
theorem ring_neg (a b c e : R) : c * e - (-1) * a * b = c * e + a * b := by grind
theorem ring_one' (a : R) : a * 1 = a := by grind
theorem ring_near (a z i : R) (h : z * i = 1) : a * z * i = a := by grind
theorem rep_z (d x1 y1 z1 x2 y2 z2 : R) :
    (z1*z2*2 - x1*y1*z1*(d+d)*(x2*y2*z2)) * (z1*z2*2 + x1*y1*z1*(d+d)*(x2*y2*z2)) = (2 * z1 * z2) * (2 * z1 * z2) * ((1 + d*x1*x2*y1*y2) * (1 - d*x1*x2*y1*y2)) := by grind
end
theorem neg_one_aux (a b c e : F) : c * e - (-1) * a * b = c * e + a * b := ring_neg a b c e
theorem ring_one (a : F) : a * 1 = a := ring_one' a
theorem near_aux (a z i : F) (h : z * i = 1) : a * z * i = a := ring_near a z i h
theorem Rep.add {p q : F4} {P Q : EP} (hp : Rep p P) (hq : Rep q Q) : Rep (fAdd p q) (P + Q) := by
  obtain ⟨z1, x1, y1, t1⟩ := hp
  obtain ⟨z2, x2, y2, t2⟩ := hq
  have hX : (P + Q).x * (1 + toF dN * P.x * Q.x * P.y * Q.y) = P.x * Q.y + Q.x * P.y := add_x P Q
  have hY : (P + Q).y * (1 - toF dN * P.x * Q.x * P.y * Q.y) = P.y * Q.y + P.x * Q.x := by
    have h : (P + Q).y * (1 - toF dN * P.x * Q.x * P.y * Q.y) = P.y * Q.y - (-1) * P.x * Q.x := add_y P Q
    rw [h]
    generalize P.x = a; generalize Q.x = b; generalize P.y = c; generalize Q.y = e
    exact neg_one_aux a b c e
  have np : (1 + toF dN * P.x * Q.x * P.y * Q.y) ≠ 0 := comp_p P Q
  have nm : (1 - toF dN * P.x * Q.x * P.y * Q.y) ≠ 0 := comp_m P Q
  refine ⟨?_, ?_, ?_, ?_⟩
  · show (p.z * q.z * 2 - p.t * (toF dN + toF dN) * q.t) * (p.z * q.z * 2 + p.t * (toF dN + toF dN) * q.t) ≠ 0
    rw [t1, t2, rep_z]
    have h2 := F_ne_mul (F_ne_mul F_two_ne z1) z2
    exact F_ne_mul (F_ne_mul h2 h2) (F_ne_mul np nm)
  · show ((p.y + p.x) * (q.y + q.x) - (p.y - p.x) * (q.y - q.x)) * (p.z * q.z * 2 - p.t * (toF dN + toF dN) * q.t) = (P + Q).x * ((p.z * q.z * 2 - p.t * (toF dN + toF dN) * q.t) * (p.z * q.z * 2 + p.t * (toF dN + toF dN) * q.t))
    rw [t1, t2, x1, x2, y1, y2]
    exact rep_x _ _ _ _ _ _ _ _ 0 hX
  · show (p.z * q.z * 2 + p.t * (toF dN + toF dN) * q.t) * ((p.y + p.x) * (q.y + q.x) + (p.y - p.x) * (q.y - q.x)) = (P + Q).y * ((p.z * q.z * 2 - p.t * (toF dN + toF dN) * q.t) * (p.z * q.z * 2 + p.t * (toF dN + toF dN) * q.t))
    rw [t1, t2, x1, x2, y1, y2]
    exact rep_y _ _ _ _ _ _ _ _ hY
  · show ((p.y + p.x) * (q.y + q.x) - (p.y - p.x) * (q.y - q.x)) * ((p.y + p.x) * (q.y + q.x) + (p.y - p.x) * (q.y - q.x)) = (P + Q).x * (P + Q).y * ((p.z * q.z * 2 - p.t * (toF dN + toF dN) * q.t) * (p.z * q.z * 2 + p.t * (toF dN + toF dN) * q.t))
    rw [t1, t2, x1, x2, y1, y2]
    exact rep_t _ _ _ _ _ _ _ _ _ hX hY
def fFar (P : EP) : F4 := ⟨P.x, P.y, 1, P.x * P.y⟩
theorem far_v (P : EP) : pFar P.x.val P.y.val = (fFar P).v := by
  unfold pFar fFar F4.v
  rw [nPro_val2, val_one]
theorem far_rep (P : EP) : Rep (fFar P) P := ⟨F_one_ne, (ring_one P.x).symm, (ring_one P.y).symm, (ring_one (P.x * P.y)).symm⟩
theorem far_O : pFar 0 1 = (fFar (Pt.O : EP)).v := by
  have h := far_v (Pt.O : EP)
  have e : ((Pt.O : EP).y).val = 1 := val_one
  have e0 : ((Pt.O : EP).x).val = 0 := rfl
  rw [e, e0] at h
  exact h
theorem near_v {p : F4} {P : EP} (h : Rep p P) : nPro [p.v.x, nInv p.v.z] = P.x.val ∧ nPro [p.v.y, nInv p.v.z] = P.y.val := by
  obtain ⟨z, x, y, _⟩ := h
  have hi := F_mul_inv z
  constructor
  · show nPro [p.x.val, nInv p.z.val] = _
    rw [nInv_val, nPro_val2, x, near_aux _ _ _ hi]
  · show nPro [p.y.val, nInv p.z.val] = _
    rw [nInv_val, nPro_val2, y, near_aux _ _ _ hi]
/-- The value of a list of bits, from above. -/
theorem tmR_rep (n : Nat) (P : EP) : ∀ (i m : Nat) (o : F4), Rep o (Pt.mul m P) → ∃ o', tmR n (fFar P).v i o.v = F4.v o' ∧ Rep o' (Pt.mul (m * 2 ^ i + n % 2 ^ i) P)
  | 0, m, o, h => ⟨o, rfl, by rw [Nat.pow_zero, Nat.mul_one, Nat.mod_one, Nat.add_zero]; exact h⟩
  | i + 1, m, o, h => by
    have hd := h.add h
    rw [← Pt.add_mul] at hd
    unfold tmR
    have hm : n % 2 ^ (i + 1) = 2 ^ i * (n.testBit i).toNat + n % 2 ^ i := by
      rw [Nat.mod_pow_succ, Nat.toNat_testBit, Nat.add_comm]
    cases hb : n.testBit i with
    | false =>
      obtain ⟨o', h1, h2⟩ := tmR_rep n P i (m + m) _ hd
      refine ⟨o', by simp only [pAdd_v]; exact h1, ?_⟩
      rw [hm, hb]
      have : (m + m) * 2 ^ i + n % 2 ^ i = m * 2 ^ (i + 1) + (2 ^ i * (false).toNat + n % 2 ^ i) := by
        rw [Nat.pow_succ, Nat.add_mul]
        simp only [Bool.toNat_false, Nat.mul_zero, Nat.zero_add]
        rw [← Nat.mul_assoc, Nat.mul_two]
      rw [← this]
      exact h2
    | true =>
      have hs := hd.add (far_rep P)
      rw [show Pt.mul (m + m) P + P = Pt.mul (m + m + 1) P from rfl] at hs
      obtain ⟨o', h1, h2⟩ := tmR_rep n P i (m + m + 1) _ hs
      refine ⟨o', by simp only [pAdd_v]; exact h1, ?_⟩
      rw [hm, hb]
      have : (m + m + 1) * 2 ^ i + n % 2 ^ i = m * 2 ^ (i + 1) + (2 ^ i * (true).toNat + n % 2 ^ i) := by
        rw [Nat.pow_succ, Nat.add_mul, Nat.add_mul, Nat.one_mul]
        simp only [Bool.toNat_true, Nat.mul_one]
        rw [← Nat.mul_assoc, Nat.mul_two]
        omega
      rw [← this]
      exact h2
/-- So many times a point. -/
theorem tm_point (P : EP) (n : Nat) : tmX P.x.val P.y.val n = (Pt.mul (n % T256) P).x.val ∧ tmY P.x.val P.y.val n = (Pt.mul (n % T256) P).y.val := by
  obtain ⟨o, h1, h2⟩ := tmR_rep n P 256 0 (fFar (Pt.O : EP)) (far_rep _)
  have e : 0 * 2 ^ 256 + n % 2 ^ 256 = n % T256 := by rw [Nat.zero_mul, Nat.zero_add, show (2 : Nat) ^ 256 = T256 from by decide +kernel]
  rw [e] at h2
  have hv := near_v h2
  have et : tmP P.x.val P.y.val n = o.v := by unfold tmP; rw [far_v, far_O]; exact h1
  unfold tmX tmY
  rw [et]
  exact hv
/-- The sum of points. -/
def sumP (P : EP) (l : List EP) : EP := l.foldl Pt.add P
theorem sumP_cons (P Q : EP) (l : List EP) : sumP P (Q :: l) = sumP (Pt.add P Q) l := List.foldl_cons ..
theorem sumP_nil (P : EP) : sumP P [] = P := List.foldl_nil ..
theorem padd_eq (P Q : EP) : Pt.add P Q = P + Q := rfl
theorem sum1 (P : EP) : sumP Pt.O [P] = P := by rw [sumP_cons, sumP_nil, padd_eq, Pt.O_add]
theorem sum2 (P Q : EP) : sumP Pt.O [P, Q] = P + Q := by rw [sumP_cons, sumP_cons, sumP_nil, padd_eq, padd_eq, Pt.O_add]
theorem sum3 (P Q S : EP) : sumP Pt.O [P, Q, S] = P + Q + S := by rw [sumP_cons, sumP_cons, sumP_cons, sumP_nil, padd_eq, padd_eq, padd_eq, Pt.O_add]
def vP (P : EP) : Nat × Nat := (P.x.val, P.y.val)
theorem pAdd_far (o : F4) (Q : EP) : pAdd nTwice o.v (pFar (vP Q).1 (vP Q).2) = (fAdd o (fFar Q)).v := (congrArg (pAdd nTwice o.v) (far_v Q)).trans (pAdd_v o (fFar Q))
theorem adP_rep (l : List EP) : ∀ (P : EP) (o : F4), Rep o P → ∃ o' : F4, adP o.v (l.map vP) = o'.v ∧ Rep o' (sumP P l) := by
  induction l with
  | nil => exact fun P o h => ⟨o, rfl, h⟩
  | cons Q l ih =>
    intro P o h
    have hs := h.add (far_rep Q)
    have hi := ih (Pt.add P Q) (fAdd o (fFar Q)) hs
    have ea : adP o.v ((Q :: l).map vP) = adP (fAdd o (fFar Q)).v (l.map vP) := by
      rw [List.map_cons, adP, pAdd_far]
    rw [ea, sumP_cons]
    exact hi
theorem ad_point (l : List EP) : adX (l.map vP) = (sumP Pt.O l).x.val ∧ adY (l.map vP) = (sumP Pt.O l).y.val := by
  obtain ⟨o, h1, h2⟩ := adP_rep l Pt.O (fFar (Pt.O : EP)) (far_rep _)
  have hv := near_v h2
  have et : adP (pFar 0 1) (l.map vP) = o.v := by rw [far_O]; exact h1
  unfold adX adY
  rw [et]
  exact hv
end Go.Proofs.Ytgeldhdijochdaa.Am
/- Plain law: which numbers are a point; a point's bytes; what bytes are read as. Conditions: none. -/
namespace Go.Proofs.Ytgeldhdijochdaa.Am
set_option linter.unusedVariables false
set_option linter.unusedSimpArgs false
open Go
open Pl
set_option linter.unusedSectionVars false
variable [GT]
abbrev T255 : Nat := 57896044618658097711785492504343953926634992332820282019728792003956564819968
theorem pP_255 : pP < T255 := by decide +kernel
theorem numEq_iff {a b : Nat} (ha : a < T256) (hb : b < T256) : numEq a b = true ↔ a = b := by
  unfold numEq
  rw [beq_iff_eq]
  refine ⟨fun h => ?_, fun h => by rw [h]⟩
  have h1 := wdV a
  have h2 := wdV b
  rw [Nat.mod_eq_of_lt ha] at h1
  rw [Nat.mod_eq_of_lt hb] at h2
  rw [← h1, ← h2]
  unfold words at h
  simp only [List.cons.injEq, and_true] at h
  obtain ⟨e0, e1, e2, e3⟩ := h
  simp only [word_wd] at e0 e1 e2 e3
  rw [show wd a 0 = wd b 0 by omega, show wd a 1 = wd b 1 by omega, show wd a 2 = wd b 2 by omega, show wd a 3 = wd b 3 by omega]
theorem numEq_val (f g : F) : numEq f.val g.val = true ↔ f = g := by
  rw [numEq_iff (Nat.lt_trans f.isLt pP_T) (Nat.lt_trans g.isLt pP_T)]
  exact ⟨Fin.ext, fun h => by rw [h]⟩
theorem numEq_self (a : Nat) : numEq a a = true := by unfold numEq; exact beq_self_eq_true _
theorem nLess_val (f : F) : nLess f.val pP = true := by
  unfold nLess
  rw [val_mod, Nat.mod_eq_of_lt pP_T]
  exact decide_eq_true f.isLt
theorem nZero_val (f : F) : nZero f.val = decide (f = 0) := by
  unfold nZero
  rw [val_mod]
  by_cases h : f = 0
  · rw [decide_eq_true h, h]; rfl
  · rw [decide_eq_false h]
    exact decide_eq_false fun e => h (Fin.ext e)
section
variable {R : Type} [Lean.Grind.CommRing R]
theorem good_eq (d x y : R) (h : (-1) * x * x + y * y = 1 + d * x * x * y * y) : y * y - x * x = 1 + d * (x * x) * (y * y) := by grind
theorem on_of (d x y i : R) (hi : (d * (y * y) + 1) * i = 1) (h : x * x = (y * y - 1) * i) : (-1) * x * x + y * y = 1 + d * x * x * y * y := by
  have e : x * x * (d * (y * y) + 1) = y * y - 1 := by
    rw [h]
    generalize d * (y * y) + 1 = u at *
    generalize y * y - 1 = v at *
    grind
  grind
theorem oa_eq (d x y i : R) (hi : (d * (y * y) + 1) * i = 1) (h : (-1) * x * x + y * y = 1 + d * x * x * y * y) : (y * y - 1) * i = x * x := by
  have e : y * y - 1 = x * x * (d * (y * y) + 1) := by grind
  rw [e]
  generalize d * (y * y) + 1 = u at *
  grind
theorem den_eq (d y i j : R) (hj : j * j = -1) (hi : y * i = 1) (h : d * (y * y) + 1 = 0) : (j * i) * (j * i) = d := by
  have e : d * (y * y) = -1 := by grind
  have e2 : (j * i) * (j * i) = (j * j) * (i * i) := by grind
  rw [e2, hj, ← e]
  have e3 : d * (y * y) * (i * i) = d * ((y * i) * (y * i)) := by grind
  rw [e3, hi]
  grind
theorem sub_zero_eq (a : R) : 0 - a = -a := by grind
theorem zero_aux (a : R) : a * (0 * 0) + 1 = 1 := by grind
theorem nn_eq (a : R) : - -a = a := by grind
theorem near_aux'' (a z i : R) (h : z * i = 1) : a * z * i = a := by grind
theorem neg_sq (a : R) : (-a) * (-a) = a * a := by grind
end
theorem neg_neg' (a : F) : - -a = a := nn_eq a
theorem near_aux' (a z i : F) (h : z * i = 1) : a * z * i = a := near_aux'' a z i h
theorem den_ne (y : F) : toF dN * (y * y) + 1 ≠ 0 := by
  intro h
  by_cases hy : y = 0
  · rw [hy] at h
    rw [zero_aux] at h
    exact F_one_ne h
  · exact dN_ns _ (den_eq _ _ _ _ iN_sq (F_mul_inv hy) h)
theorem good_val (P : EP) : nGood P.x.val P.y.val = true := by
  unfold nGood
  rw [nLess_val, nLess_val, nPro_val2, nPro_val2, nSub_val, nFac_val, nPro_val3, ← val_one, nSum_val2, Bool.true_and, Bool.true_and, numEq_val]
  exact good_eq _ _ _ P.on
theorem nOA_val (y : F) : nOA y.val = ((y * y - 1) * Pl.inv (toF dN * (y * y) + 1)).val := by
  unfold nOA
  rw [nPro_val2, nFac_val, nPro_val2, ← val_one, nSub_val, nSum_val2, nInv_val, nPro_val2]
theorem oa_point (P : EP) : nOA P.y.val = (P.x * P.x).val := by
  rw [nOA_val]
  exact congrArg Fin.val (oa_eq _ _ _ _ (F_mul_inv (den_ne P.y)) P.on)
/-! ### Roots -/
theorem nRoot_of {a r : Nat} (h : r < pP ∧ r % 2 = 0 ∧ r * r % pP = a % T256 % pP) : nRoot a = r := by
  have hex : ∃ r : Nat, r < pP ∧ r % 2 = 0 ∧ r * r % pP = a % T256 % pP := ⟨r, h⟩
  unfold nRoot
  rw [dif_pos hex]
  exact root_uni (Nat.mod_lt _ (by decide +kernel)) hex.choose_spec h
def evR (x : F) : F := if x.val % 2 = 0 then x else -x
theorem neg_val {x : F} (h : x.val % 2 = 1) : (-x).val = pP - x.val := by
  rw [Fin.val_neg, if_neg]
  intro e
  rw [e] at h
  exact absurd h (by decide +kernel)
theorem evR_even (x : F) : (evR x).val % 2 = 0 := by
  unfold evR
  split
  · assumption
  · rename_i h
    have := x.isLt
    have ho := pP_odd
    rw [neg_val (by omega)]
    omega
theorem evR_sq (x : F) : evR x * evR x = x * x := by
  unfold evR
  split
  · rfl
  · exact neg_sq x
theorem nRoot_sq (x : F) : nRoot (x * x).val = (evR x).val := nRoot_of ⟨(evR x).isLt, evR_even x, by
  rw [← Fin.val_mul, evR_sq, val_mod, val_modp]⟩
theorem nIsSq_sq (x : F) : nIsSq (x * x).val = true := by
  unfold nIsSq
  exact @decide_eq_true _ (Classical.propDecidable _) ⟨x.val, by rw [← Fin.val_mul, val_mod, val_modp]⟩
theorem nIsSq_ex {a : F} (h : nIsSq a.val = true) : ∃ x : F, x * x = a := by
  unfold nIsSq at h
  obtain ⟨x, hx⟩ := @of_decide_eq_true _ (Classical.propDecidable _) h
  refine ⟨toF x, ?_⟩
  rw [val_mod, val_modp] at hx
  rw [← toF_mul]
  exact Fin.ext (by rw [toF_val]; exact hx)
theorem nSub0_val (x : F) : nSub 0 x.val = (-x).val := by
  have h := nSub_val 0 x
  rw [sub_zero_eq] at h
  exact h
/-! ### Reading -/
theorem yv (N : Nat) (h : N % T255 < pP) : N % T255 = (toF (N % T255)).val := val_of h
theorem rd_cases (N : Nat) (hN : N < T256) : (∃ P : EP, rdV N = ⟨P.x.val, P.y.val, 0⟩ ∧ P.y.val + T255 * (P.x.val % 2) = N) ∨ rdV N = ⟨0, 0, 5⟩ := by
  have hT : T256 = 2 * T255 := by decide +kernel
  unfold rdV
  cases h1 : nLess (N % T255) pP
  · exact .inr (if_pos rfl)
  rw [if_neg (by decide)]
  have hlt : N % T255 < pP := by
    unfold nLess at h1
    have := of_decide_eq_true h1
    rw [Nat.mod_eq_of_lt pP_T, Nat.mod_eq_of_lt (show N % T255 < T256 from Nat.lt_of_le_of_lt (Nat.mod_le _ _) hN)] at this
    exact this
  have hy := yv N hlt
  generalize toF (N % T255) = y at hy
  rw [hy]
  cases h2 : nIsSq (nOA y.val)
  · exact .inr (if_pos rfl)
  rw [if_neg (by decide)]
  rw [nOA_val] at h2
  obtain ⟨r, hr⟩ := nIsSq_ex h2
  have e : nOA y.val = (r * r).val := by rw [nOA_val, ← hr]
  have hon : ∀ s : F, s * s = r * r → (-1) * s * s + y * y = 1 + toF dN * s * s * y * y := fun s hs => on_of _ _ _ _ (F_mul_inv (den_ne y)) (hs.trans hr)
  rw [e, nRoot_sq]
  by_cases h3 : T255 ≤ N
  · rw [if_pos h3]
    rw [nZero_val]
    by_cases h4 : evR r = 0
    · rw [decide_eq_true h4, if_pos rfl]
      exact .inr rfl
    · rw [decide_eq_false h4, if_neg (by decide)]
      refine .inl ⟨⟨-(evR r), y, hon _ (by rw [neg_sq, evR_sq])⟩, by rw [nSub0_val], ?_⟩
      show y.val + T255 * ((-(evR r)).val % 2) = N
      have hne : (evR r).val ≠ 0 := fun e => h4 (Fin.ext e)
      have hv : (-(evR r)).val = pP - (evR r).val := by rw [Fin.val_neg, if_neg h4]
      have := (evR r).isLt
      have he := evR_even r
      have ho := pP_odd
      have hm : N % T255 = N - T255 := by rw [Nat.mod_eq_sub_mod h3, Nat.mod_eq_of_lt (by omega)]
      rw [hv, show (pP - (evR r).val) % 2 = 1 by omega, ← hy, hm]
      omega
  · rw [if_neg h3]
    refine .inl ⟨⟨evR r, y, hon _ (evR_sq r)⟩, rfl, ?_⟩
    show y.val + T255 * ((evR r).val % 2) = N
    have hm : N % T255 = N := Nat.mod_eq_of_lt (by omega)
    rw [evR_even, ← hy, hm, Nat.mul_zero, Nat.add_zero]
/-- The number that a point's bytes are. -/
def ptN (P : EP) : Nat := P.y.val + T255 * (P.x.val % 2)
theorem ptN_lt (P : EP) : ptN P < T256 := by
  have hT : T256 = 2 * T255 := by decide +kernel
  have h1 := P.y.isLt
  have h2 := pP_255
  unfold ptN
  have : P.x.val % 2 ≤ 1 := by omega
  have : T255 * (P.x.val % 2) ≤ T255 * 1 := Nat.mul_le_mul_left _ this
  omega
theorem ptN_y (P : EP) : ptN P % T255 = P.y.val := by
  have h1 := P.y.isLt
  have h2 := pP_255
  unfold ptN
  rw [Nat.add_mul_mod_self_left, Nat.mod_eq_of_lt (Nat.lt_trans h1 h2)]
theorem ptN_x (P : EP) : T255 ≤ ptN P ↔ P.x.val % 2 = 1 := by
  have h1 := P.y.isLt
  have h2 := pP_255
  unfold ptN
  have h3 : P.x.val % 2 = 0 ∨ P.x.val % 2 = 1 := by omega
  rcases h3 with h3 | h3 <;> rw [h3]
  · rw [Nat.mul_zero]; omega
  · rw [Nat.mul_one]; omega
theorem rd_point (P : EP) : rdV (ptN P) = ⟨P.x.val, P.y.val, 0⟩ := by
  unfold rdV
  rw [show (57896044618658097711785492504343953926634992332820282019728792003956564819968 : Nat) = T255 from rfl, ptN_y, nLess_val, if_neg (by decide), oa_point, nIsSq_sq, if_neg (by decide), nRoot_sq, nZero_val]
  by_cases hx : P.x.val % 2 = 1
  · rw [if_pos ((ptN_x P).2 hx)]
    have hxe : evR P.x = -P.x := by unfold evR; rw [if_neg (by omega)]
    have hn : ¬ evR P.x = 0 := by
      rw [hxe]
      intro e
      have h0 := neg_val hx
      rw [e] at h0
      have h1 := P.x.isLt
      have h2 : ((0 : F)).val = 0 := rfl
      omega
    rw [decide_eq_false hn, if_neg (by decide), hxe, nSub0_val, neg_neg' P.x]
  · rw [if_neg fun h => hx ((ptN_x P).1 h)]
    have hxe : evR P.x = P.x := by unfold evR; rw [if_pos (by omega)]
    rw [hxe]
theorem ptN_inj {P Q : EP} (h : ptN P = ptN Q) : P = Q := by
  have h1 := rd_point P
  have h2 := rd_point Q
  rw [h, h2] at h1
  simp only [RV.mk.injEq, and_true] at h1
  exact Pt.ext (Fin.ext h1.1.symm) (Fin.ext h1.2.symm)
/-! ### Bytes -/
theorem byI_leI {l : List Int} (h : is32 l) : byI (leI l) = l := by
  have h1 := bytesOf_le (l.map Int.toNat) fun x hx => by
    obtain ⟨z, hz, rfl⟩ := List.mem_map.1 hx
    have := h.2 z hz
    omega
  rw [List.length_map, h.1] at h1
  have h2 : byI (leI l) = (Pl.bytesOf 32 (leI l)).map fun n : Nat => (n : Int) := by
    unfold byI keyL Pl.bytesOf
    rw [upTo_range, List.map_map, List.map_map, Nat.mod_eq_of_lt (leI_lt h)]
    exact List.map_congr_left fun i _ => by simp only [Function.comp_apply, Nat.zero_add]
  rw [h2, leI_eq, h1, List.map_map]
  refine (List.map_congr_left fun z hz => ?_).trans (List.map_id l)
  have := h.2 z hz
  simp only [Function.comp_apply, id_eq]
  omega
theorem leI_byI (N : Nat) : leI (byI N) = N % T256 := by
  unfold leI
  have : (byI N).map Int.toNat = Pl.bytesOf 32 (N % T256) := by
    unfold byI keyL Pl.bytesOf
    rw [upTo_range, List.map_map, List.map_map]
    exact List.map_congr_left fun i _ => by simp only [Function.comp_apply, Nat.zero_add, Int.toNat_natCast]
  rw [this, le_bytes32 (Nat.mod_lt _ (by decide +kernel))]
theorem byI_32 (N : Nat) : is32 (byI N) := ⟨by unfold byI; rw [keyL_len], isBs_keyL fun i _ => by
  have := byteAt_lt (N % T256) i
  omega⟩
theorem leI_inj {a b : List Int} (ha : is32 a) (hb : is32 b) (h : leI a = leI b) : a = b := by rw [← byI_leI ha, ← byI_leI hb, h]
theorem or128 : ∀ a : Nat, a < 128 → ior .u8 (a : Int) 128 = ((a + 128 : Nat) : Int) ∧ ior .u8 (a : Int) 0 = (a : Int) := by decide +kernel
theorem byteAt_low (y c i : Nat) (h : i < 31) : byteAt (y + 256 ^ 31 * c) i = byteAt y i := by
  unfold byteAt
  rw [show 31 = i + (30 - i + 1) by omega, Nat.pow_add, Nat.mul_assoc, Nat.add_mul_div_left _ _ (Nat.pow_pos (by decide)), Nat.pow_succ, Nat.mul_comm (256 ^ (30 - i)) 256, Nat.mul_assoc, Nat.add_mul_mod_self_left]
theorem byteAt_top (y c : Nat) (hy : y < 256 ^ 31 * 128) (hc : c < 256) : byteAt (y + 256 ^ 31 * c) 31 = (y / 256 ^ 31 + c) % 256 := by
  unfold byteAt
  rw [Nat.add_mul_div_left _ _ (Nat.pow_pos (by decide))]
theorem ptB_eq (x y : Nat) (hy : y < T255) : ptB x y = byI (y + T255 * (x % 2)) := by
  have hT : T255 = 256 ^ 31 * 128 := by decide +kernel
  have hT2 : T256 = 2 * T255 := by decide +kernel
  have hx2 : x % 2 ≤ 1 := by omega
  have hle : T255 * (x % 2) ≤ T255 * 1 := Nat.mul_le_mul_left _ hx2
  have hlt : y + T255 * (x % 2) < T256 := by omega
  have hyl : y < T256 := by omega
  have e1 : y + T255 * (x % 2) = y + 256 ^ 31 * (128 * (x % 2)) := by rw [hT, Nat.mul_assoc]
  have h31 : byteAt y 31 < 128 ∧ byteAt y 31 = y / 256 ^ 31 := by
    unfold byteAt
    rw [hT] at hy
    have : y / 256 ^ 31 < 128 := Nat.div_lt_of_lt_mul hy
    omega
  unfold ptB byI
  rw [Nat.mod_eq_of_lt hyl, Nat.mod_eq_of_lt hlt, keyL_get 32 _ 31 (by decide), keyL_set]
  refine keyL_congr fun i hi => ?_
  rw [setF_eq]
  by_cases h : i = 31
  · subst h
    rw [if_pos rfl, e1, byteAt_top _ _ (by rw [← hT]; exact hy) (by omega), ← h31.2]
    have hw : iand .u64 ((words x).getD 0 0) 1 = ((x % 2 : Nat) : Int) := by
      have hx : (words x).getD 0 0 = ((x % 18446744073709551616 : Nat) : Int) := by
        show word x 0 = _
        unfold word
        rw [Nat.pow_zero, Nat.div_one]
      have := iand_nat (x % 18446744073709551616) 1 (by omega) (by decide)
      rw [show ((1 : Nat) : Int) = 1 from rfl] at this
      rw [hx, this, Nat.and_one_is_mod]
      omega
    rw [hw]
    have h3 : x % 2 = 0 ∨ x % 2 = 1 := by omega
    have h4 := or128 (byteAt y 31) h31.1
    rcases h3 with h3 | h3 <;> rw [h3]
    · have : ishl .u8 (IntKind.wrap .u8 ((0 : Nat) : Int)) 7 = 0 := by decide +kernel
      rw [this, h4.2]
      omega
    · have : ishl .u8 (IntKind.wrap .u8 ((1 : Nat) : Int)) 7 = 128 := by decide +kernel
      rw [this, h4.1]
      omega
  · rw [if_neg h, e1, byteAt_low _ _ _ (by omega)]
theorem ptB_point (P : EP) : ptB P.x.val P.y.val = byI (ptN P) := ptB_eq _ _ (Nat.lt_trans P.y.isLt pP_255)
/-! ### The base -/
def bxN : Nat := 15112221349535400772501151409588531511454012693041857206046113283949847762202
def byN : Nat := 46316835694926478169428394003475163141307993866256225615783033603165251855960
def eB : EP := ⟨toF bxN, toF byN, by decide +kernel⟩
theorem nBy_val : nBy = eB.y.val := by
  unfold nBy
  have e4 : (4 : Nat) = (toF 4).val := val_of (by decide +kernel)
  have e5 : (5 : Nat) = (toF 5).val := val_of (by decide +kernel)
  have h5 : toF 5 ≠ 0 := fun e => absurd (congrArg Fin.val e) (by decide +kernel)
  have h : toF 4 = toF byN * toF 5 := by
    rw [← toF_mul, toF_eq]
    decide +kernel
  calc nPro [4, nInv 5] = nPro [(toF 4).val, nInv (toF 5).val] := by rw [← e4, ← e5]
    _ = (toF byN).val := by
      rw [nInv_val, nPro_val2, h]
      exact congrArg Fin.val (near_aux' _ _ _ (F_mul_inv h5))
theorem nBx_val : nBx = eB.x.val := by
  unfold nBx
  rw [nBy_val, oa_point, nRoot_sq]
  have : evR eB.x = eB.x := by
    unfold evR
    rw [if_pos (by decide +kernel)]
  rw [this]
end Go.Proofs.Ytgeldhdijochdaa.Am
