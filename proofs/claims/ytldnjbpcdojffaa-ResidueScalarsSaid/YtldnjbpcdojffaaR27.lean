/- What slices.Backward over a row of bytes hands to each loop body: the row's bytes, the last one first. Conditions: the row has at most 1000 bytes. -/
import Derived.RangeFuncBox
import Derived.RangeFuncLeaves
import Derived.RangeFuncNested
import Derived.RangeFuncBound
import Derived.RangeFuncCalls
import Derived.Shelf.Abstract
import Derived.Shelf.RegionOpen
import Derived.WalkKit
import Derived.OwnWalkIn
import Derived.TacticsInMore
import Derived.LoopNIn
import Derived.LoopIn
import Derived.Test.YtldnjbpcdojffaaProg
namespace Go.Proofs.Ytldnjbpcdojffaa
set_option linter.unusedVariables false
set_option linter.unusedSimpArgs false
open Go Go.RowKit Go.Shelf
attribute [local go_sem] Oper.semAt_some

/-- The slice sv holds the bytes zs, in a block below n; or it is nil and there are none. -/
def Bts (n : Nat) (W : World) (sv : Value) (zs : List Nat) : Prop :=
  (sv = .slice none 0 0 ∧ zs = []) ∨ ∃ x cap, sv = .slice (some x) zs.length cap ∧ x.block < n ∧ ∀ j, j < zs.length → W.cell? (x.add j) = some (.int .u8 ((zs[j]?.getD 0 : Nat) : Int))
theorem add_block (x : Addr) (j : Nat) : (x.add j).block = x.block := by unfold Addr.add; split <;> rfl
theorem Bts.below {n : Nat} {A B : World} (h : Below n A B) {sv : Value} {zs : List Nat} : Bts n A sv zs → Bts n B sv zs
  | .inl e => .inl e
  | .inr ⟨x, cap, e, hb, hc⟩ => .inr ⟨x, cap, e, hb, fun j hj => (h.cell (p := x.add j) (by rw [add_block]; exact hb)).trans (hc j hj)⟩
theorem Bts.up {n m : Nat} {A : World} (hn : n ≤ m) {sv : Value} {zs : List Nat} : Bts n A sv zs → Bts m A sv zs
  | .inl e => .inl e
  | .inr ⟨x, cap, e, hb, hc⟩ => .inr ⟨x, cap, e, Nat.lt_of_lt_of_le hb hn, hc⟩

/-- A place and a byte. -/
abbrev PB := { p : Nat × Nat // p.2 < 256 }
abbrev pbs (p : PB) : Array Value := #[.int .i64 (p.1.1 : Int), .int .u8 (p.1.2 : Int)]
/-- What comes when m bytes are left. -/
def pbAt (zs : List Nat) (m : Nat) : PB := ⟨(m, zs[m]?.getD 0 % 256), Nat.mod_lt _ (by decide)⟩
/-- What has come when m bytes are left. -/
def pbUp (zs : List Nat) (m : Nat) : List PB := ((List.range (zs.length - m)).map fun j => pbAt zs (zs.length - 1 - j))
theorem pbUp_all (zs : List Nat) : pbUp zs zs.length = [] := by simp [pbUp]
theorem pbUp_len (zs : List Nat) {m : Nat} : (pbUp zs m).length = zs.length - m := by simp [pbUp]
theorem pbUp_step (zs : List Nat) {m : Nat} (h : m < zs.length) : pbUp zs m = pbUp zs (m + 1) ++ [pbAt zs m] := by
  unfold pbUp
  rw [show zs.length - m = zs.length - (m + 1) + 1 by omega, List.range_succ, List.map_append, List.map_cons, List.map_nil, show zs.length - 1 - (zs.length - (m + 1)) = m by omega]

/-- What a round keeps: all below n, and block Bs. -/
def KpB (n Bs : Nat) (A B : World) : Prop := Below n A B ∧ B.heap[Bs]? = A.heap[Bs]?
theorem KpB.refl (n Bs : Nat) (A : World) : KpB n Bs A A := ⟨Below.refl _ _, rfl⟩
theorem KpB.trans {n Bs : Nat} {A B C : World} (h : KpB n Bs A B) (k : KpB n Bs B C) : KpB n Bs A C := ⟨h.1.trans k.1, k.2.trans h.2⟩
theorem KpB.cell {n Bs : Nat} {A B : World} (h : KpB n Bs A B) (i : Nat) : B.cell? ⟨Bs, i, none⟩ = A.cell? ⟨Bs, i, none⟩ := World.cell?_of_block h.2

theorem wrap_pred {q : Nat} (h : q < 1000) : wrap64 ((q : Int) - 1) = (q : Int) - 1 := by unfold wrap64; omega

set_option maxRecDepth 100000 in
set_option maxHeartbeats 2000000 in
theorem back1_in (F : Fence) (n : Nat) (hf : F.fn 57) (hro : F.round = none) (hn : 1 ≤ n) (l Bs n0 cap : Nat) (x : Addr) (zs : List Nat) (hz : ∀ j, j < zs.length → zs[j]?.getD 0 < 256) (hlen : zs.length ≤ 1000) (hb : x.block < n0) (J Jx : List PB → World → Prop)
    (hY : ∀ pre p W, J pre W → pre.length < zs.length → YieldAt F (n - 1) Try.prog l (pbs p) W fun e W' =>
      (e = .returned (.bool true) ∧ J (pre ++ [p]) W' ∧ KpB n0 Bs W W') ∨ (e = .returned (.bool false) ∧ Jx (pre ++ [p]) W'))
    (W : World) (hBs : W.cell? ⟨Bs, 0, none⟩ = some (.slice (some x) zs.length cap)) (hc : ∀ j, j < zs.length → W.cell? (x.add j) = some (.int .u8 ((zs[j]?.getD 0 : Nat) : Int))) (h0 : J [] W) :
    CallsIn F n Try.prog 57 #[.func (.yield l) #[] #[], .pointer (some ⟨Bs, 0, none⟩)] W fun e W' => (∃ v, e = .returned v) ∧
      ((∃ ys, ys = pbUp zs 0 ∧ J ys W') ∨ (∃ pre, (∃ m, m < zs.length ∧ pre = pbUp zs m) ∧ Jx pre W')) := by
  refine callsIn_of_wp Try.func57 rfl hf ?_ hro
  simp only [Try.ntmps57, List.size_toArray, List.length_cons, List.length_nil, Nat.reduceAdd, Nat.reduceSub, Array.replicate_succ, Array.replicate_zero, List.push_toArray, List.append_toArray, List.nil_append, List.cons_append]
  gi_wp2
  gi_loopw [3] (fun i wr => ∃ m : Nat, ∃ z : Int, i = .int .i64 z ∧ z = (m : Int) - 1 ∧ m ≤ zs.length ∧ J (pbUp zs m) wr ∧ KpB n0 Bs W wr)
    (fun i _ => (intOf i + 1).toNat)
  case atStart => exact ⟨zs.length, _, rfl, rfl, Nat.le_refl _, by rw [pbUp_all]; exact h0, KpB.refl _ _ _⟩
  case round =>
    obtain ⟨m, z, rfl, hz1, hm, hJs, hnx⟩ := hrel
    have hBs' := (hnx.cell 0).trans hBs
    rcases m with _ | q
    · obtain rfl : z = -1 := by omega
      clear hz1
      gi_wp2
      go_end0
      exact ⟨⟨_, rfl⟩, .inl ⟨_, rfl, hJs⟩⟩
    · obtain rfl : z = (q : Int) := by omega
      clear hz1
      have hcx := (hnx.1.cell (p := x.add q) (by rw [add_block]; exact hb)).trans (hc q (by omega))
      have hzq := hz q (by omega)
      obtain ⟨fn, tmps, assign, body, hy, hR⟩ := hY _ (pbAt zs q) wr hJs (by rw [pbUp_len]; omega)
      simp only [pbs, pbAt, Nat.mod_eq_of_lt hzq] at hy
      gi_wp2
      refine hR.mono ?_
      rintro e W3 (⟨rfl, hJ3, hk3⟩ | ⟨rfl, hJx3⟩)
      · gi_wp2
        go_roundw
        case rel => exact ⟨q, _, rfl, rfl, by omega, by rw [pbUp_step zs (by omega)]; exact hJ3, hnx.trans hk3⟩
        case measure => simp only [intOf]; omega
      · gi_wp2
        refine bodyPost_ret (results_none rfl _ _ _) rfl ?_
        exact ⟨⟨_, rfl⟩, .inr ⟨_, ⟨q, by omega, (pbUp_step zs (by omega)).symm⟩, hJx3⟩⟩

set_option maxRecDepth 100000 in
set_option maxHeartbeats 1000000 in
theorem back1_nil_in (F : Fence) (n : Nat) (hf : F.fn 57) (hro : F.round = none) (l Bs : Nat) (J : List PB → World → Prop) (W : World) (hBs : W.cell? ⟨Bs, 0, none⟩ = some (.slice none 0 0)) (h0 : J [] W) :
    CallsIn F n Try.prog 57 #[.func (.yield l) #[] #[], .pointer (some ⟨Bs, 0, none⟩)] W fun e W' => (∃ v, e = .returned v) ∧ J [] W' := by
  refine callsIn_of_wp Try.func57 rfl hf ?_ hro
  simp only [Try.ntmps57, List.size_toArray, List.length_cons, List.length_nil, Nat.reduceAdd, Nat.reduceSub, Array.replicate_succ, Array.replicate_zero, List.push_toArray, List.append_toArray, List.nil_append, List.cons_append]
  gi_wp2
  gi_loopw [3] (fun i wr => i = .int .i64 (-1) ∧ J [] wr) (fun _ _ => 0)
  case atStart => exact ⟨rfl, h0⟩
  case round =>
    obtain ⟨rfl, hJs⟩ := hrel
    gi_wp2
    go_end0
    exact ⟨⟨_, rfl⟩, hJs⟩

set_option maxHeartbeats 1000000 in
theorem back_in (F : Fence) (n : Nat) (hf : F.fn 51) (hro : F.round = none) (a : Option Addr) (len cap : Nat) (w : World) :
    CallsIn F n Try.prog 51 #[.slice a len cap] w fun e w' => e = .returned (.func (.func 57) #[] #[.pointer (some ⟨w.heap.size, 0, none⟩)]) ∧ w' = w.alloc (.cells #[.slice a len cap] 22) := by
  refine callsIn_of_wp Try.func51 rfl hf ?_ hro
  simp only [Try.ntmps51, List.size_toArray, List.length_cons, List.length_nil, Nat.reduceAdd, Nat.reduceSub, Array.replicate_succ, Array.replicate_zero, List.push_toArray, List.append_toArray, List.nil_append, List.cons_append]
  gi_wp2
  go_ret
  exact ⟨rfl, rfl⟩

/-- slices.Backward hands back a value that comes up with all of the row's bytes, the last one first, or with some, where a round leaves. -/
theorem back_stops (F : Fence) (n : Nat) (hf : F.fn 57) (hro : F.round = none) (hn : 1 ≤ n) (Bs n0 : Nat) (sv : Value) (zs : List Nat) (hz : ∀ j, j < zs.length → zs[j]?.getD 0 < 256) (hlen : zs.length ≤ 1000) (w : World) (hBs : Bs < w.heap.size) (hn0 : n0 ≤ w.heap.size)
    (hc : w.cell? ⟨Bs, 0, none⟩ = some sv) (hI : Bts n0 w sv zs) :
    SeqStopsK F n Try.prog 57 #[.pointer (some ⟨Bs, 0, none⟩)] pbs (KpB n0 Bs) (fun ys => ys = pbUp zs 0)
      (fun pre => ∃ m, m < zs.length ∧ pre = pbUp zs m) zs.length w := fun l J Jx W hW _ _ hY h0 => by
  have hc' := (hW.cell (p := ⟨Bs, 0, none⟩) hBs).trans hc
  rcases hI.below (hW.mono hn0) with ⟨rfl, rfl⟩ | ⟨x, cap, rfl, hb, hcs⟩
  · exact (back1_nil_in F n hf hro l Bs J W hc' h0).mono fun e W' ⟨he, hj⟩ => ⟨he, .inl ⟨_, rfl, hj⟩⟩
  · exact back1_in F n hf hro hn l Bs n0 cap x zs hz hlen hb J Jx hY W hc' hcs h0

end Go.Proofs.Ytldnjbpcdojffaa
