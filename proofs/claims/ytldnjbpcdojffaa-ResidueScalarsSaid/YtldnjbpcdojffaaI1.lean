/- @@NUM 25 The walks of the document's Trim and Less on digits. Conditions: rows of at most 2^20 digits. -/
import Derived.Test.YtldnjbpcdojffaaR29
import Derived.Test.YtldnjbpcdojffaaDg
namespace Go.Proofs.Ytldnjbpcdojffaa
set_option linter.unusedVariables false
set_option linter.unusedSimpArgs false
open Go Go.RowKit
open Dg (nv dg Ok Cn)

/-- The slice sv reads as the whole numbers zs, in a block below n; or it is nil and there are none. -/
def RdI (n : Nat) (W : World) (sv : Value) (zs : List Int) : Prop :=
  (sv = .slice none 0 0 ∧ zs = []) ∨ ∃ x cap, sv = .slice (some x) zs.length cap ∧ zs.length ≤ cap ∧ x.block < n ∧ ∀ j, j < zs.length → W.cell? (x.add j) = some (.int .i64 (zs[j]?.getD 0))
theorem RdI.below {n : Nat} {A B : World} (h : Below n A B) {sv : Value} {zs : List Int} : RdI n A sv zs → RdI n B sv zs
  | .inl e => .inl e
  | .inr ⟨x, cap, e, hl, hb, hc⟩ => .inr ⟨x, cap, e, hl, hb, fun j hj => (h.cell (p := x.add j) (by rw [add_block]; exact hb)).trans (hc j hj)⟩
theorem RdI.up {n m : Nat} {A : World} (hn : n ≤ m) {sv : Value} {zs : List Int} : RdI n A sv zs → RdI m A sv zs
  | .inl e => .inl e
  | .inr ⟨x, cap, e, hl, hb, hc⟩ => .inr ⟨x, cap, e, hl, Nat.lt_of_lt_of_le hb hn, hc⟩
theorem RdI.next {A B : World} (h : Below A.heap.size A B) {sv : Value} {zs : List Int} (hr : RdI A.heap.size A sv zs) : RdI B.heap.size B sv zs := (hr.below h).up h.size
theorem RdI.some {n : Nat} {W : World} {sv : Value} {zs : List Int} (h : RdI n W sv zs) : ∃ a cap, sv = .slice a zs.length cap := by
  rcases h with ⟨rfl, rfl⟩ | ⟨x, cap, rfl, _⟩
  · exact ⟨_, _, rfl⟩
  · exact ⟨_, _, rfl⟩

set_option maxHeartbeats 4000000 in
theorem Trim_fact (zs : List Int) (hz : Ok zs) (hb : zs.length ≤ 1048576) (sv : Value) (w : World) (hI : RdI w.heap.size w sv zs) : Calls Try.prog 44 #[sv] w fun e w' => (∃ v, e = .returned v ∧ RdI w'.heap.size w' v (dg (nv zs).toNat)) ∧ Below w.heap.size w w' := by
  have HI := Lib.hid hI; have HZ := Lib.hid hz
  clear hI hz
  go_enter Try.func44, Try.ntmps44
  go_wp2
  go_loopg [0] (zs.length + 1) (fun kq v0 wr => ∃ ys : List Int, Hid (kq = ys.length + 1 ∧ ys.length ≤ 1048576 ∧ Ok ys ∧ nv ys = nv zs) ∧ Hid (RdI w.heap.size wr v0 ys) ∧ Hid (Below w.heap.size w wr))
  case atStart => exact ⟨zs, ⟨rfl, hb, HZ.out, rfl⟩, HI.out, Below.refl _ _⟩
  case round =>
    obtain ⟨ys, HY, HR, HB⟩ := hrel
    obtain ⟨hk, hlen, hok, hnv⟩ := HY.out
    have hR := HR.out
    rcases hR with ⟨rfl, rfl⟩ | ⟨x, cap, rfl, hcap, hxb, hcs⟩
    · go_wp2
      go_ret
      refine ⟨⟨_, rfl, .inl ⟨rfl, ?_⟩⟩, HB.out⟩
      rw [← hnv]; exact Dg.dg_zero
    · by_cases hne : ys = []
      · subst hne
        clear hcs hlen
        simp only [List.length_nil] at *
        go_wp2
        go_ret
        refine ⟨⟨_, rfl, ?_⟩, HB.out⟩
        rw [← hnv, show (nv ([] : List Int)).toNat = 0 from rfl, Dg.dg_zero]
        exact (HR.out.up HB.out.size)
      · obtain ⟨a, d, rfl⟩ : ∃ a d, ys = a ++ [d] := ⟨_, _, (List.dropLast_concat_getLast hne).symm⟩
        obtain ⟨n, hn⟩ : ∃ n, a.length = n := ⟨_, rfl⟩
        have hl : (a ++ [d]).length = n + 1 := by rw [List.length_append, hn]; rfl
        have hcx := hcs n (by omega)
        rw [List.getElem?_append_right (by omega), hn, Nat.sub_self] at hcx
        simp only [List.getElem?_cons_zero, Option.getD_some] at hcx
        have hcs2 : Hid (∀ j, j < n → wr.cell? (x.add j) = some (.int .i64 (a[j]?.getD 0))) := fun j hj => by
          rw [hcs j (by omega), List.getElem?_append_left (by omega)]
        have HXB := Lib.hid hxb
        rw [hl] at hk hcap hlen ⊢
        have HOK := Lib.hid hok; have HNV := Lib.hid hnv
        clear hcs hne hl hxb hok hnv HY
        by_cases hd : d = 0
        · subst hd
          go_wp2
          have e1 := HNV.out
          rw [Dg.nv_snoc, Int.mul_zero, Int.add_zero] at e1
          go_roundg (n + 1)
          case measure => omega
          case rel =>
            refine ⟨a, ⟨by omega, by omega, HOK.out.left, e1⟩, .inr ⟨x, cap, by rw [hn], by omega, HXB.out, by rw [hn]; exact hcs2.out⟩, HB.out⟩
        · go_wp2
          go_ret
          refine ⟨⟨_, rfl, ?_⟩, HB.out⟩
          rw [← HNV.out, Dg.dg_nv HOK.out (fun b y e => by have := List.append_inj_right' e (by simp); simp at this; omega)]
          have := HR.out.up HB.out.size
          rw [List.length_append, hn] at this
          exact this

end Go.Proofs.Ytldnjbpcdojffaa
