/- @@NUM 25 The walk of residue's ScalarMul. Conditions: words are below 2^64. -/
import Derived.Test.YtldnjbpcdojffaaR4
import Derived.Test.YtldnjbpcdojffaaR32
import Derived.Test.YtldnjbpcdojffaaRel3
namespace Go.Proofs.Ytldnjbpcdojffaa
set_option linter.unusedVariables false
set_option linter.unusedSimpArgs false
open Go Go.RowKit
open Pl (V V8 W4 T256 pL le bytesOf)

/-- What all operations keep: what lay below W's end; a row of bytes may be written on with ys behind its first 32. -/
def St5 (ys : List Value) (W w w' : World) : Prop := Below W.heap.size w w' ∧ ∀ k, k < w.heap.size → w'.heap[k]? = w.heap[k]? ∨
  ∃ cs cs' : Array Value, w.heap[k]? = some (.cells cs 5 (0, 0)) ∧ w'.heap[k]? = some (.cells cs' 5 (0, 0)) ∧ cs'.size = cs.size ∧ 32 ≤ cs.size ∧ cs'.toList.take 64 = cs.toList.take 32 ++ ys
theorem st_refl (ys : List Value) (W w : World) : St5 ys W w w := ⟨Below.refl _ _, fun _ _ => .inl rfl⟩
theorem st_of {ys : List Value} {W w w' : World} (h1 : Below W.heap.size W w) (h2 : Below w.heap.size w w') : St5 ys W w w' := ⟨h2.mono h1.size, fun k hk => .inl (h2.block k hk)⟩
theorem st_box {ys : List Value} {W : World} (N : Nat) (cs : Array Value) : Rg.StableS (St5 ys W) (Rg.Box N 25 cs) := fun w w' v h ⟨b, hv, hn, hh⟩ => by
  refine ⟨b, hv, hn, ?_⟩
  rcases h.2 b (Array.getElem?_eq_some_iff.1 hh).1 with h | ⟨c1, c2, h1, _⟩
  · exact h.trans hh
  · rw [hh] at h1; cases h1
/-- A row of n bytes that the call owns. -/
def OwnB (N n : Nat) (xs : List Nat) (w : World) (v : Value) : Prop := w.ownsRow N 5 1 v n (u8s xs)
theorem take_take_32 {l : List Value} {a b : List Value} (h : l.take 64 = a.take 32 ++ b) (ha : 32 ≤ a.length) : l.take 32 = a.take 32 := by
  have h2 := congrArg (List.take 32) h
  rw [List.take_take, List.take_left' (by rw [List.length_take]; omega)] at h2
  exact h2
theorem st_own {ys : List Value} {W : World} (N : Nat) (xs : List Nat) : Rg.StableS (St5 ys W) (OwnB N 32 xs) := fun w w' v h ⟨h1, h2⟩ => by
  refine ⟨h1, ?_⟩
  rcases h2 with h2 | ⟨g, cap, cur, hv, hN, hh, h3, h4, h5, h6⟩
  · exact .inl h2
  · rcases h.2 g (Array.getElem?_eq_some_iff.1 hh).1 with h | ⟨c1, c2, e1, e2, e3, e4, e5⟩
    · exact .inr ⟨g, cap, cur, hv, hN, h.trans hh, h3, h4, h5, h6⟩
    · rw [hh] at e1
      injection e1 with e1
      injection e1 with e1
      subst e1
      exact .inr ⟨g, cap, c2, hv, hN, e2, h3, h4, e3.trans h5, by rw [← h6]; exact take_take_32 e5 (by simpa using e4)⟩
theorem st_own64 {ys xs : List Nat} {W : World} (N : Nat) (hx : xs.length = 32) : Rg.StableS (St5 (u8s ys) W) (OwnB N 64 (xs ++ ys)) := fun w w' v h ⟨h1, h2⟩ => by
  refine ⟨h1, ?_⟩
  rcases h2 with h2 | ⟨g, cap, cur, hv, hN, hh, h3, h4, h5, h6⟩
  · exact .inl h2
  · rcases h.2 g (Array.getElem?_eq_some_iff.1 hh).1 with h | ⟨c1, c2, e1, e2, e3, e4, e5⟩
    · exact .inr ⟨g, cap, cur, hv, hN, h.trans hh, h3, h4, h5, h6⟩
    · rw [hh] at e1
      injection e1 with e1
      injection e1 with e1
      subst e1
      refine .inr ⟨g, cap, c2, hv, hN, e2, h3, h4, e3.trans h5, ?_⟩
      have h7 := congrArg (List.take 32) h6
      rw [List.take_take, u8s_append, List.take_left' (by rw [u8s_length, hx])] at h7
      rw [show 64 * 1 = 64 from rfl, e5, u8s_append]
      congr 1

theorem app_gives {o : Oper} {a : Act} {w W : World} {xs ys : List Nat} (s x : Operand) (hgd : o.op = .call { callee := .builtin .append, args := #[s, x], argTypes := #[22, 22] }) (hB : Below W.heap.size W w) (hx : xs.length = 32) (hy : ys.length = 32)
    (e1 : OwnB W.heap.size 32 xs w (a.eval s)) (e2 : OwnB W.heap.size 32 ys w (a.eval x)) : Rg.gives Try.prog o a w fun v w' => OwnB W.heap.size 64 (xs ++ ys) w' v ∧ St5 (u8s ys) W w w' := by
  obtain ⟨i0, hi, hz0, hz1, hz2⟩ := info_parts info_u8
  have hown := e1
  obtain ⟨_, h2⟩ := e1
  obtain ⟨_, k2⟩ := e2
  have hyl : (u8s ys).length = 32 := by rw [u8s_length, hy]
  have hxl : (u8s xs).length = 32 := by rw [u8s_length, hx]
  rcases h2 with ⟨_, h2⟩ | ⟨g, cap, cur, hv, hN, hh, h3, h4, h5, h6⟩
  · cases h2
  rcases k2 with ⟨_, k2⟩ | ⟨g2, cap2, cur2, kv, kN, kh, k3, k4, k5, k6⟩
  · cases k2
  have hgw := (Array.getElem?_eq_some_iff.1 hh).1
  have hnews : ∀ j u, (u8s ys)[j]? = some u → w.cell? ((⟨g2, 0, none⟩ : Addr).add j) = some u := by
    have := World.ownsRow.cells (w := w) (base := W.heap.size) (e := 5) (size := 1) (n := 32) (v := .slice (some ⟨g2, 0, none⟩) 32 cap2) (xs := u8s ys) ⟨by rw [hyl], .inr ⟨g2, cap2, cur2, rfl, kN, kh, k3, k4, k5, k6⟩⟩ (g := g2) rfl
    exact this
  have h1 : ∀ u ∈ u8s ys, u.oneCell' = true := fun u hu => by
    simp only [u8s, List.mem_map] at hu
    obtain ⟨z, _, rfl⟩ := hu
    rfl
  by_cases hroom : 32 + 32 ≤ cap
  · have hr := run_append_room (P := Try.prog) w 22 o.type 5 i0 Try.underlying22 hi g 32 cap cur hh ⟨g2, 0, none⟩ 32 cap2 (u8s ys) (by rw [hz1, hyl]) hnews h1 hroom (by rw [hz1, hyl, h5]; omega)
    rw [hz1, hyl] at hr
    refine Rg.gives_value (v := .slice (some ⟨g, 0, none⟩) (32 + 32) cap) (w' := w.setRow g (cur.toList.take (32 * 1) ++ u8s ys ++ cur.toList.drop (32 * 1 + 32)).toArray) ?_ ⟨⟨by rw [u8s_length, List.length_append, hx, hy], .inr ⟨g, cap, _, rfl, hN, setRow_heap w g cur _ 5 _ hh, hroom, h4, ?_, ?_⟩⟩, ⟨?_, fun k hk => ?_⟩⟩
    · simp only [execOp, hgd, resolve, invoke, builtin, Sem.run_bind, Sem.run_pure, Result.andThen_ok, List.map_toArray, List.map_cons, List.map_nil, hv, kv, hr]
    · simp only [List.size_toArray, List.length_append, List.length_take, List.length_drop, Array.length_toList, hyl]
      omega
    · have hl : (cur.toList.take (32 * 1) ++ u8s ys).length = 64 := by simp only [List.length_append, List.length_take, Array.length_toList, hyl]; omega
      rw [show 64 * 1 = 64 from rfl, u8s_append, ← h6]
      show List.take 64 _ = _
      rw [← hl]
      exact List.take_left
    · exact ⟨rfl, rfl, rfl, by simp, fun k hk => setRow_other w g k _ (by omega)⟩
    · by_cases hkg : k = g
      · subst hkg
        refine .inr ⟨cur, _, hh, setRow_heap w k cur _ 5 _ hh, ?_, by omega, ?_⟩
        · simp only [List.size_toArray, List.length_append, List.length_take, List.length_drop, Array.length_toList, hyl]
          omega
        · have hl : (cur.toList.take 32 ++ u8s ys).length = 64 := by simp only [List.length_append, List.length_take, Array.length_toList, hyl]; omega
          show List.take 64 _ = _
          rw [← hl]
          exact List.take_left
      · exact .inl (setRow_other w g k _ hkg)
  · have holds : ∀ j u, (u8s xs)[j]? = some u → w.cell? ((⟨g, 0, none⟩ : Addr).add j) = some u := by
      rw [hv] at hown
      exact World.ownsRow.cells hown (g := g) rfl
    have hr := run_append_grow (P := Try.prog) w 22 o.type 5 i0 (.int .u8 0) Try.underlying22 hi hz0 ⟨g, 0, none⟩ 32 cap (u8s xs) (by rw [hz1, hxl]) holds ⟨g2, 0, none⟩ 32 cap2 (u8s ys) (by rw [hz1, hyl]) hnews (by omega) (by omega) (by rw [hz2]; exact growslice_fits (by omega) (by omega))
    have hge := grownCap_ge w (32 + 32) cap 5
    have hcm := grownCap_le_maxLen w (32 + 32) cap 5 (by unfold maxLen; omega)
    have hBd := st_of (ys := u8s ys) hB (w' := w.drew.alloc (.cells ((u8s xs).toArray ++ (u8s ys).toArray ++ Builtin.zeroCells (Value.int .u8 0).cells (grownCap w (32 + 32) cap 5 - (32 + 32))) 5)) ((Below.refl w.heap.size w).drew.alloc (Nat.le_refl _) _)
    refine Rg.gives_value (v := .slice (some ⟨w.heap.size, 0, none⟩) (32 + 32) (grownCap w (32 + 32) cap 5)) ?_ ⟨⟨by rw [u8s_length, List.length_append, hx, hy], .inr ⟨w.heap.size, _, _, rfl, hB.size, heap_alloc_new w.drew _, hge, hcm, ?_, ?_⟩⟩, hBd⟩
    · simp only [execOp, hgd, resolve, invoke, builtin, Sem.run_bind, Sem.run_pure, Result.andThen_ok, List.map_toArray, List.map_cons, List.map_nil, hv, kv, hr]
    · simp only [Array.size_append, List.size_toArray, size_zeroCells, hxl, hyl]
      have : (Value.int .u8 0).cells.size = 1 := rfl
      rw [this]; omega
    · simp only [Array.toList_append, List.append_assoc]
      rw [← List.append_assoc, ← u8s_append]
      have hl : (u8s (xs ++ ys)).length = 64 * 1 := by rw [u8s_length, List.length_append, hx, hy]
      rw [← hl]
      exact List.take_left

end Go.Proofs.Ytldnjbpcdojffaa
