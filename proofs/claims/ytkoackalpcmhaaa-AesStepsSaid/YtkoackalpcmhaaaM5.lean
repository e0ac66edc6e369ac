/- The abstract machine: operation by operation, first half. Conditions: none. -/
import Derived.Test.YtkoackalpcmhaaaM4
import Derived.WalkSpells
namespace Go.Proofs.Ytkoackalpcmhaaa.Am
set_option linter.unusedVariables false
set_option linter.unusedSimpArgs false
open Go Go.RowKit
open Rg (gives)

section
variable {P : Program} {T : List (Nat × Ty)} {ρ : Nat → Loc} {D : Nat → Prop} {N : Nat} {M : List Nat} {G : Nat → Option Blk} {base : Nat} {w : World} {o : Oper} {a : Act} {ev : Operand → Option SV}

def Sn (P : Program) (o : Oper) (a : Act) (w : World) (ρ : Nat → Loc) (D : Nat → Prop) (N : Nat) (M : List Nat) (G : Nat → Option Blk) (base : Nat) (r : Res) : Prop :=
  gives P o a w fun v w' => ∃ ρ', Fits ρ D N M G base r w ρ' v w'
def EvOK (a : Act) (ρ : Nat → Loc) (D : Nat → Prop) (ev : Operand → Option SV) : Prop := ∀ x s, ev x = some s → a.eval x = s.conc ρ ∧ s.In D

theorem sn_same (hG : HR ρ D N M G w) {s : Sem Value} {r : Res} (he : execOp a.eval o = s.bind fun x => .pure (.value x)) (h : s.run P w = .ok (r.val.conc ρ) w) (hn : r.new = []) (hu : r.upd = []) : Sn P o a w ρ D N M G base r :=
  gives_of he h ⟨ρ, fits_same hG rfl hn hu⟩
theorem sn_pure (hG : HR ρ D N M G w) {r : Res} (he : execOp a.eval o = .pure (.value (r.val.conc ρ))) (hn : r.new = []) (hu : r.upd = []) : Sn P o a w ρ D N M G base r :=
  Rg.gives_value (v := r.val.conc ρ) (w' := w) (by rw [he]; rfl) ⟨ρ, fits_same hG rfl hn hu⟩

theorem s_move (hG : HR ρ D N M G w) (hev : EvOK a ρ D ev) {x : Operand} (hop : o.op = .move x) {s : SV} (hs : ev x = some s) : Sn P o a w ρ D N M G base { val := s } :=
  sn_pure hG (by unfold execOp; rw [hop]; simp only; rw [(hev x s hs).1]; rfl) rfl rfl
theorem s_assign (hG : HR ρ D N M G w) (hev : EvOK a ρ D ev) {x : Operand} (hop : o.op = .assign x) {s : SV} (hs : ev x = some s) : Sn P o a w ρ D N M G base { val := s } :=
  sn_pure hG (by unfold execOp; rw [hop]; simp only; rw [(hev x s hs).1]; rfl) rfl rfl
theorem s_pick (hG : HR ρ D N M G w) (hev : EvOK a ρ D ev) {c x y : Operand} (hop : o.op = .pick c x y) {t : Bool} (hc : ev c = some (ofV (.bool t))) {s : SV} (hs : ev (if t then x else y) = some s) : Sn P o a w ρ D N M G base { val := s } := by
  refine Rg.gives_value (v := s.conc ρ) (w' := w) ?_ ⟨ρ, fits_same hG rfl rfl rfl⟩
  unfold execOp
  rw [hop]
  simp only
  rw [(hev c _ hc).1, ← (hev _ s hs).1]
  cases t <;> simp [asBool, ofV, SV.conc, AV.conc, Seg.conc]
theorem s_alloc (hT : TOK P T) (hG : HR ρ D N M G w) (hf : ¬ D base) {t : TypeId} (hop : o.op = .alloc t) {ty : Ty} (ht : look T t = some ty) : Sn P o a w ρ D N M G base { val := .av (.one (.p base 0)), new := [⟨0, t, ty.zero.segs⟩] } := by
  have hty := hT t ty ht
  refine gives_of (s := Instr.alloc t true (.tuple #[])) (v := .pointer (some ⟨w.heap.size, 0, none⟩)) (w' := w.alloc (.cells (segsVals ρ ty.zero.segs).toArray t)) (by unfold execOp; rw [hop]; rfl) ?_ ⟨_, fits_new hG hf (hty.none_.mono fun _ h => h.elim) rfl rfl ?_⟩
  · simp [Instr.alloc, hty.run_zero ρ, newVar, newRow, AV.cells ρ hty.zok, newObj]
    rfl
  · simp [SV.conc, AV.conc, Seg.conc, up_self, Addr.add_lit]
theorem s_box (hG : HR ρ D N M G w) (hev : EvOK a ρ D ev) (hf : ¬ D base) {t : TypeId} {x : Operand} (hop : o.op = .box t x) {b : AV} (hx : ev x = some (.av b)) (hok : segsOk b.segs = true) : Sn P o a w ρ D N M G base { val := .av (.one (.p base 0)), new := [⟨0, t, b.segs⟩] } := by
  obtain ⟨hv, hin⟩ := hev x _ hx
  refine gives_of (s := Instr.box t (a.eval x)) (v := .pointer (some ⟨w.heap.size, 0, none⟩)) (w' := w.alloc (.cells (segsVals ρ b.segs).toArray t)) (by unfold execOp; rw [hop]; rfl) ?_ ⟨_, fits_new hG hf hin rfl rfl ?_⟩
  · rw [hv]
    simp [Instr.box, newVar, newRow, SV.conc, AV.cells ρ hok, newObj]
    rfl
  · simp [SV.conc, AV.conc, Seg.conc, up_self, Addr.add_lit]

/-! build -/
theorem foldl_set (news : List Value) : ∀ (k off : Nat) (cs : Array Value), off + k + news.length ≤ cs.size → (news.zipIdx k).foldl (fun cs (p : Value × Nat) => cs.setIfInBounds (off + p.2) p.1) cs = (cs.toList.take (off + k) ++ news ++ cs.toList.drop (off + k + news.length)).toArray := by
  induction news with
  | nil => intro k off cs _; simp
  | cons v l ih =>
    intro k off cs h
    simp only [List.length_cons] at h
    rw [List.zipIdx_cons, List.foldl_cons]
    simp only
    rw [ih (k + 1) off _ (by simp; omega)]
    apply congrArg List.toArray
    apply List.ext_getElem?
    intro i
    simp only [Array.toList_setIfInBounds, List.getElem?_append, List.length_append, List.length_take, List.length_set, Array.length_toList, List.getElem?_take, List.getElem?_drop, List.getElem?_set, List.length_cons]
    have e1 : min (off + (k + 1)) cs.size = off + k + 1 := by omega
    have e2 : min (off + k) cs.size = off + k := by omega
    rw [e1, e2]
    rcases Nat.lt_trichotomy i (off + k) with h1 | h1 | h1
    · rw [if_pos (by omega), if_pos (by omega), if_pos (by omega), if_neg (by omega), if_pos (by omega), if_pos (by omega), if_pos (by omega)]
    · subst h1
      rw [if_pos (by omega), if_pos (by omega), if_pos (by omega), if_pos rfl, if_pos (by omega), if_pos (by omega), if_neg (by omega)]
      simp
    · by_cases h2 : i < off + k + 1 + l.length
      · rw [if_pos (by omega), if_neg (by omega), if_pos (by omega), if_neg (by omega)]
        obtain ⟨d, rfl⟩ : ∃ d, i = off + k + 1 + d := ⟨i - (off + k + 1), by omega⟩
        rw [show off + k + 1 + d - (off + k) = d + 1 by omega, List.getElem?_cons_succ]
        congr 1; omega
      · rw [if_neg (by omega), if_neg (by omega), if_neg (by omega)]
        congr 1; omega
theorem fill_at {pl : Nat → Option (Nat × Nat)} {cs : Array Value} {i off n : Nat} {v : Value} {rest : List (Nat × Value)} (hp : pl i = some (off, n)) (hn : v.cells.size = n) (hl : off + n ≤ cs.size) :
    Instr.fill pl cs ((i, v) :: rest) = Instr.fill pl (cs.toList.take off ++ v.cells.toList ++ cs.toList.drop (off + n)).toArray rest := by
  have := foldl_set v.cells.toList 0 off cs (by simp; omega)
  simp only [Nat.add_zero, Array.length_toList, hn] at this
  conv => lhs; unfold Instr.fill
  simp only [hp]
  rw [if_neg (by simp [hn]; omega)]
  congr 1
  rw [← this]
  simp [Array.foldl_toList, ← Array.toList_zipIdx]
theorem fillIn_spec (hev : EvOK a ρ D ev) {pl pl' : Nat → Option (Nat × Nat)} (hpl : ∀ i x, pl i = some x → pl' i = some x) : ∀ (l : List (Nat × Operand)) (c r : List Seg), fillIn pl ev c l = some r →
    Instr.fill pl' (segsVals ρ c).toArray (l.map fun x => (x.1, a.eval x.2)) = some (segsVals ρ r).toArray
  | [], c, r, h => by
    simp only [fillIn, Option.some.injEq] at h
    subst h
    rfl
  | (i, x) :: l, c, r, h => by
    unfold fillIn at h
    split at h
    · rename_i off n b hp hx
      split at h
      · rename_i hw
        simp only [Bool.and_eq_true] at hw
        split at h
        · rename_i c' hput
          obtain ⟨hv, hin⟩ := hev x _ hx
          obtain ⟨e1, e2⟩ := putSegs_spec ρ hput
          have hwn := Nat.eq_of_beq_eq_true hw.1
          have ih := fillIn_spec hev hpl l c' r h
          rw [List.map_cons]
          have hcells := AV.cells ρ hw.2
          rw [fill_at (hpl i _ hp) (by rw [hv]; simp only [SV.conc]; rw [hcells]; simp [segsVals_len, hwn]) (by rw [segsVals_len ρ b.segs, hwn] at e2; simpa using e2)]
          have : (((segsVals ρ c).toArray.toList.take off ++ (a.eval x).cells.toList ++ (segsVals ρ c).toArray.toList.drop (off + n)).toArray) = (segsVals ρ c').toArray := by
            rw [hv]
            simp only [SV.conc]
            rw [hcells, e1, segsVals_len ρ b.segs, hwn]
          rw [this]
          exact ih
        · cases h
      · cases h
    · cases h

end
end Go.Proofs.Ytkoackalpcmhaaa.Am
