/- The abstract machine: an operation's own run comes to what was reckoned. Conditions: none. -/
import Derived.Test.YtkoackalpcmhaaaM3
import Derived.Laws.AppendOwn
namespace Go.Proofs.Ytkoackalpcmhaaa.Am
set_option linter.unusedVariables false
set_option linter.unusedSimpArgs false
open Go Go.RowKit
open Rg (gives)

def UOK (P : Program) (t : Nat) : U → Prop
  | .int k => P.underlying t = some (.int k)
  | .bool => P.underlying t = some .bool
  | .str => P.underlying t = some .string
  | .arr n e => P.underlying t = some (.array n e)
  | .st fs => ∃ fields : Array Field, P.underlying t = some (.struct fields) ∧ fs = (fields.toList.map fun f => (f.offset, f.type)) ∧ ∃ pls, fields.toList.mapM (fun f => (P.info? f.type).map fun i => (f.offset, i.size)) = some pls
  | .sl e => P.underlying t = some (.slice e)
  | .ptr e => P.underlying t = some (.pointer e)
  | .oth => ∃ d, P.underlying t = some d ∧ (match d with | .struct _ | .array _ _ => false | _ => true) = true
def noLoc : Nat → Loc := fun _ => ⟨none, 0⟩
structure TyOK (P : Program) (t : Nat) (ty : Ty) : Prop where
  info : ∃ i, P.info? t = some i ∧ i.size = ty.size ∧ i.bytes = ty.bytes ∧ i.zero = some (ty.zero.conc noLoc)
  none_ : segsIn (fun _ => False) ty.zero.segs
  zok : segsOk ty.zero.segs = true
  zsz : widths ty.zero.segs = ty.size
  und : UOK P t ty.u
  eqk : ∀ k, ty.eqk = some k → P.eqGuardType P.depth t = false ∧ ∃ n e i, ty.u = .arr n e ∧ P.underlying e = some (.int k) ∧ P.plainKey e = true ∧ P.info? e = some i ∧ i.size = 1
def TOK (P : Program) (T : List (Nat × Ty)) : Prop := ∀ t ty, look T t = some ty → TyOK P t ty

theorem TyOK.agg {P : Program} {t : Nat} {ty : Ty} (h : TyOK P t ty) (w : World) : (isAgg t).run P w = .ok ty.u.agg w := by
  have hu := h.und
  unfold isAgg
  rw [Sem.run_bind]
  cases hq : ty.u with
  | oth =>
    rw [hq] at hu
    obtain ⟨d, hd, hm⟩ := hu
    rw [run_underlying hd]
    cases d <;> simp_all [U.agg]
  | st fs =>
    rw [hq] at hu
    obtain ⟨d, hd, _⟩ := hu
    rw [run_underlying hd]
    rfl
  | _ =>
    rw [hq] at hu
    rw [run_underlying hu]
    rfl
theorem TyOK.zero_conc {P : Program} {t : Nat} {ty : Ty} (h : TyOK P t ty) (ρ : Nat → Loc) : ty.zero.conc ρ = ty.zero.conc noLoc := AV.conc_congr (D := fun _ => False) (fun _ hf => hf.elim) h.none_
theorem TyOK.run_zero {P : Program} {t : Nat} {ty : Ty} (h : TyOK P t ty) (ρ : Nat → Loc) (w : World) : (zeroValue t).run P w = .ok (ty.zero.conc ρ) w := by
  obtain ⟨i, hi, _, _, hz⟩ := h.info
  rw [h.zero_conc ρ]
  simp [zeroValue, typeInfo, hi, hz]
theorem TyOK.run_size {P : Program} {t : Nat} {ty : Ty} (h : TyOK P t ty) (w : World) : (sizeOf t).run P w = .ok ty.size w := by
  obtain ⟨i, hi, hs, _⟩ := h.info
  simp [sizeOf, typeInfo, hi, hs]

/-- A new block, or a block's new contents, or none any more. -/
def appl (G : Nat → Option Blk) (base : Nat) (r : Res) : Nat → Option Blk := fun id =>
  match look r.upd id with
  | some b => b
  | none => if base ≤ id ∧ id < base + r.new.length then r.new[id - base]? else G id
def Dn (D : Nat → Prop) (base n : Nat) : Nat → Prop := fun id => D id ∨ (base ≤ id ∧ id < base + n)

structure Fits (ρ : Nat → Loc) (D : Nat → Prop) (N : Nat) (M : List Nat) (G : Nat → Option Blk) (base : Nat) (r : Res) (w : World) (ρ' : Nat → Loc) (v : Value) (w' : World) : Prop where
  agree : ∀ id, D id → ρ' id = ρ id
  val : v = r.val.conc ρ'
  hr : HR ρ' (Dn D base r.new.length) N M (appl G base r) w'
  kept : Kept N M w w'
  fresh : r.upd = [] → Below w.heap.size w w' ∧ ∀ k b x, r.new[k]? = some b → (ρ' (base + k)).a = some x → w.heap.size ≤ x.block

section
variable {P : Program} {ρ : Nat → Loc} {D : Nat → Prop} {N : Nat} {M : List Nat} {G : Nat → Option Blk} {base : Nat} {w : World} {o : Oper} {a : Act}

theorem HR.monoD {D' : Nat → Prop} (h : HR ρ D N M G w) (hD : ∀ id, D id → D' id) : HR ρ D' N M G w :=
  ⟨h.size, fun id b hb => let ⟨h1, h2, h3⟩ := h.blk id b hb; ⟨hD id h1, h2.mono hD, h3⟩, h.lt, h.own, h.dist⟩

theorem fits_same (hG : HR ρ D N M G w) {r : Res} {v : Value} (hv : v = r.val.conc ρ) (hn : r.new = []) (hu : r.upd = []) : Fits ρ D N M G base r w ρ v w := by
  refine ⟨fun _ _ => rfl, hv, ?_, Kept.refl _ _ _, fun _ => ⟨Below.refl _ _, fun k b x hk => by rw [hn] at hk; cases hk⟩⟩
  have : appl G base r = G := by
    funext id
    unfold appl
    rw [hu, hn]
    simp only [look, List.length_nil]
    rw [if_neg (by omega)]
  rw [this]
  exact hG.monoD fun id h => .inl h

def up (ρ : Nat → Loc) (id : Nat) (l : Loc) : Nat → Loc := fun i => if i = id then l else ρ i
theorem up_self (ρ : Nat → Loc) (id : Nat) (l : Loc) : up ρ id l id = l := if_pos rfl
theorem up_agree {ρ : Nat → Loc} {id : Nat} {l : Loc} (hf : ¬ D id) : ∀ i, D i → up ρ id l i = ρ i := fun i hi => by
  unfold up
  rw [if_neg]
  intro e
  exact hf (e ▸ hi)

/-- A new block of one's own. -/
theorem fits_new (hG : HR ρ D N M G w) {t : TypeId} {c : List Seg} (hf : ¬ D base) (hin : segsIn D c) {r : Res} {v : Value} (hn : r.new = [⟨0, t, c⟩]) (hu : r.upd = [])
    (hv : v = r.val.conc (up ρ base ⟨some ⟨w.heap.size, 0, none⟩, 0⟩)) : Fits ρ D N M G base r w (up ρ base ⟨some ⟨w.heap.size, 0, none⟩, 0⟩) v (w.alloc (.cells (segsVals ρ c).toArray t)) := by
  have hag : ∀ i, D i → up ρ base ⟨some ⟨w.heap.size, 0, none⟩, 0⟩ i = ρ i := up_agree hf
  refine ⟨hag, hv, ?_, Kept.of_below ((Below.refl _ _).alloc hG.size _), fun _ => ⟨(Below.refl _ _).alloc (Nat.le_refl _) _, fun k b x hk hx => ?_⟩⟩
  rotate_left
  · rw [hn] at hk
    cases k with
    | zero =>
      simp only [Nat.add_zero, up_self] at hx
      injection hx with hx
      subst hx
      exact Nat.le_refl _
    | succ k => simp at hk
  have ha : ∀ id, appl G base r id = if id = base then some ⟨0, t, c⟩ else G id := fun id => by
    unfold appl
    rw [hu, hn]
    simp only [look, List.length_cons, List.length_nil]
    by_cases h : id = base
    · subst h; simp
    · rw [if_neg (by omega), if_neg h]
  have hgn : (w.alloc (.cells (segsVals ρ c).toArray t)).heap[w.heap.size]? = some (.cells (segsVals ρ c).toArray t (0, 0)) := heap_new _ _
  refine hG.step (U := fun id => id = base) hag (fun id h => .inl h) (by simp) (fun id b hb hU => ?_) (fun id b x hb hU hx => ?_) (fun id b hb hU => ?_) (fun id b x hb hU hx => ?_) (fun id b x hb hU hk hx => ?_) (fun i j bi bj x y hi hj hij hU hk hx hy => ?_)
  · rw [ha, if_neg hU] at hb; exact hb
  · rw [ha, if_neg hU] at hb
    exact Below.heap_alloc _ _ _ (hG.lt id b x hb hx)
  · subst hU
    rw [ha, if_pos rfl] at hb
    injection hb with hb
    subst hb
    refine ⟨.inr ⟨Nat.le_refl _, by rw [hn]; simp⟩, hin.mono fun i h => .inl h, ?_⟩
    refine ⟨w.heap.size, by rw [up_self], ?_⟩
    rw [segsVals_congr hag hin]
    exact hgn
  · subst hU
    rw [up_self] at hx
    injection hx with hx
    subst hx
    simp
  · subst hU
    rw [up_self] at hx
    injection hx with hx
    subst hx
    exact .inl hG.size
  · rw [ha] at hi hj
    by_cases h1 : i = base
    · subst h1
      rw [if_neg fun e => hij e.symm] at hj
      rw [up_self] at hx
      injection hx with hx
      subst hx
      have hj2 := (hG.blk j bj hj).1
      rw [hag j hj2] at hy
      have := hG.lt j bj y hj hy
      simp only; omega
    · have h2 : j = base := hU.resolve_left h1
      subst h2
      rw [if_neg h1] at hi
      rw [up_self] at hy
      injection hy with hy
      subst hy
      have hi2 := (hG.blk i bi hi).1
      rw [hag i hi2] at hx
      have := hG.lt i bi x hi hx
      simp only; omega

/-- New contents of a block of one's own. -/
theorem fits_put (hG : HR ρ D N M G w) {id : Nat} {b : Blk} (hb : G id = some b) (hk : b.k = 0) {c : List Seg} (hin : segsIn D c) {r : Res} {v : Value} (hn : r.new = []) (hu : r.upd = [(id, some ⟨0, b.ty, c⟩)]) (hv : v = r.val.conc ρ)
    {g : Nat} (hg : (ρ id).a = some ⟨g, 0, none⟩) (hlen : w.heap[g]? = some (.cells (segsVals ρ b.c).toArray b.ty (0, 0))) : Fits ρ D N M G base r w ρ v (w.setRow g (segsVals ρ c).toArray) := by
  have hgo := hG.own id b _ hb (by omega) hg
  simp only at hgo
  have hw : ∀ k, k ≠ g → (w.setRow g (segsVals ρ c).toArray).heap[k]? = w.heap[k]? := fun k hk => setRow_other w g k _ hk
  have hsz : (w.setRow g (segsVals ρ c).toArray).heap.size = w.heap.size := by simp [World.setRow]
  refine ⟨fun _ _ => rfl, hv, ?_, ⟨rfl, rfl, rfl, Nat.le_of_eq hsz.symm, fun k hk hm => hw k fun e => ?_⟩, fun hnil => by rw [hu] at hnil; cases hnil⟩
  · have ha : ∀ i, appl G base r i = if i = id then some ⟨0, b.ty, c⟩ else G i := fun i => by
      unfold appl
      rw [hu, hn]
      simp only [look, List.length_nil]
      by_cases h : i = id
      · subst h; simp
      · have : Nat.beq id i = false := by
          cases hq : Nat.beq id i
          · rfl
          · exact absurd (Nat.eq_of_beq_eq_true hq).symm h
        rw [this, if_neg h]
        simp only
        rw [if_neg (by omega)]
    refine hG.step (U := fun i => i = id) (fun _ _ => rfl) (fun i h => .inl h) (by omega) (fun i b' hb' hU => ?_) (fun i b' x hb' hU hx => ?_) (fun i b' hb' hU => ?_) (fun i b' x hb' hU hx => ?_) (fun i b' x hb' hU hk hx => ?_) (fun i j bi bj x y hi hj hij hU hk hx hy => ?_)
    · rw [ha, if_neg hU] at hb'; exact hb'
    · rw [ha, if_neg hU] at hb'
      refine hw _ fun e => ?_
      have := hG.dist id i b b' _ x hb hb' (fun e => hU e.symm) (by omega) hg hx
      exact this e.symm
    · subst hU
      rw [ha, if_pos rfl] at hb'
      injection hb' with hb'
      subst hb'
      exact ⟨.inl (hG.blk i b hb).1, hin.mono fun i h => .inl h, g, hg, setRow_heap w g _ _ _ _ hlen⟩
    · subst hU
      rw [hsz]
      exact hG.lt i b x hb hx
    · subst hU
      exact hG.own i b x hb (by omega) hx
    · rw [ha] at hi hj
      by_cases h1 : i = id
      · subst h1
        rw [if_neg fun e => hij e.symm] at hj
        exact hG.dist i j b bj x y hb hj hij (by omega) hx hy
      · have h2 : j = id := hU.resolve_left h1
        subst h2
        rw [if_neg h1] at hi
        exact hG.dist i j bi b x y hi hb hij hk hx hy
  · subst e
    rcases hgo with h | h
    · omega
    · exact hm h

theorem gives_of {s : Sem Value} {v : Value} {w' : World} {R : Value → World → Prop} (he : execOp a.eval o = s.bind fun x => .pure (.value x)) (h : s.run P w = .ok v w') (hR : R v w') : gives P o a w R := by
  refine Rg.gives_value (v := v) (w' := w') ?_ hR
  rw [he]
  have : (s >>= fun x => (Sem.pure (Next.value x) : Sem Next)).run P w = .ok (.value v) w' := by
    rw [Sem.run_bind, h]
    rfl
  exact this

end
end Go.Proofs.Ytkoackalpcmhaaa.Am
