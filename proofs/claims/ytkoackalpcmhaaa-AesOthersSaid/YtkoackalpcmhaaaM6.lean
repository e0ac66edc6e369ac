/- The abstract machine: operation by operation: build, load, store, arithmetic. Conditions: none. -/
import Derived.Test.YtkoackalpcmhaaaM5
import Derived.Laws.Tables
namespace Go.Proofs.Ytkoackalpcmhaaa.Am
set_option linter.unusedVariables false
set_option linter.unusedSimpArgs false
open Go Go.RowKit
open Rg (gives)

theorem mapM_at {α β : Type} {f : α → Option β} : ∀ {l : List α} {r : List β}, l.mapM f = some r → ∀ {i : Nat} {x : α}, l[i]? = some x → ∃ y, f x = some y ∧ r[i]? = some y
  | [], _, _, i, x, hx => by cases hx
  | a :: l, r, h, i, x, hx => by
    rw [List.mapM_cons] at h
    simp only [Option.bind_eq_bind, Option.pure_def] at h
    cases ha : f a with
    | none => simp [ha] at h
    | some y =>
      cases hr : l.mapM f with
      | none => simp [ha, hr] at h
      | some r' =>
        simp only [ha, hr, Option.bind_some, Option.some.injEq] at h
        subst h
        cases i with
        | zero =>
          simp only [List.getElem?_cons_zero, Option.some.injEq] at hx
          subst hx
          exact ⟨y, ha, rfl⟩
        | succ i =>
          simp only [List.getElem?_cons_succ] at hx ⊢
          exact mapM_at hr hx

section
variable {P : Program} {T : List (Nat × Ty)} {ρ : Nat → Loc} {D : Nat → Prop} {N : Nat} {M : List Nat} {G : Nat → Option Blk} {base : Nat} {w : World} {o : Oper} {a : Act} {ev : Operand → Option SV}

theorem place_arr (hT : TOK P T) {n : Nat} {e : TypeId} {te : Ty} (he : look T e = some te) {i : Nat} {x : Nat × Nat} (h : place T (.arr n e) i = some x) : some (i * te.size, te.size) = some x := by
  simp only [place, he] at h
  exact h
theorem place_st (hT : TOK P T) {fs : List (Nat × TypeId)} {fields : Array Field} (hfs : fs = fields.toList.map fun f => (f.offset, f.type)) {pls : List (Nat × Nat)} (hp : fields.toList.mapM (fun f => (P.info? f.type).map fun i => (f.offset, i.size)) = some pls) {i : Nat} {x : Nat × Nat} (h : place T (.st fs) i = some x) : pls.toArray[i]? = some x := by
  simp only [place] at h
  split at h
  · rename_i off t hft
    rw [hfs, List.getElem?_map, Option.map_eq_some_iff] at hft
    obtain ⟨f, hf, hft⟩ := hft
    simp only [Prod.mk.injEq] at hft
    obtain ⟨rfl, rfl⟩ := hft
    split at h
    · rename_i ty hty
      simp only [Option.some.injEq] at h
      subst h
      obtain ⟨y, hy, hr⟩ := mapM_at hp hf
      obtain ⟨inf, hi, hs, _⟩ := (hT _ _ hty).info
      rw [hi] at hy
      simp only [Option.map_some, Option.some.injEq] at hy
      subst hy
      simpa [hs] using hr
    · cases h
  · cases h

theorem parts_list (parts : Array (Nat × Operand)) : (parts.map fun x => (x.1, a.eval x.2)).toList = parts.toList.map fun x => (x.1, a.eval x.2) := by simp
theorem s_build_arr (hT : TOK P T) (hG : HR ρ D N M G w) (hev : EvOK a ρ D ev) {t : TypeId} {parts : Array (Nat × Operand)} (hop : o.op = .build t parts) {ty : Ty} (ht : look T t = some ty) {n : Nat} {e : TypeId} (hu : ty.u = .arr n e) {te : Ty} (he : look T e = some te) {l : List Seg} (hl : fillIn (place T (.arr n e)) ev ty.zero.segs parts.toList = some l) :
    Sn P o a w ρ D N M G base { val := .av (normNum l) } := by
  have hty := hT t ty ht
  have hun : P.underlying t = some (.array n e) := by have := hty.und; rw [hu] at this; exact this
  refine sn_same hG (s := Instr.build t (parts.map fun x => (x.1, a.eval x.2))) (by unfold execOp; rw [hop]; rfl) ?_ rfl rfl
  simp only [SV.conc]
  rw [normNum_conc]
  have hf := fillIn_spec hev (pl' := fun i => some (i * te.size, te.size)) (fun i x hx => place_arr hT he hx) _ _ _ hl
  have hsz := (hT e te he).run_size (w := w)
  simp only [Instr.build, Sem.run_bind, hty.run_zero ρ, run_underlying hun, Result.andThen_ok, AV.cells ρ hty.zok, hsz, parts_list, hf, Sem.run_pure]
theorem s_build_st (hT : TOK P T) (hG : HR ρ D N M G w) (hev : EvOK a ρ D ev) {t : TypeId} {parts : Array (Nat × Operand)} (hop : o.op = .build t parts) {ty : Ty} (ht : look T t = some ty) {fs : List (Nat × TypeId)} (hu : ty.u = .st fs) {l : List Seg} (hl : fillIn (place T (.st fs)) ev ty.zero.segs parts.toList = some l) :
    Sn P o a w ρ D N M G base { val := .av (mkAgg l) } := by
  have hty := hT t ty ht
  have hun : UOK P t (.st fs) := by have := hty.und; rw [hu] at this; exact this
  obtain ⟨fields, hd, hfs, pls, hpls⟩ := hun
  refine sn_same hG (s := Instr.build t (parts.map fun x => (x.1, a.eval x.2))) (by unfold execOp; rw [hop]; rfl) ?_ rfl rfl
  simp only [SV.conc]
  rw [mkAgg_conc]
  have hf := fillIn_spec hev (pl' := (pls.toArray[·]?)) (fun i x hx => place_st hT hfs hpls hx) _ _ _ hl
  have hrp := run_places (P := P) w fields.toList pls hpls
  simp [Instr.build, hty.run_zero ρ, run_underlying hd, AV.cells ρ hty.zok, Array.mapM_eq_mapM_toList, hrp, parts_list]
  simp at hf
  simp [hf]

end
end Go.Proofs.Ytkoackalpcmhaaa.Am
