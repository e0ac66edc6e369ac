/- The abstract machine: operation by operation: places, slices, what is built in. Conditions: none. -/
import Derived.Test.YtkoackalpcmhaaaM8
namespace Go.Proofs.Ytkoackalpcmhaaa.Am
set_option linter.unusedVariables false
set_option linter.unusedSimpArgs false
open Go Go.RowKit
open Rg (gives)

section
variable {P : Program} {T : List (Nat × Ty)} {ρ : Nat → Loc} {D : Nat → Prop} {N : Nat} {M : List Nat} {G : Nat → Option Blk} {base : Nat} {w : World} {o : Oper} {a : Act} {ev : Operand → Option SV}

theorem natOf_spec {sym : Bool} {hi n : Nat} {s : SV} {p : Asm} (h : natOf sym hi s = some (n, p)) (hp : p.holds) : ∃ k z, s.conc ρ = .int k z ∧ 0 ≤ z ∧ z.toNat = n ∧ n ≤ hi := by
  unfold natOf at h
  split at h
  · rename_i k z
    split at h
    · simp only [Option.some.injEq, Prod.mk.injEq] at h
      obtain ⟨rfl, rfl⟩ := h
      exact ⟨k, z, rfl, hp.1, rfl, hp.2⟩
    · split at h
      · rename_i m
        split at h
        · rename_i hle
          simp only [Option.some.injEq, Prod.mk.injEq] at h
          obtain ⟨rfl, _⟩ := h
          exact ⟨k, _, rfl, by simp, rfl, Nat.le_of_ble_eq_true hle⟩
        · cases h
      · cases h
  · cases h
theorem within_spec {sym : Bool} {A B : Nat} {q : Asm} (hq : within sym A B = some q) (hh : q.holds) : A ≤ B := by
  unfold within at hq
  split at hq
  · simp only [Option.some.injEq] at hq; subst hq; exact hh
  · split at hq
    · rename_i hle; exact Nat.le_of_ble_eq_true hle
    · cases hq
theorem add_add (x : Addr) (m n : Nat) : (x.add m).add n = x.add (m + n) := by
  by_cases h1 : m = 0
  · subst h1; simp [Addr.add]
  · by_cases h2 : n = 0
    · subst h2; simp [Addr.add, h1]
    · simp [Addr.add, h1, h2, Nat.add_assoc]
theorem s_indexAddr_arr (hT : TOK P T) (hG : HR ρ D N M G w) (hev : EvOK a ρ D ev) {t : TypeId} {x i : Operand} (hop : o.op = .indexAddr t x i) {ty : Ty} (ht : look T t = some ty) {n : Nat} {e : TypeId} (hu : ty.u = .arr n e) {te : Ty} (he : look T e = some te) {id off : Nat} (hx : ev x = some (.av (.one (.p id off)))) {b : Blk} (hb : G id = some b) (hk : hasA b = true) {s : SV} (hi : ev i = some s) {sym : Bool} {j : Nat} {p q : Asm} (hj : natOf sym (n - 1) s = some (j, p)) (hp : p.holds) (hn : 1 ≤ n) :
    Sn P o a w ρ D N M G base { val := .av (.one (.p id (plusO off (mulO j te.size)))), asm := q } := by
  have hun : P.underlying t = some (.array n e) := by have := (hT t ty ht).und; rw [hu] at this; exact this
  obtain ⟨k, z, hz, h0, hzj, hle⟩ := natOf_spec (ρ := ρ) hj hp
  obtain ⟨u, ha⟩ := (hG.blk id b hb).2.2.hasA hk
  refine sn_same hG (s := Instr.indexAt t (a.eval x) (a.eval i)) (by unfold execOp; rw [hop]; rfl) ?_ rfl rfl
  rw [(hev x _ hx).1, (hev i _ hi).1, hz, conc_p, conc_p, ha]
  have hlt : 0 ≤ z ∧ z < (n : Int) := by omega
  simp only [Option.map_some, Instr.indexAt, asIntOf, Sem.run_bind, Sem.run_pure, Result.andThen_ok, run_underlying hun, Instr.sureAddr, if_pos hlt, (hT e te he).run_size, hzj, add_add, plusO_eq, mulO_eq]
theorem s_indexAddr_sl (hT : TOK P T) (hG : HR ρ D N M G w) (hev : EvOK a ρ D ev) {t : TypeId} {x i : Operand} (hop : o.op = .indexAddr t x i) {ty : Ty} (ht : look T t = some ty) {e : TypeId} (hu : ty.u = .sl e) {te : Ty} (he : look T e = some te) {sv : SV} (hx : ev x = some sv) {sym : Bool} {id off m : Nat} {b : Blk} {p1 : Asm} (hrow : rowOf sym G sv = some (id, off, m, b, p1)) (hp1 : p1.holds) {s : SV} (hi : ev i = some s) {j : Nat} {p q : Asm} (hj : natOf sym (m - 1) s = some (j, p)) (hp : p.holds) (hm : 1 ≤ m) :
    Sn P o a w ρ D N M G base { val := .av (.one (.p id (plusO off (mulO j te.size)))), asm := q } := by
  have hun : P.underlying t = some (.slice e) := by have := (hT t ty ht).und; rw [hu] at this; exact this
  obtain ⟨k, z, hz, h0, hzj, hle⟩ := natOf_spec (ρ := ρ) hj hp
  obtain ⟨hb, hlen, ad, cap, hconc, hpos⟩ := rowOf_spec hrow hp1 hG
  obtain ⟨y, hy, rfl⟩ := hpos (by omega)
  refine sn_same hG (s := Instr.indexAt t (a.eval x) (a.eval i)) (by unfold execOp; rw [hop]; rfl) ?_ rfl rfl
  rw [(hev x _ hx).1, (hev i _ hi).1, hz, hconc, conc_p, hy]
  have hlt : 0 ≤ z ∧ z < (m : Int) := by omega
  simp only [Option.map_some, Instr.indexAt, asIntOf, Sem.run_bind, Sem.run_pure, Result.andThen_ok, run_underlying hun, if_pos hlt, (hT e te he).run_size, hzj, add_add, plusO_eq, mulO_eq]
theorem s_fieldAddr (hT : TOK P T) (hG : HR ρ D N M G w) (hev : EvOK a ρ D ev) {t : TypeId} {x : Operand} {f : Nat} (hop : o.op = .fieldAddr t x f) {ty : Ty} (ht : look T t = some ty) {fs : List (Nat × TypeId)} (hu : ty.u = .st fs) {id off : Nat} (hx : ev x = some (.av (.one (.p id off)))) {b : Blk} (hb : G id = some b) (hk : hasA b = true) {o' n : Nat} (hpl : place T (.st fs) f = some (o', n)) (hn : 1 ≤ n) :
    Sn P o a w ρ D N M G base { val := .av (.one (.p id (off + o'))) } := by
  have hun : UOK P t (.st fs) := by have := (hT t ty ht).und; rw [hu] at this; exact this
  obtain ⟨fields, hd, hfs, pls, hpls⟩ := hun
  have hp := place_st hT hfs hpls hpl
  obtain ⟨u, ha⟩ := (hG.blk id b hb).2.2.hasA hk
  -- the field itself
  simp only [place] at hpl
  split at hpl
  · rename_i off' t' hft
    rw [hfs, List.getElem?_map, Option.map_eq_some_iff] at hft
    obtain ⟨fl, hfl, hft⟩ := hft
    simp only [Prod.mk.injEq] at hft
    obtain ⟨rfl, rfl⟩ := hft
    split at hpl
    · rename_i ty' hty'
      simp only [Option.some.injEq, Prod.mk.injEq] at hpl
      obtain ⟨rfl, rfl⟩ := hpl
      refine sn_same hG (s := Instr.fieldAt t (a.eval x) f) (by unfold execOp; rw [hop]; rfl) ?_ rfl rfl
      rw [(hev x _ hx).1, conc_p, conc_p, ha]
      have hfl' : fields[f]? = some fl := by simpa using hfl
      have hsz := (hT _ _ hty').run_size (w := w)
      simp only [Option.map_some, Instr.fieldAt, Sem.run_bind, Sem.run_pure, Result.andThen_ok, run_underlying hd, hfl', Instr.sureAddr, fieldPlace, hsz]
      rw [if_neg (by omega)]
      simp only [Sem.run_pure, Result.andThen_ok, add_add]
    · cases hpl
  · cases hpl
theorem s_arrPtr (hT : TOK P T) (hG : HR ρ D N M G w) (hev : EvOK a ρ D ev) {t : TypeId} {x : Operand} (hop : o.op = .sliceToArrayPointer t x) {ty : Ty} (ht : look T t = some ty) {n : Nat} {e : TypeId} (hu : ty.u = .arr n e) {sv : SV} (hx : ev x = some sv) {sym : Bool} {id off m : Nat} {b : Blk} {p1 q : Asm} (hrow : rowOf sym G sv = some (id, off, m, b, p1)) (hp1 : p1.holds) (hnm : n ≤ m) (hn : 1 ≤ n) :
    Sn P o a w ρ D N M G base { val := .av (.one (.p id off)), asm := q } := by
  have hun : P.underlying t = some (.array n e) := by have := (hT t ty ht).und; rw [hu] at this; exact this
  obtain ⟨hb, hlen, ad, cap, hconc, hpos⟩ := rowOf_spec hrow hp1 hG
  obtain ⟨y, hy, rfl⟩ := hpos (by omega)
  refine sn_same hG (s := Instr.arrayAt t (a.eval x)) (by unfold execOp; rw [hop]; rfl) ?_ rfl rfl
  rw [(hev x _ hx).1, hconc, conc_p, hy]
  simp only [Option.map_some, Instr.arrayAt, Sem.run_bind, Sem.run_pure, Result.andThen_ok, run_underlying hun]
  rw [if_neg (by omega)]
  rfl
theorem part_agg {t : TypeId} {ty : Ty} (hty : TyOK P t ty) (hagg : ty.u.agg = true) {c l : List Seg} {off : Nat} (hl : getSegs c off ty.size = some l) : (part t (segsVals ρ c).toArray off).run P w = .ok (.agg (segsVals ρ l).toArray) w := by
  obtain ⟨e1, _⟩ := getSegs_spec ρ hl
  simp only [part, Sem.run_bind, hty.agg, hagg, if_true, Result.andThen_ok, hty.run_size, Sem.run_pure]
  rw [e1]
  congr 2
  rw [← Array.toList_inj, Array.toList_extract]
  simp [List.extract_eq_take_drop]
theorem part_one {t : TypeId} {ty : Ty} (hty : TyOK P t ty) (hagg : ty.u.agg = false) {c : List Seg} {off : Nat} {u : Value} (hl : (segsVals ρ c)[off]? = some u) : (part t (segsVals ρ c).toArray off).run P w = .ok u w := by
  have : (segsVals ρ c).toArray[off]? = some u := by simpa using hl
  simp [part, hty.agg, hagg, this]
theorem readAt_spec {t : TypeId} {ty : Ty} (hty : TyOK P t ty) {sym : Bool} {c : List Seg} {off : Nat} {s : SV} {p : Asm} (h : readAt ty sym c off = some (s, p)) (hp : p.holds) : (part t (segsVals ρ c).toArray off).run P w = .ok (s.conc ρ) w ∧ (ty.u.agg = false → (segsVals ρ c)[off]? = some (s.conc ρ)) ∧ (ty.u.agg = true → ∃ l, getSegs c off ty.size = some l ∧ s = .av (mkAgg l) ∧ 1 ≤ ty.size) := by
  unfold readAt at h
  split at h
  · rename_i hagg
    split at h
    · rename_i l hl hle
      simp only [Option.some.injEq, Prod.mk.injEq] at h
      obtain ⟨rfl, _⟩ := h
      rw [conc_av, mkAgg_conc]
      exact ⟨part_agg hty hagg hl, (fun h => by rw [hagg] at h; cases h), fun _ => ⟨l, hl, rfl, Nat.le_of_ble_eq_true hle⟩⟩
    · cases h
  · rename_i hagg
    have key : (segsVals ρ c)[off]? = some (s.conc ρ) → _ := fun hh => (⟨part_one hty hagg hh, fun _ => hh, (fun h => by rw [hagg] at h; cases h)⟩ : (part t (segsVals ρ c).toArray off).run P w = .ok (s.conc ρ) w ∧ (ty.u.agg = false → (segsVals ρ c)[off]? = some (s.conc ρ)) ∧ (ty.u.agg = true → ∃ l, getSegs c off ty.size = some l ∧ s = .av (mkAgg l) ∧ 1 ≤ ty.size))
    split at h
    · split at h
      · rename_i k zs
        simp only [Option.some.injEq, Prod.mk.injEq] at h
        obtain ⟨rfl, rfl⟩ := h
        refine key ?_
        rw [segsVals_one]
        have hp' : off < zs.length := hp
        simp [Seg.vals, ofV, SV.conc, AV.conc, Seg.conc, List.getElem?_eq_getElem hp', List.getD_eq_getElem?_getD]
      · rename_i k F n
        simp only [Option.some.injEq, Prod.mk.injEq] at h
        obtain ⟨rfl, rfl⟩ := h
        refine key ?_
        rw [segsVals_one]
        have hp' : off < (F n).length := hp
        simp [Seg.vals, ofV, SV.conc, AV.conc, Seg.conc, List.getElem?_eq_getElem hp', List.getD_eq_getElem?_getD]
      · rename_i m
        simp only [Option.some.injEq, Prod.mk.injEq] at h
        obtain ⟨rfl, rfl⟩ := h
        refine key ?_
        rw [segsVals_one]
        have hp' : off < 4 := hp
        match off, hp' with
        | 0, _ | 1, _ | 2, _ | 3, _ => rfl
      · cases h
    · split at h
      · rename_i x hx
        simp only [Option.some.injEq, Prod.mk.injEq] at h
        obtain ⟨rfl, _⟩ := h
        exact key (cell_spec ρ c off x hx)
      · cases h
theorem s_index (hT : TOK P T) (hG : HR ρ D N M G w) (hev : EvOK a ρ D ev) {t : TypeId} {x i : Operand} (hop : o.op = .index t x i) {ty : Ty} (ht : look T t = some ty) {n : Nat} {e : TypeId} (hu : ty.u = .arr n e) {te : Ty} (he : look T e = some te) {b : AV} (hx : ev x = some (.av b)) (hok : segsOk b.segs = true) {s : SV} (hi : ev i = some s) {sym : Bool} {j : Nat} {p p' q : Asm} (hj : natOf sym (n - 1) s = some (j, p)) (hp : p.holds) (hn : 1 ≤ n) {v : SV} (hr : readAt te sym b.segs (mulO j te.size) = some (v, p')) (hp' : p'.holds) (hagg : ∃ cs, b.conc ρ = .agg cs) :
    Sn P o a w ρ D N M G base { val := v, asm := q } := by
  rw [mulO_eq] at hr
  have hun : P.underlying t = some (.array n e) := by have := (hT t ty ht).und; rw [hu] at this; exact this
  obtain ⟨k, z, hz, h0, hzj, hle⟩ := natOf_spec (ρ := ρ) hj hp
  obtain ⟨cs, hcs⟩ := hagg
  have hcells := AV.cells ρ hok
  rw [hcs] at hcells
  have hcells' : cs = (segsVals ρ b.segs).toArray := hcells
  refine sn_same hG (s := Instr.index t (a.eval x) (a.eval i)) (by unfold execOp; rw [hop]; rfl) ?_ rfl rfl
  rw [(hev x _ hx).1, (hev i _ hi).1, hz, conc_av, hcs, hcells']
  have hlt : 0 ≤ z ∧ z < (n : Int) := by omega
  simp only [Instr.index, asIntOf, Sem.run_bind, Sem.run_pure, Result.andThen_ok, run_underlying hun, if_pos hlt, (hT e te he).run_size, hzj]
  exact (readAt_spec (hT e te he) hr hp').1
theorem s_field (hT : TOK P T) (hG : HR ρ D N M G w) (hev : EvOK a ρ D ev) {t : TypeId} {x : Operand} {f : Nat} (hop : o.op = .field t x f) {ty : Ty} (ht : look T t = some ty) {fs : List (Nat × TypeId)} (hu : ty.u = .st fs) {b : AV} (hx : ev x = some (.av b)) (hok : segsOk b.segs = true) {off : Nat} {t' : TypeId} (hf : fs[f]? = some (off, t')) {ty' : Ty} (ht' : look T t' = some ty') {v : SV} {p' : Asm} (hr : readAt ty' false b.segs off = some (v, p')) (hp' : p'.holds) (hagg : ∃ cs, b.conc ρ = .agg cs) {q : Asm} :
    Sn P o a w ρ D N M G base { val := v, asm := q } := by
  have hun : UOK P t (.st fs) := by have := (hT t ty ht).und; rw [hu] at this; exact this
  obtain ⟨fields, hd, hfs, pls, hpls⟩ := hun
  rw [hfs, List.getElem?_map, Option.map_eq_some_iff] at hf
  obtain ⟨fl, hfl, hft⟩ := hf
  simp only [Prod.mk.injEq] at hft
  obtain ⟨rfl, rfl⟩ := hft
  obtain ⟨cs, hcs⟩ := hagg
  have hcells := AV.cells ρ hok
  rw [hcs] at hcells
  have hcells' : cs = (segsVals ρ b.segs).toArray := hcells
  refine sn_same hG (s := Instr.field t (a.eval x) f) (by unfold execOp; rw [hop]; rfl) ?_ rfl rfl
  rw [(hev x _ hx).1, conc_av, hcs, hcells']
  have hfl' : fields[f]? = some fl := by simpa using hfl
  simp only [Instr.field, Sem.run_bind, Sem.run_pure, Result.andThen_ok, run_underlying hd, hfl', asAgg]
  exact (readAt_spec (hT _ ty' ht') hr hp').1

end
end Go.Proofs.Ytkoackalpcmhaaa.Am
