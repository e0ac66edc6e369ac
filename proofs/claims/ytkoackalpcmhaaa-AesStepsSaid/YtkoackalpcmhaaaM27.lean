/- The abstract machine: contracts of functions that only read, whatever shape the cells have. Conditions: none. -/
import Derived.Test.YtkoackalpcmhaaaM26
namespace Go.Proofs.Ytkoackalpcmhaaa.Am
set_option linter.unusedVariables false
set_option linter.unusedSimpArgs false
open Go Go.RowKit

section
variable {P : Program} {ρ : Nat → Loc} {D : Nat → Prop} {N : Nat} {M : List Nat} {G : Nat → Option Blk} {base : Nat}

/-- A contract that makes and changes nothing. -/
theorem ent_pure {f : FuncId} {e : Ent} (hE : EntOK P f e) {args : List SV} {r : Res} (he : e args G base = some r) (ha : r.asm.holds) (hn : r.new = []) (hu : r.upd = []) (hv : svB (fun _ => false) r.val = true) {w : World} (hG : HR ρ D N M G w) (hin : ∀ s ∈ args, s.In D) :
    Calls P f (args.map (SV.conc ρ)).toArray w fun e w' => e = .returned (r.val.conc ρ) ∧ Below w.heap.size w w' := by
  refine (hE.2 args G base r he ha ρ D N M w hG hin (fun id h1 h2 => by rw [hn] at h2; simp at h2; omega)).mono fun e w' ⟨v, hv', ρ', hF⟩ => ⟨?_, (hF.fresh hu).1⟩
  rw [hv', hF.val, SV.conc_congr (D := fun _ => False) (ρ := ρ) (ρ' := ρ') (fun _ h => h.elim) (svB_in (f := fun _ => false) (fun _ h => by cases h) hv)]
/-- What a read of a row needs: one block, to be read. -/
theorem hr_one {w : World} {id : Nat} {b : Blk} (hG : HR ρ D N M G w) (hb : G id = some b) {ty : TypeId} {c : List Seg} (hc : ∀ s ∈ c, s.ids = []) (he : segsVals ρ c = segsVals ρ b.c) : HR (fun _ => ⟨(ρ id).a, widths b.c⟩) (· < 1) w.heap.size [] (fun i => if i = 0 then some ⟨2, ty, c⟩ else none) w := by
  have hcv : ∀ ρ', segsVals ρ' c = segsVals ρ c := fun ρ' => segsVals_congr (D := fun _ => False) (fun _ h => h.elim) fun s hs => Seg.in_ids.2 fun i hi => by rw [hc s hs] at hi; cases hi
  refine ⟨Nat.le_refl _, fun i b' hb' => ?_, fun i b' x hb' hx => ?_, fun i b' x hb' hk hx => ?_, fun i j bi bj x y hi hj hij hk hx hy => ?_⟩
  · split at hb'
    · rename_i hi
      subst hi
      injection hb' with hb'
      subst hb'
      refine ⟨by omega, (fun s hs => Seg.in_ids.2 fun i hi => (by rw [hc s hs] at hi; cases hi)), ?_⟩
      show (segsVals _ c).length ≤ _ ∧ _
      rw [hcv, he]
      refine ⟨by rw [segsVals_len]; exact Nat.le_refl _, ?_⟩
      cases hs : segsVals ρ b.c with
      | nil => exact .inl rfl
      | cons y l =>
        right
        have hok := (hG.blk id b hb).2.2
        obtain ⟨x, hx, _⟩ := hok.cells (j := 0) (u := y) (by rw [hs]; rfl)
        refine ⟨x, hx, fun j u hj => ?_⟩
        rw [← hs] at hj
        obtain ⟨x', hx', hc'⟩ := hok.cells hj
        rw [hx] at hx'
        injection hx' with hx'
        subst hx'
        exact hc'
    · cases hb'
  · split at hb'
    · exact hG.lt id b x hb hx
    · cases hb'
  · split at hb'
    · injection hb' with hb'
      subst hb'
      simp at hk
    · cases hb'
  · split at hi
    · injection hi with hi
      subst hi
      simp at hk
    · cases hi
/-- What reads of several blocks need. -/
theorem hr_ros {w : World} (hG : HR ρ D N M G w) {ρc : Nat → Loc} {k : Nat} {hp0 : List (Nat × Blk)} (h : ∀ i b, look hp0 i = some b → b.k = 2 ∧ i < k ∧ segsIn (· < k) b.c ∧ ∃ id b0, G id = some b0 ∧ ρc i = ⟨(ρ id).a, widths b0.c⟩ ∧ segsVals ρc b.c = segsVals ρ b0.c) : HR ρc (· < k) w.heap.size [] (look hp0) w := by
  refine ⟨Nat.le_refl _, fun i b hb => ?_, fun i b x hb hx => ?_, fun i b x hb hk hx => ?_, fun i j bi bj x y hi hj hij hk hx hy => ?_⟩
  · obtain ⟨h1, h2, h3, id, b0, hb0, hρ, he⟩ := h i b hb
    refine ⟨h2, h3, ?_⟩
    obtain ⟨kk, ty, c⟩ := b
    simp only at h1 he
    subst h1
    show (segsVals _ c).length ≤ _ ∧ _
    rw [he, hρ]
    refine ⟨by rw [segsVals_len]; exact Nat.le_refl _, ?_⟩
    cases hs : segsVals ρ b0.c with
    | nil => exact .inl rfl
    | cons y l =>
      right
      have hok := (hG.blk id b0 hb0).2.2
      obtain ⟨x, hx, _⟩ := hok.cells (j := 0) (u := y) (by rw [hs]; rfl)
      refine ⟨x, hx, fun j u hj => ?_⟩
      rw [← hs] at hj
      obtain ⟨x', hx', hc'⟩ := hok.cells hj
      rw [hx] at hx'
      injection hx' with hx'
      subst hx'
      exact hc'
  · obtain ⟨h1, h2, h3, id, b0, hb0, hρ, he⟩ := h i b hb
    rw [hρ] at hx
    exact hG.lt id b0 x hb0 hx
  · have := (h i b hb).1
    omega
  · have := (h i bi hi).1
    omega
/-- A run that reads, and hands back a value. -/
theorem reach_val {T : List (Nat × Ty)} (hT : TOK P T) {f : FuncId} {fn : Func} (hf : P.funcs[f]? = some fn) {c : Code} (hb : fn.body = some c) {avs : List SV} {k : Nat} {hp0 : List (Nat × Blk)} {todo' : List AI} (hfin : todo' = [] ∨ todo' = [.fin]) {st : St} (hRe : Reaches P 0 [.code c] (start avs fn.ntmps hp0 k []) todo' st) {v : SV} (hv : resVal T st fn.results.toList = some v) (hvb : svB (fun _ => false) v = true) {ρc : Nat → Loc} {w : World} (hlen : Nat.ble avs.length fn.ntmps = true) (hin : ∀ s ∈ avs, s.In (· < k)) (hG : HR ρc (· < k) w.heap.size [] (look hp0) w) (ρ : Nat → Loc) :
    Calls P f (avs.map (SV.conc ρc)).toArray w fun e w' => e = .returned (v.conc ρ) ∧ Below w.heap.size w w' := by
  refine calls_am hf hb (ρ := ρc) (M := []) (nx := k) (hp := hp0) (gl := []) rfl hin (Nat.le_of_ble_eq_true hlen) hG (lk := fun _ => none) (fun x i h => by rcases h with ⟨_, _, h⟩ | h <;> cases h) ?_
  refine hRe _ _ _ _ (fun id x hx => by cases hx) (runs_end hT hfin hv fun ρ1 a1 w1 hrel => ⟨?_, hrel.rel.kept.below⟩)
  rw [SV.conc_congr (D := fun _ => False) (ρ := ρ) (ρ' := ρ1) (fun _ h => h.elim) (svB_in (f := fun _ => false) (fun _ h => by cases h) hvb)]
/-- A run that reads, and hands back new blocks. -/
theorem reach_new {T : List (Nat × Ty)} (hT : TOK P T) {f : FuncId} {fn : Func} (hf : P.funcs[f]? = some fn) {c : Code} (hb : fn.body = some c) {avs : List SV} {k : Nat} {hp0 : List (Nat × Blk)} {todo' : List AI} (hfin : todo' = [] ∨ todo' = [.fin]) {st : St} (hRe : Reaches P 0 [.code c] (start avs fn.ntmps hp0 k []) todo' st) {v : SV} (hv : resVal T st fn.results.toList = some v) {es : List Nat} (hvX : v.allB (expB 0 es fun _ => false) = true) (heX : es.all (esB 0 st.hp (expB 0 es fun _ => false)) = true) (hnd : nodupB es = true)
    {ρc : Nat → Loc} {w : World} (hlen : Nat.ble avs.length fn.ntmps = true) (hin : ∀ s ∈ avs, s.In (· < k)) (hG0 : HR ρc (· < k) w.heap.size [] (look hp0) w) (hG : HR ρ D N M G w) (hfr : ∀ id, base ≤ id → id < base + es.length → ¬ D id) {r : Res} (hr : (r.val, r.new, r.upd) = (v.ren fun e => base + idx e es, newOf st.hp (fun e => base + idx e es) es, [])) :
    Calls P f (avs.map (SV.conc ρc)).toArray w fun e w' => ∃ v', e = .returned v' ∧ ∃ ρ', Fits ρ D N M G base r w ρ' v' w' := by
  simp only [Prod.mk.injEq] at hr
  obtain ⟨hr1, hr2, hr3⟩ := hr
  refine calls_am hf hb (ρ := ρc) (M := []) (nx := k) (hp := hp0) (gl := []) rfl hin (Nat.le_of_ble_eq_true hlen) hG0 (lk := fun _ => none) (fun x i h => by rcases h with ⟨_, _, h⟩ | h <;> cases h) ?_
  refine hRe _ _ _ _ (fun id x hx => by cases hx) (runs_end hT hfin hv fun ρ1 a1 w1 hrel => ⟨_, rfl, ?_⟩)
  have heX := List.all_eq_true.1 heX
  have hesS : ∀ e ∈ es, ([] : List Nat).length ≤ e ∧ ∃ b, look st.hp e = some b ∧ b.k < 2 := fun e he => by
    have := heX e he
    unfold esB at this
    split at this
    · rename_i b hb
      rw [Bool.and_eq_true, Bool.and_eq_true] at this
      exact ⟨Nat.zero_le _, b, hb, Nat.le_of_ble_eq_true this.2.1⟩
    · cases this
  have hesn := nodupB_spec hnd
  obtain ⟨hn1, hn2⟩ := newOf_spec (hp := st.hp) (τ := fun e => base + idx e es) (es := es) fun e he => (hesS e he).2.imp fun _ h => h.1
  refine inl_fits (G1 := look st.hp) (nx := st.nx) (σ := []) (es := es) (mu := []) (Mc := []) hG (fun i id hi => by simp at hi) (fun i j id hi => by simp at hi) hfr hrel.rel.hr hrel.rel.kept (fun i id x hi => by simp at hi) (fun g hg => by cases hg) (fun i hi => by cases hi) hesS (fun i j e h1 h2 => ?_) (τ := fun e => base + idx e es) (fun i id hi => by simp at hi) (fun j e he => ?_) hr1 (by rw [hr2]; exact hn1) (by rw [hr2]; exact hn2) (fun i id b hi => by cases hi) (fun id _ => by rw [hr3]; rfl) (fun _ => rfl) (fun s => expB 0 es (fun _ => false) s = true) (fun s hs => ?_) (SV.allB_all.1 hvX) (fun e he b hb s hs => ?_) (fun i hi => by cases hi)
  · exact (List.getElem?_inj (by
      rcases Nat.lt_or_ge i es.length with h | h
      · exact h
      · rw [List.getElem?_eq_none h] at h1; cases h1) hesn).1 (h1.trans h2.symm)
  · have he' := List.mem_of_getElem? he
    have h1 := idx_get he'
    rw [(List.getElem?_inj (idx_lt he') hesn).1 (h1.trans he.symm)]
  · have key : ∀ id, (memB id es || (Nat.blt id 0 && false)) = true → id ∈ es := fun id h => by
      rw [Bool.and_false, Bool.or_false] at h
      exact memB_mem.1 h
    cases s with
    | v | num | arr | ap => exact ⟨fun id hid => by simp [Seg.ids] at hid, fun _ _ _ _ h => by cases h⟩
    | p id off => exact ⟨fun i hi => by simp [Seg.ids] at hi; subst hi; exact .inl (key _ hs), fun _ _ _ _ h => by cases h⟩
    | s id off len cap => exact ⟨fun i hi => by simp [Seg.ids] at hi; subst hi; exact .inl (key _ hs), fun _ _ _ _ h => by cases h⟩
    | r id off len ad => exact ⟨fun i hi => by simp [Seg.ids] at hi; subst hi; exact .inl (memB_mem.1 hs), fun _ _ _ _ h => by injection h with h; subst h; exact memB_mem.1 hs⟩
  · have := heX e he
    unfold esB at this
    rw [hb] at this
    simp only [Bool.and_eq_true, List.all_eq_true] at this
    exact this.2.2 s hs
end
end Go.Proofs.Ytkoackalpcmhaaa.Am
