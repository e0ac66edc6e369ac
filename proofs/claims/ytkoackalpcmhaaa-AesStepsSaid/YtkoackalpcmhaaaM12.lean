/- The abstract machine: append. Conditions: none. -/
import Derived.Test.YtkoackalpcmhaaaM11
namespace Go.Proofs.Ytkoackalpcmhaaa.Am
set_option linter.unusedVariables false
set_option linter.unusedSimpArgs false
open Go Go.RowKit
open Rg (gives)

section
variable {P : Program} {T : List (Nat × Ty)} {ρ : Nat → Loc} {D : Nat → Prop} {N : Nat} {M : List Nat} {G : Nat → Option Blk} {base : Nat} {w : World} {o : Oper} {a : Act} {ev : Operand → Option SV}

theorem run_append2 (t ty e : TypeId) (i : TypeInfo) (z : Value) (bytes : Nat) (ht : P.underlying t = some (.slice e)) (hi : P.info? e = some i) (hz : i.zero = some z)
    (hsize : i.size = 1) (hby : i.bytes = bytes) (hzs : z.cells.size = 1)
    (v : Value) (n : Nat) (xs : List Value) (hown : w.ownsRow 0 e 1 v n xs)
    (a : Addr) (m c : Nat) (news : List Value) (hl : news.length = m) (hnews : ∀ j u, news[j]? = some u → w.cell? (a.add j) = some u) (h1 : ∀ u ∈ news, u.oneCell' = true)
    (h63 : n + m ≤ maxLen) (hbytes : (n + m) * bytes ≤ 140737488355328) :
    ∃ v' w', (Builtin.append_ #[t, t] ty #[v, .slice (some a) m c]).run P w = .ok v' w' ∧ w'.ownsRow 0 e 1 v' (n + m) (xs ++ news) ∧ w.grownBy w' v.ownBlock ∧ ∀ g, v'.ownBlock = some g → v.ownBlock = some g ∨ w.heap.size ≤ g := by
  rcases hown.2 with ⟨rfl, rfl⟩ | ⟨g, cap, cur, rfl, hbg, hg, hnc, hcm, hcs, htake⟩
  · have hx : xs = [] := List.eq_nil_of_length_eq_zero (by simpa using hown.1)
    subst hx
    obtain ⟨v', w', hr, ho, hgr, _⟩ := run_append_own (P := P) w w.heap.size t ty e i z 1 bytes ht hi hz hsize hby hzs (by decide) (.slice none 0 0) 0 [] (World.ownsRow_nil _ _ _ _) a m c news (by simpa using hl) hnews h1 h63 hbytes (Nat.le_refl _)
    refine ⟨v', w', hr, ⟨ho.1, ?_⟩, hgr, fun g hg => .inr (ho.lt g hg).1⟩
    rcases ho.2 with h | ⟨g, cap, cur, h1, h2, h3⟩
    · exact .inl h
    · exact .inr ⟨g, cap, cur, h1, Nat.zero_le _, h3⟩
  · obtain ⟨v', w', hr, ho, hgr, _⟩ := run_append_own (P := P) w 0 t ty e i z 1 bytes ht hi hz hsize hby hzs (by decide) _ n xs hown a m c news (by simpa using hl) hnews h1 h63 hbytes (Nat.zero_le _)
    refine ⟨v', w', hr, ho, hgr, fun g' hg' => ?_⟩
    by_cases hroom : n + m ≤ cap
    · have hr2 := run_append_room (P := P) w t ty e i ht hi g n cap cur hg a m c news (by rw [hsize]; simpa using hl) hnews h1 hroom (by rw [hsize, hcs]; omega)
      rw [hr2] at hr
      injection hr with hv _
      rw [← hv] at hg'
      exact .inl hg'
    · have holds : ∀ j u, xs[j]? = some u → w.cell? ((⟨g, 0, none⟩ : Addr).add j) = some u := hown.cells (g := g) rfl
      have hr2 := run_append_grow (P := P) w t ty e i z ht hi hz ⟨g, 0, none⟩ n cap xs (by rw [hsize]; exact hown.1) holds a m c news (by rw [hsize]; simpa using hl) hnews (by omega) (by simp only [maxLen] at h63; omega) (growslice_fits (by omega) (by rw [hby]; exact hbytes))
      rw [hr2] at hr
      injection hr with hv _
      rw [← hv] at hg'
      simp only [Value.ownBlock, Option.some.injEq] at hg'
      exact .inr (by omega)

theorem run_append_nilarg (t ty e : TypeId) (i : TypeInfo) (ht : P.underlying t = some (.slice e)) (hi : P.info? e = some i) (ad : Option Addr) (n cap c : Nat) (h : n ≤ cap) :
    (Builtin.append_ #[t, t] ty #[.slice ad n cap, .slice none 0 c]).run P w = .ok (.slice ad n cap) w := by
  cases ad <;> simp [Builtin.append_, run_underlying ht, sizeOf, typeInfo, hi, Builtin.lenOf, h, Builtin.firstCells, storeCells]
theorem oldRow_spec {e : TypeId} {sym : Bool} {x : SV} {old : Option Nat} {c : List Seg} {p : Asm} (hG : HR ρ D N M G w) (h : oldRow e G sym x = some (old, c, p)) (hp : p.holds) (hc : widths c ≤ maxLen) :
    w.ownsRow 0 e 1 (x.conc ρ) (widths c) (segsVals ρ c) ∧ (∀ id, old = some id → ∃ b, G id = some b ∧ b.k < 2) ∧ (∀ g, (x.conc ρ).ownBlock = some g → ∃ id, old = some id ∧ ∃ y, (ρ id).a = some y ∧ y.block = g) ∧ ∃ ad n cap, x.conc ρ = .slice ad n cap ∧ n ≤ cap := by
  unfold oldRow at h
  split at h
  · simp only [Option.some.injEq, Prod.mk.injEq] at h
    obtain ⟨rfl, rfl, _⟩ := h
    exact ⟨World.ownsRow_nil _ _ _ _, (fun id h => by cases h), (fun g h => by simp [SV.conc, AV.conc, Seg.conc, Value.ownBlock] at h), none, 0, 0, rfl, Nat.le_refl _⟩
  · rename_i id len
    split at h
    · rename_i ty c' hb
      have key : Nat.beq ty e = true → len = widths c' → old = some id → c = c' → _ := fun h1 h2 h3 h4 => (by
        have hty := Nat.eq_of_beq_eq_true h1
        subst hty h2 h3 h4
        have hbk := (hG.blk id _ hb).2.2
        have hbk' : w.ownsRow 0 ty 1 (.slice (ρ id).a (segsVals ρ c).length (ρ id).cap) (segsVals ρ c).length (segsVals ρ c) := hbk
        rw [segsVals_len] at hbk'
        have hconc : SV.conc ρ (.av (.one (.r id 0 (widths c) 0))) = .slice (ρ id).a (widths c) (ρ id).cap := by
          simp only [SV.conc, AV.conc, Seg.conc, radr, Nat.sub_zero, ite_self]
          congr 1
          cases (ρ id).a <;> simp [Addr.add]
        rw [hconc]
        refine ⟨hbk', fun i hi => ?_, fun g hg => ?_, _, _, _, rfl, ?_⟩
        · injection hi with hi; subst hi; exact ⟨_, hb, (by simp)⟩
        · cases hra : (ρ id).a with
          | none => rw [hra] at hg; cases hg
          | some y => rw [hra] at hg; injection hg with hg; exact ⟨id, rfl, y, hra, hg⟩
        · rcases hbk'.2 with ⟨hv, hn⟩ | ⟨g, cap, cur, hv, _, _, hnc, _⟩
          · omega
          · injection hv with _ _ hv; omega : w.ownsRow 0 e 1 (SV.conc ρ (.av (.one (.r id 0 len 0)))) (widths c) (segsVals ρ c) ∧ (∀ id, old = some id → ∃ b, G id = some b ∧ b.k < 2) ∧ (∀ g, (SV.conc ρ (.av (.one (.r id 0 len 0)))).ownBlock = some g → ∃ id, old = some id ∧ ∃ y, (ρ id).a = some y ∧ y.block = g) ∧ ∃ ad n cap, SV.conc ρ (.av (.one (.r id 0 len 0))) = .slice ad n cap ∧ n ≤ cap)
      split at h
      · rename_i hty
        simp only [Option.some.injEq, Prod.mk.injEq] at h
        obtain ⟨h3, h4, rfl⟩ := h
        exact key hty hp h3.symm h4.symm
      · rename_i hty
        split at h
        · rename_i hl
          simp only [Option.some.injEq, Prod.mk.injEq] at h
          obtain ⟨h3, h4, _⟩ := h
          exact key hty (Nat.eq_of_beq_eq_true hl) h3.symm h4.symm
        · cases h
      · cases h
    · cases h
  · rename_i id len cap
    split at h
    · rename_i ty c' hb
      have key : Nat.beq ty e = true → len = widths c' → cap = widths c' → old = some id → c = c' → _ := fun h1 h2 h2' h3 h4 => (by
        have hty := Nat.eq_of_beq_eq_true h1
        subst hty h2 h3 h4
        subst h2'
        obtain ⟨g, ha, hg⟩ := (hG.blk id _ hb).2.2
        have hconc : SV.conc ρ (.av (.one (.s id 0 (widths c) (widths c)))) = .slice (some ⟨g, 0, none⟩) (widths c) (widths c) := by
          simp only [SV.conc, AV.conc, Seg.conc, ha, Option.map_some, Addr.add_lit]
        rw [hconc]
        refine ⟨⟨by rw [segsVals_len, Nat.mul_one], .inr ⟨g, _, _, rfl, Nat.zero_le _, hg, Nat.le_refl _, hc, by simp [segsVals_len], by simp [← segsVals_len ρ]⟩⟩, fun i hi => ?_, fun g' hg' => ?_, _, _, _, rfl, Nat.le_refl _⟩
        · injection hi with hi; subst hi; exact ⟨_, hb, (by simp)⟩
        · injection hg' with hg'; exact ⟨id, rfl, _, ha, hg'⟩ : w.ownsRow 0 e 1 (SV.conc ρ (.av (.one (.s id 0 len cap)))) (widths c) (segsVals ρ c) ∧ (∀ id, old = some id → ∃ b, G id = some b ∧ b.k < 2) ∧ (∀ g, (SV.conc ρ (.av (.one (.s id 0 len cap)))).ownBlock = some g → ∃ id, old = some id ∧ ∃ y, (ρ id).a = some y ∧ y.block = g) ∧ ∃ ad n cap', SV.conc ρ (.av (.one (.s id 0 len cap))) = .slice ad n cap' ∧ n ≤ cap')
      split at h
      · rename_i hty
        simp only [Option.some.injEq, Prod.mk.injEq] at h
        obtain ⟨h3, h4, rfl⟩ := h
        exact key hty hp.1 hp.2 h3.symm h4.symm
      · rename_i hty
        split at h
        · rename_i hl
          simp only [Bool.and_eq_true] at hl
          simp only [Option.some.injEq, Prod.mk.injEq] at h
          obtain ⟨h3, h4, _⟩ := h
          exact key hty (Nat.eq_of_beq_eq_true hl.1) (Nat.eq_of_beq_eq_true hl.2) h3.symm h4.symm
        · cases h
      · cases h
    · cases h
  · cases h
theorem oldRow_sl {e : TypeId} {sym : Bool} {x : SV} {old : Option Nat} {c : List Seg} {p : Asm} (hG : HR ρ D N M G w) (h : oldRow e G sym x = some (old, c, p)) (hp : p.holds) : ∃ ad n cap, x.conc ρ = .slice ad n cap ∧ n ≤ cap := by
  unfold oldRow at h
  split at h
  · exact ⟨none, 0, 0, rfl, Nat.le_refl _⟩
  · rename_i id len
    split at h
    · rename_i ty c' hb
      have hbk := (hG.blk id _ hb).2.2
      have hbk' : w.ownsRow 0 ty 1 (.slice (ρ id).a (segsVals ρ c').length (ρ id).cap) (segsVals ρ c').length (segsVals ρ c') := hbk
      rw [segsVals_len] at hbk'
      have hle : widths c' ≤ (ρ id).cap := by
        rcases hbk'.2 with ⟨hv, hn⟩ | ⟨g, cap, cur, hv, _, _, hnc, _⟩
        · omega
        · injection hv with _ _ hv; omega
      have key : len = widths c' → ∃ ad n cap, SV.conc ρ (.av (.one (.r id 0 len 0))) = .slice ad n cap ∧ n ≤ cap := fun hl => ⟨_, _, _, rfl, by omega⟩
      split at h
      · simp only [Option.some.injEq, Prod.mk.injEq] at h
        obtain ⟨_, _, rfl⟩ := h
        exact key hp
      · split at h
        · rename_i hl
          exact key (Nat.eq_of_beq_eq_true hl)
        · cases h
      · cases h
    · cases h
  · rename_i id len cap
    split at h
    · rename_i ty c' hb
      have key : len = widths c' → cap = widths c' → ∃ ad n cap', SV.conc ρ (.av (.one (.s id 0 len cap))) = .slice ad n cap' ∧ n ≤ cap' := fun hl hc => ⟨_, _, _, rfl, by omega⟩
      split at h
      · simp only [Option.some.injEq, Prod.mk.injEq] at h
        obtain ⟨_, _, rfl⟩ := h
        exact key hp.1 hp.2
      · split at h
        · rename_i hl
          simp only [Bool.and_eq_true] at hl
          exact key (Nat.eq_of_beq_eq_true hl.1) (Nat.eq_of_beq_eq_true hl.2)
        · cases h
      · cases h
    · cases h
  · cases h
theorem s_append (hT : TOK P T) (hG : HR ρ D N M G w) (hev : EvOK a ρ D ev) (hf : ¬ D base) {args : Array Operand} {ts : Array TypeId} (hop : o.op = .call { callee := .builtin .append, args := args, argTypes := ts }) {x y : SV} (hx : evs ev args.toList = some [x, y]) {t : TypeId} (hts : ts.toList = [t, t]) {ty : Ty} (ht : look T t = some ty) {e : TypeId} (hu : ty.u = .sl e) {te : Ty} (he : look T e = some te) (hsz : te.size = 1)
    {sym : Bool} {old : Option Nat} {c : List Seg} {p1 : Asm} (ho : oldRow e G sym x = some (old, c, p1)) (hp1 : p1.holds) {id off m : Nat} {b : Blk} {p2 : Asm} (hr : rowOf sym G y = some (id, off, m, b, p2)) (hp2 : p2.holds) {h : Hint} {news : List Seg} {p3 : Asm} (hn : readSegs h b.c off m = some (news, p3)) (hb : (widths c + m) * (te.bytes + 1) ≤ okSize) (hok : segsOk b.c = true)
    {c2 : List Seg} (hc2 : ∀ ρ, segsVals ρ c2 = segsVals ρ c ++ segsVals ρ news) (hin : segsIn D c2) {q : Asm} :
    Sn P o a w ρ D N M G base { val := .av (.one (.r base 0 (widths c + m) 0)), new := [⟨1, e, c2⟩], upd := killOf old, asm := q } := by
  have hty := hT t ty ht
  have hte := hT e te he
  have hun : P.underlying t = some (.slice e) := by have := hty.und; rw [hu] at this; exact this
  obtain ⟨i, hi, hs, hby, hz⟩ := hte.info
  have hbm : widths c + m ≤ okSize := Nat.le_trans (Nat.le_mul_of_pos_right _ (Nat.succ_pos _)) hb
  have hmax : widths c + m ≤ maxLen := by unfold maxLen; unfold okSize at hbm; omega
  obtain ⟨hown, hold, hsv, ad0, n0, cap0, hx0, hnc⟩ := oldRow_spec hG ho hp1 (by omega)
  obtain ⟨hbk, hle, ad, cap, hconc, hpos⟩ := rowOf_spec hr hp2 hG
  obtain ⟨e1, e2⟩ := readSegs_spec ρ hn hle
  have hargs := args_of hev hx
  have hts' : ts = #[t, t] := by apply Array.toList_inj.1; simpa using hts
  have hcells : ∀ u ∈ segsVals ρ news, u.oneCell' = true := fun u hu' => by
    rw [e1] at hu'
    exact segsVals_cell ρ hok u (List.mem_of_mem_drop (List.mem_of_mem_take hu'))
  have hzs : (te.zero.conc noLoc).cells.size = 1 := by
    rw [AV.cells noLoc hte.zok, List.size_toArray, segsVals_len, hte.zsz, hsz]
  have fin : ∀ v' w', (Builtin.append_ ts o.type (args.map a.eval)).run P w = .ok v' w' → w'.ownsRow 0 e 1 v' (widths c + m) (segsVals ρ c ++ segsVals ρ news) → w.grownBy w' (x.conc ρ).ownBlock → (∀ g, v'.ownBlock = some g → (x.conc ρ).ownBlock = some g ∨ w.heap.size ≤ g) → Sn P o a w ρ D N M G base { val := .av (.one (.r base 0 (widths c + m) 0)), new := [⟨1, e, c2⟩], upd := killOf old, asm := q } := by
    intro v' w' hrun h1 h2 h3
    refine s_builtin hop (s := Builtin.append_ ts o.type (args.map a.eval)) rfl hrun ?_
    exact fits_row (c := c) hG hold hf hin (by rw [hc2]; exact h1) h2 hsv h3 rfl rfl rfl
  rcases Option.eq_none_or_eq_some ad with hn0 | ⟨y0, hy0⟩
  · have hm : m = 0 := by
      rcases Nat.eq_zero_or_pos m with h0 | h0
      · exact h0
      · obtain ⟨x', _, hx'⟩ := hpos h0
        rw [hn0] at hx'; cases hx'
    subst hm hn0
    have hnn : segsVals ρ news = [] := List.eq_nil_of_length_eq_zero e2
    refine fin (x.conc ρ) w ?_ (by rw [hnn, List.append_nil]; exact hown) ⟨rfl, rfl, rfl, Nat.le_refl _, fun _ _ _ => rfl⟩ (fun g hg => .inl hg)
    rw [hargs, hts']
    simp only [List.map_cons, List.map_nil, hconc, hx0]
    exact run_append_nilarg t o.type e i hun hi ad0 n0 cap0 cap hnc
  · subst hy0
    have hat : ∀ j u, (segsVals ρ news)[j]? = some u → w.cell? (y0.add j) = some u := by
      intro j u hj
      have hm : 0 < m := by
        have := (List.getElem?_eq_some_iff.1 hj).1; omega
      obtain ⟨x', hx', hx2⟩ := hpos hm
      obtain ⟨y', hy', hcc⟩ := cells_at (l := segsVals ρ news) (off := off) hG hbk (sub_at e1) (by omega)
      rw [hx'] at hy'
      injection hy' with hy'
      subst hy'
      injection hx2 with hx2
      rw [hx2]
      exact hcc j u hj
    obtain ⟨v', w', hrun, h1, h2, h3⟩ := run_append2 (P := P) (w := w) t o.type e i _ te.bytes hun hi hz (by rw [hs, hsz]) hby hzs (x.conc ρ) (widths c) (segsVals ρ c) hown y0 m cap (segsVals ρ news) e2 hat hcells hmax (Nat.le_trans (Nat.mul_le_mul_left _ (Nat.le_succ _)) hb)
    refine fin v' w' ?_ h1 h2 h3
    rw [hargs, hts']
    simp only [List.map_cons, List.map_nil, hconc]
    exact hrun
theorem s_append_nil (hT : TOK P T) (hG : HR ρ D N M G w) (hev : EvOK a ρ D ev) {args : Array Operand} {ts : Array TypeId} (hop : o.op = .call { callee := .builtin .append, args := args, argTypes := ts }) {x y : SV} (hx : evs ev args.toList = some [x, y]) {t : TypeId} (hts : ts.toList = [t, t]) {ty : Ty} (ht : look T t = some ty) {e : TypeId} (hu : ty.u = .sl e) {te : Ty} (he : look T e = some te) (hy : isNil y = true) (hxs : ∃ ad n cap, x.conc ρ = .slice ad n cap ∧ n ≤ cap) {q : Asm} :
    Sn P o a w ρ D N M G base { val := x, asm := q } := by
  have hty := hT t ty ht
  have hte := hT e te he
  have hun : P.underlying t = some (.slice e) := by have := hty.und; rw [hu] at this; exact this
  obtain ⟨i, hi, hs, hby, hz⟩ := hte.info
  obtain ⟨ad, n, cap, hxc, hnc⟩ := hxs
  have hargs := args_of hev hx
  have hts' : ts = #[t, t] := by apply Array.toList_inj.1; simpa using hts
  have hyc : y.conc ρ = .slice none 0 0 := by
    unfold isNil at hy
    split at hy
    · rfl
    · cases hy
  refine s_builtin hop (s := Builtin.append_ ts o.type (args.map a.eval)) rfl (v := x.conc ρ) (w' := w) ?_ ⟨ρ, fits_same hG rfl rfl rfl⟩
  rw [hargs, hts']
  simp only [List.map_cons, List.map_nil, hyc, hxc]
  exact run_append_nilarg t o.type e i hun hi ad n cap 0 hnc

end
end Go.Proofs.Ytkoackalpcmhaaa.Am
