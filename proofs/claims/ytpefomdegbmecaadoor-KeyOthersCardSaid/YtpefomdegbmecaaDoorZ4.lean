/- The abstract machine: append. Conditions: none. -/
import Derived.Test.YtpefomdegbmecaaDoorZ3
import Derived.Laws.IdiomCopy
set_option linter.unusedSectionVars false
namespace Go.Proofs.YtpefomdegbmecaaDoor.Am
set_option linter.unusedVariables false
set_option linter.unusedSimpArgs false
open Go Go.RowKit
open Rg (gives)

section
variable {P : Program} {T : List (Nat × Ty)} {ρ : Nat → Loc} {D : Nat → Prop} {N : Nat} {M : List Nat} {G : Nat → Option Blk} {base : Nat} {w : World} {o : Oper} {a : Act} {ev : Operand → Option SV}
variable [GT]

omit [GT] in
theorem run_append2 (t ty e : TypeId) (i : TypeInfo) (z : Value) (bytes : Nat) (ht : P.underlying t = some (.slice e)) (hi : P.info? e = some i) (hz : i.zero = some z)
    (hsize : i.size = 1) (hby : i.bytes = bytes) (hzs : z.cells.size = 1)
    (v : Value) (n : Nat) (xs : List Value) (hown : w.ownsRow 0 e 1 v n xs)
    (a : Addr) (m c : Nat) (news : List Value) (hl : news.length = m) (hnews : ∀ j u, news[j]? = some u → w.cell? (a.add j) = some u) (h1 : ∀ u ∈ news, u.oneCell' = true)
    (h63 : n + m ≤ maxLen) (hbytes : (n + m) * bytes ≤ 140737488355328) :
    ∃ v' w', (Builtin.append_ #[t, t] ty #[v, .slice (some a) m c]).run P w = .ok v' w' ∧ w'.ownsRow 0 e 1 v' (n + m) (xs ++ news) ∧ w.grownBy w' v.ownBlock ∧ ∀ g, v'.ownBlock = some g → v.ownBlock = some g ∨ w.heap.size ≤ g := by
  rcases hown.2 with ⟨rfl, rfl⟩ | ⟨g, cap, cur, rfl, hbg, hg, hnc, hcm, hcs, htake⟩
  · have hx : xs = [] := List.eq_nil_of_length_eq_zero (by simpa using hown.1)
    subst hx
    obtain ⟨v', w', hr, ho, hgr, _⟩ := run_append_own (P := P) w w.heap.size t ty e i z 1 bytes ht hi hz hsize hby hzs (by decide) (.slice none 0 0) 0 [] (World.ownsRow_nil _ _ _ _) a m c news (by simpa using hl) hnews h1 h63 hbytes (Nat.le_refl _)
    refine ⟨v', w', hr, ⟨ho.1, ?_⟩, hgr, fun g hg => .inr (ho.lt g hg).1⟩
    rcases ho.2 with h | ⟨g, cap, cur, h1, h2, h3⟩
    · exact .inl h
    · exact .inr ⟨g, cap, cur, h1, Nat.zero_le _, h3⟩
  · obtain ⟨v', w', hr, ho, hgr, _⟩ := run_append_own (P := P) w 0 t ty e i z 1 bytes ht hi hz hsize hby hzs (by decide) _ n xs hown a m c news (by simpa using hl) hnews h1 h63 hbytes (Nat.zero_le _)
    refine ⟨v', w', hr, ho, hgr, fun g' hg' => ?_⟩
    by_cases hroom : n + m ≤ cap
    · have hr2 := run_append_room (P := P) w t ty e i ht hi g n cap cur hg a m c news (by rw [hsize]; simpa using hl) hnews h1 hroom (by rw [hsize, hcs]; omega)
      rw [hr2] at hr
      injection hr with hv _
      rw [← hv] at hg'
      exact .inl hg'
    · have holds : ∀ j u, xs[j]? = some u → w.cell? ((⟨g, 0, none⟩ : Addr).add j) = some u := hown.cells (g := g) rfl
      have hr2 := run_append_grow (P := P) w t ty e i z ht hi hz ⟨g, 0, none⟩ n cap xs (by rw [hsize]; exact hown.1) holds a m c news (by rw [hsize]; simpa using hl) hnews (by omega) (by simp only [maxLen] at h63; omega) (growslice_fits (by omega) (by rw [hby]; exact hbytes))
      rw [hr2] at hr
      injection hr with hv _
      rw [← hv] at hg'
      simp only [Value.ownBlock, Option.some.injEq] at hg'
      exact .inr (by omega)

omit [GT] in
theorem run_append_emp (t ty e : TypeId) (i : TypeInfo) (ht : P.underlying t = some (.slice e)) (hi : P.info? e = some i) (ad : Option Addr) (n cap : Nat) (ay : Option Addr) (c : Nat) (h : n ≤ cap) :
    (Builtin.append_ #[t, t] ty #[.slice ad n cap, .slice ay 0 c]).run P w = .ok (.slice ad n cap) w := by
  cases ay <;> cases ad <;> simp [Builtin.append_, run_underlying ht, sizeOf, typeInfo, hi, Builtin.lenOf, h, Builtin.firstCells, storeCells, loadCells, loadCellsFrom] <;> rfl
theorem run_append_nilarg (t ty e : TypeId) (i : TypeInfo) (ht : P.underlying t = some (.slice e)) (hi : P.info? e = some i) (ad : Option Addr) (n cap c : Nat) (h : n ≤ cap) :
    (Builtin.append_ #[t, t] ty #[.slice ad n cap, .slice none 0 c]).run P w = .ok (.slice ad n cap) w := run_append_emp t ty e i ht hi ad n cap none c h
theorem oldRow_spec {e : TypeId} {sym : Bool} {x : SV} {old : Option Nat} {c : List Seg} {p : Asm} (hG : HR ρ D N M G w) (h : oldRow e G sym x = some (old, c, p)) (hp : p.holds) (hc : widths c ≤ maxLen) :
    w.ownsRow 0 e 1 (x.conc ρ) (widths c) (segsVals ρ c) ∧ (∀ id, old = some id → ∃ b, G id = some b ∧ b.k < 2) ∧ (∀ g, (x.conc ρ).ownBlock = some g → ∃ id, old = some id ∧ ∃ y, (ρ id).a = some y ∧ y.block = g) ∧ ∃ ad n cap, x.conc ρ = .slice ad n cap ∧ n ≤ cap := by
  unfold oldRow at h
  split at h
  · simp only [Option.some.injEq, Prod.mk.injEq] at h
    obtain ⟨rfl, rfl, _⟩ := h
    exact ⟨World.ownsRow_nil _ _ _ _, (fun id h => by cases h), (fun g h => by simp [SV.conc, AV.conc, Seg.conc, Value.ownBlock] at h), none, 0, 0, rfl, Nat.le_refl _⟩
  · rename_i id len
    split at h
    · rename_i ty c' hb
      have key : Nat.beq ty e = true → len = widths c' → old = some id → c = c' → _ := fun h1 h2 h3 h4 => (by
        have hty := Nat.eq_of_beq_eq_true h1
        subst hty h2 h3 h4
        have hbk := (hG.blk id _ hb).2.2
        have hbk' : w.ownsRow 0 ty 1 (.slice (ρ id).a (segsVals ρ c).length (ρ id).cap) (segsVals ρ c).length (segsVals ρ c) := hbk
        rw [segsVals_len] at hbk'
        have hconc : SV.conc ρ (.av (.one (.r id 0 (widths c) 0))) = .slice (ρ id).a (widths c) (ρ id).cap := by
          simp only [SV.conc, AV.conc, Seg.conc, radr, Nat.sub_zero, ite_self]
          congr 1
          cases (ρ id).a <;> simp [Addr.add]
        rw [hconc]
        refine ⟨hbk', fun i hi => ?_, fun g hg => ?_, _, _, _, rfl, ?_⟩
        · injection hi with hi; subst hi; exact ⟨_, hb, (by simp)⟩
        · cases hra : (ρ id).a with
          | none => rw [hra] at hg; cases hg
          | some y => rw [hra] at hg; injection hg with hg; exact ⟨id, rfl, y, hra, hg⟩
        · rcases hbk'.2 with ⟨hv, hn⟩ | ⟨g, cap, cur, hv, _, _, hnc, _⟩
          · omega
          · injection hv with _ _ hv; omega : w.ownsRow 0 e 1 (SV.conc ρ (.av (.one (.r id 0 len 0)))) (widths c) (segsVals ρ c) ∧ (∀ id, old = some id → ∃ b, G id = some b ∧ b.k < 2) ∧ (∀ g, (SV.conc ρ (.av (.one (.r id 0 len 0)))).ownBlock = some g → ∃ id, old = some id ∧ ∃ y, (ρ id).a = some y ∧ y.block = g) ∧ ∃ ad n cap, SV.conc ρ (.av (.one (.r id 0 len 0))) = .slice ad n cap ∧ n ≤ cap)
      split at h
      · rename_i hty
        simp only [Option.some.injEq, Prod.mk.injEq] at h
        obtain ⟨h3, h4, rfl⟩ := h
        exact key hty hp h3.symm h4.symm
      · rename_i hty
        split at h
        · rename_i hl
          simp only [Option.some.injEq, Prod.mk.injEq] at h
          obtain ⟨h3, h4, _⟩ := h
          exact key hty (Nat.eq_of_beq_eq_true hl) h3.symm h4.symm
        · cases h
      · cases h
    · cases h
  · rename_i id len cap
    split at h
    · rename_i ty c' hb
      have key : Nat.beq ty e = true → len = widths c' → cap = widths c' → old = some id → c = c' → _ := fun h1 h2 h2' h3 h4 => (by
        have hty := Nat.eq_of_beq_eq_true h1
        subst hty h2 h3 h4
        subst h2'
        obtain ⟨g, ha, hg⟩ := (hG.blk id _ hb).2.2
        have hconc : SV.conc ρ (.av (.one (.s id 0 (widths c) (widths c)))) = .slice (some ⟨g, 0, none⟩) (widths c) (widths c) := by
          simp only [SV.conc, AV.conc, Seg.conc, ha, Option.map_some, Addr.add_lit]
        rw [hconc]
        refine ⟨⟨by rw [segsVals_len, Nat.mul_one], .inr ⟨g, _, _, rfl, Nat.zero_le _, hg, Nat.le_refl _, hc, by simp [segsVals_len], by simp [← segsVals_len ρ]⟩⟩, fun i hi => ?_, fun g' hg' => ?_, _, _, _, rfl, Nat.le_refl _⟩
        · injection hi with hi; subst hi; exact ⟨_, hb, (by simp)⟩
        · injection hg' with hg'; exact ⟨id, rfl, _, ha, hg'⟩ : w.ownsRow 0 e 1 (SV.conc ρ (.av (.one (.s id 0 len cap)))) (widths c) (segsVals ρ c) ∧ (∀ id, old = some id → ∃ b, G id = some b ∧ b.k < 2) ∧ (∀ g, (SV.conc ρ (.av (.one (.s id 0 len cap)))).ownBlock = some g → ∃ id, old = some id ∧ ∃ y, (ρ id).a = some y ∧ y.block = g) ∧ ∃ ad n cap', SV.conc ρ (.av (.one (.s id 0 len cap))) = .slice ad n cap' ∧ n ≤ cap')
      split at h
      · rename_i hty
        simp only [Option.some.injEq, Prod.mk.injEq] at h
        obtain ⟨h3, h4, rfl⟩ := h
        exact key hty hp.1 hp.2 h3.symm h4.symm
      · rename_i hty
        split at h
        · rename_i hl
          simp only [Bool.and_eq_true] at hl
          simp only [Option.some.injEq, Prod.mk.injEq] at h
          obtain ⟨h3, h4, _⟩ := h
          exact key hty (Nat.eq_of_beq_eq_true hl.1) (Nat.eq_of_beq_eq_true hl.2) h3.symm h4.symm
        · cases h
      · cases h
    · cases h
  · cases h
theorem oldRow_sl {e : TypeId} {sym : Bool} {x : SV} {old : Option Nat} {c : List Seg} {p : Asm} (hG : HR ρ D N M G w) (h : oldRow e G sym x = some (old, c, p)) (hp : p.holds) : ∃ ad n cap, x.conc ρ = .slice ad n cap ∧ n ≤ cap := by
  unfold oldRow at h
  split at h
  · exact ⟨none, 0, 0, rfl, Nat.le_refl _⟩
  · rename_i id len
    split at h
    · rename_i ty c' hb
      have hbk := (hG.blk id _ hb).2.2
      have hbk' : w.ownsRow 0 ty 1 (.slice (ρ id).a (segsVals ρ c').length (ρ id).cap) (segsVals ρ c').length (segsVals ρ c') := hbk
      rw [segsVals_len] at hbk'
      have hle : widths c' ≤ (ρ id).cap := by
        rcases hbk'.2 with ⟨hv, hn⟩ | ⟨g, cap, cur, hv, _, _, hnc, _⟩
        · omega
        · injection hv with _ _ hv; omega
      have key : len = widths c' → ∃ ad n cap, SV.conc ρ (.av (.one (.r id 0 len 0))) = .slice ad n cap ∧ n ≤ cap := fun hl => ⟨_, _, _, rfl, by omega⟩
      split at h
      · simp only [Option.some.injEq, Prod.mk.injEq] at h
        obtain ⟨_, _, rfl⟩ := h
        exact key hp
      · split at h
        · rename_i hl
          exact key (Nat.eq_of_beq_eq_true hl)
        · cases h
      · cases h
    · cases h
  · rename_i id len cap
    split at h
    · rename_i ty c' hb
      have key : len = widths c' → cap = widths c' → ∃ ad n cap', SV.conc ρ (.av (.one (.s id 0 len cap))) = .slice ad n cap' ∧ n ≤ cap' := fun hl hc => ⟨_, _, _, rfl, by omega⟩
      split at h
      · simp only [Option.some.injEq, Prod.mk.injEq] at h
        obtain ⟨_, _, rfl⟩ := h
        exact key hp.1 hp.2
      · split at h
        · rename_i hl
          simp only [Bool.and_eq_true] at hl
          exact key (Nat.eq_of_beq_eq_true hl.1) (Nat.eq_of_beq_eq_true hl.2)
        · cases h
      · cases h
    · cases h
  · cases h
theorem s_append (hT : TOK P T) (hG : HR ρ D N M G w) (hev : EvOK a ρ D ev) (hf : ¬ D base) {args : Array Operand} {ts : Array TypeId} (hop : o.op = .call { callee := .builtin .append, args := args, argTypes := ts }) {x y : SV} (hx : evs ev args.toList = some [x, y]) {t : TypeId} (hts : ts.toList = [t, t]) {ty : Ty} (ht : look T t = some ty) {e : TypeId} (hu : ty.u = .sl e) {te : Ty} (he : look T e = some te) (hsz : te.size = 1)
    {sym : Bool} {old : Option Nat} {c : List Seg} {p1 : Asm} (ho : oldRow e G sym x = some (old, c, p1)) (hp1 : p1.holds) {id off m : Nat} {b : Blk} {p2 : Asm} (hr : rowOf sym G y = some (id, off, m, b, p2)) (hp2 : p2.holds) {h : Hint} {news : List Seg} {p3 : Asm} (hn : readSegs h b.c off m = some (news, p3)) (hb : (widths c + m) * (te.bytes + 1) ≤ okSize) (hok : segsOk b.c = true)
    {c2 : List Seg} (hc2 : ∀ ρ, segsVals ρ c2 = segsVals ρ c ++ segsVals ρ news) (hin : segsIn D c2) {q : Asm} :
    Sn P o a w ρ D N M G base { val := .av (.one (.r base 0 (widths c + m) 0)), new := [⟨1, e, c2⟩], upd := killOf old, asm := q } := by
  have hty := hT t ty ht
  have hte := hT e te he
  have hun : P.underlying t = some (.slice e) := by have := hty.und; rw [hu] at this; exact this
  obtain ⟨i, hi, hs, hby, hz⟩ := hte.info
  have hbm : widths c + m ≤ okSize := Nat.le_trans (Nat.le_mul_of_pos_right _ (Nat.succ_pos _)) hb
  have hmax : widths c + m ≤ maxLen := by unfold maxLen; unfold okSize at hbm; omega
  obtain ⟨hown, hold, hsv, ad0, n0, cap0, hx0, hnc⟩ := oldRow_spec hG ho hp1 (by omega)
  obtain ⟨hbk, hle, ad, cap, hconc, hpos⟩ := rowOf_spec hr hp2 hG
  obtain ⟨e1, e2⟩ := readSegs_spec ρ hn hle
  have hargs := args_of hev hx
  have hts' : ts = #[t, t] := by apply Array.toList_inj.1; simpa using hts
  have hcells : ∀ u ∈ segsVals ρ news, u.oneCell' = true := fun u hu' => by
    rw [e1] at hu'
    exact segsVals_cell ρ hok u (List.mem_of_mem_drop (List.mem_of_mem_take hu'))
  have hzs : (te.zero.conc noLoc).cells.size = 1 := by
    rw [AV.cells noLoc hte.zok, List.size_toArray, segsVals_len, hte.zsz, hsz]
  have fin : ∀ v' w', (Builtin.append_ ts o.type (args.map a.eval)).run P w = .ok v' w' → w'.ownsRow 0 e 1 v' (widths c + m) (segsVals ρ c ++ segsVals ρ news) → w.grownBy w' (x.conc ρ).ownBlock → (∀ g, v'.ownBlock = some g → (x.conc ρ).ownBlock = some g ∨ w.heap.size ≤ g) → Sn P o a w ρ D N M G base { val := .av (.one (.r base 0 (widths c + m) 0)), new := [⟨1, e, c2⟩], upd := killOf old, asm := q } := by
    intro v' w' hrun h1 h2 h3
    refine s_builtin hop (s := Builtin.append_ ts o.type (args.map a.eval)) rfl hrun ?_
    exact fits_row (c := c) hG hold hf hin (by rw [hc2]; exact h1) h2 hsv h3 rfl rfl rfl
  rcases Option.eq_none_or_eq_some ad with hn0 | ⟨y0, hy0⟩
  · have hm : m = 0 := by
      rcases Nat.eq_zero_or_pos m with h0 | h0
      · exact h0
      · obtain ⟨x', _, hx'⟩ := hpos h0
        rw [hn0] at hx'; cases hx'
    subst hm hn0
    have hnn : segsVals ρ news = [] := List.eq_nil_of_length_eq_zero e2
    refine fin (x.conc ρ) w ?_ (by rw [hnn, List.append_nil]; exact hown) ⟨rfl, rfl, rfl, Nat.le_refl _, fun _ _ _ => rfl⟩ (fun g hg => .inl hg)
    rw [hargs, hts']
    simp only [List.map_cons, List.map_nil, hconc, hx0]
    exact run_append_nilarg t o.type e i hun hi ad0 n0 cap0 cap hnc
  · subst hy0
    have hat : ∀ j u, (segsVals ρ news)[j]? = some u → w.cell? (y0.add j) = some u := by
      intro j u hj
      have hm : 0 < m := by
        have := (List.getElem?_eq_some_iff.1 hj).1; omega
      obtain ⟨x', hx', hx2⟩ := hpos hm
      obtain ⟨y', hy', hcc⟩ := cells_at (l := segsVals ρ news) (off := off) hG hbk (sub_at e1) (by omega)
      rw [hx'] at hy'
      injection hy' with hy'
      subst hy'
      injection hx2 with hx2
      rw [hx2]
      exact hcc j u hj
    obtain ⟨v', w', hrun, h1, h2, h3⟩ := run_append2 (P := P) (w := w) t o.type e i _ te.bytes hun hi hz (by rw [hs, hsz]) hby hzs (x.conc ρ) (widths c) (segsVals ρ c) hown y0 m cap (segsVals ρ news) e2 hat hcells hmax (Nat.le_trans (Nat.mul_le_mul_left _ (Nat.le_succ _)) hb)
    refine fin v' w' ?_ h1 h2 h3
    rw [hargs, hts']
    simp only [List.map_cons, List.map_nil, hconc]
    exact hrun
theorem s_append_nil (hT : TOK P T) (hG : HR ρ D N M G w) (hev : EvOK a ρ D ev) {args : Array Operand} {ts : Array TypeId} (hop : o.op = .call { callee := .builtin .append, args := args, argTypes := ts }) {x y : SV} (hx : evs ev args.toList = some [x, y]) {t : TypeId} (hts : ts.toList = [t, t]) {ty : Ty} (ht : look T t = some ty) {e : TypeId} (hu : ty.u = .sl e) {te : Ty} (he : look T e = some te) (hy : isEmp y = true) (hxs : ∃ ad n cap, x.conc ρ = .slice ad n cap ∧ n ≤ cap) {q : Asm} :
    Sn P o a w ρ D N M G base { val := x, asm := q } := by
  have hty := hT t ty ht
  have hte := hT e te he
  have hun : P.underlying t = some (.slice e) := by have := hty.und; rw [hu] at this; exact this
  obtain ⟨i, hi, hs, hby, hz⟩ := hte.info
  obtain ⟨ad, n, cap, hxc, hnc⟩ := hxs
  have hargs := args_of hev hx
  have hts' : ts = #[t, t] := by apply Array.toList_inj.1; simpa using hts
  obtain ⟨ay, c, hyc⟩ : ∃ ay c, y.conc ρ = .slice ay 0 c := by
    unfold isEmp at hy
    split at hy
    · exact ⟨_, _, rfl⟩
    · cases hy
  refine s_builtin hop (s := Builtin.append_ ts o.type (args.map a.eval)) rfl (v := x.conc ρ) (w' := w) ?_ ⟨ρ, fits_same hG rfl rfl rfl⟩
  rw [hargs, hts']
  simp only [List.map_cons, List.map_nil, hyc, hxc]
  exact run_append_emp t o.type e i hun hi ad n cap ay c hnc

theorem s_copy (hT : TOK P T) (hG : HR ρ D N M G w) (hev : EvOK a ρ D ev) {args : Array Operand} {ts : Array TypeId} (hop : o.op = .call { callee := .builtin .copy, args := args, argTypes := ts }) {id off len cap : Nat} {y : SV} (hx : evs ev args.toList = some [.av (.one (.s id off len cap)), y]) {t t' : TypeId} (hts : ts.toList = [t, t']) {ty : Ty} (ht : look T t = some ty) {e : TypeId} (hu : ty.u = .sl e) {te : Ty} (he : look T e = some te) (hsz : te.size = 1)
    {b : Blk} (hb : G id = some b) (hk : b.k = 0) (hle : off + len ≤ widths b.c) {sym : Bool} {id2 o2 m : Nat} {b2 : Blk} {p2 : Asm} (hr : rowOf sym G y = some (id2, o2, m, b2, p2)) (hp2 : p2.holds) (hml : m ≤ len) {h : Hint} {news : List Seg} {p3 : Asm} (hn : readSegs h b2.c o2 m = some (news, p3)) (hok : segsOk b2.c = true)
    {c : List Seg} (hc : segsVals ρ c = (segsVals ρ b.c).take off ++ segsVals ρ news ++ (segsVals ρ b.c).drop (off + (segsVals ρ news).length)) (hin : segsIn D c) {q : Asm} :
    Sn P o a w ρ D N M G base { val := ofV (.int .i64 m), upd := [(id, some ⟨0, b.ty, c⟩)], asm := q } := by
  have hty := hT t ty ht
  have hte := hT e te he
  have hun : P.underlying t = some (.slice e) := by have := hty.und; rw [hu] at this; exact this
  obtain ⟨i, hi, hs, hby, hz⟩ := hte.info
  have hinf : (P.info? e).map (·.size) = some 1 := by rw [hi]; simp [hs, hsz]
  obtain ⟨hbk, hle2, ad, cap2, hconc, hpos⟩ := rowOf_spec hr hp2 hG
  obtain ⟨e1, e2⟩ := readSegs_spec ρ hn hle2
  have hargs := args_of hev hx
  have hts' : ts = #[t, t'] := by apply Array.toList_inj.1; simpa using hts
  have hcells : ∀ u ∈ segsVals ρ news, u.oneCell' = true := fun u hu' => by
    rw [e1] at hu'
    exact segsVals_cell ρ hok u (List.mem_of_mem_drop (List.mem_of_mem_take hu'))
  obtain ⟨k, bty, bc⟩ := b
  simp only at hk hle hc
  subst hk
  obtain ⟨g, ha, hg⟩ := (hG.blk id _ hb).2.2
  have hxc : SV.conc ρ (.av (.one (.s id off len cap))) = .slice (some ⟨g, off, none⟩) len cap := by
    simp only [SV.conc, AV.conc, Seg.conc, ha, Option.map_some, Addr.add_lit, Nat.zero_add]
  have fin : ∀ w', (Builtin.copy_ ts o.type (args.map a.eval)).run P w = .ok (.int .i64 m) w' → w' = w.setRow g (segsVals ρ c).toArray → Sn P o a w ρ D N M G base { val := ofV (.int .i64 m), upd := [(id, some ⟨0, bty, c⟩)], asm := q } := by
    intro w' hrun hw'
    subst hw'
    exact s_builtin hop (s := Builtin.copy_ ts o.type (args.map a.eval)) rfl hrun ⟨ρ, fits_put hG hb rfl hin rfl rfl rfl ha hg⟩
  rcases Option.eq_none_or_eq_some ad with hn0 | ⟨y0, hy0⟩
  · have hm : m = 0 := by
      rcases Nat.eq_zero_or_pos m with h0 | h0
      · exact h0
      · obtain ⟨x', _, hx'⟩ := hpos h0
        rw [hn0] at hx'; cases hx'
    subst hm hn0
    have hnn : segsVals ρ news = [] := List.eq_nil_of_length_eq_zero e2
    refine fin w ?_ ?_
    · rw [hargs, hts']
      simp only [List.map_cons, List.map_nil, hconc, hxc]
      exact run_copy_none (P := P) w t t' o.type e (some ⟨g, off, none⟩) none len cap 0 cap2 hun hinf (Nat.zero_min _)
    · rw [hc, hnn]
      simp only [List.append_nil, List.length_nil, Nat.add_zero, List.take_append_drop]
      exact (setRow_self w g _ _ _ hg).symm
  · subst hy0
    have hat : ∀ j u, (segsVals ρ news)[j]? = some u → w.cell? (y0.add j) = some u := by
      intro j u hj
      have hm : 0 < m := by
        have := (List.getElem?_eq_some_iff.1 hj).1; omega
      obtain ⟨x', hx', hx2⟩ := hpos hm
      obtain ⟨y', hy', hcc⟩ := cells_at (l := segsVals ρ news) (off := o2) hG hbk (sub_at e1) (by omega)
      rw [hx'] at hy'
      injection hy' with hy'
      subst hy'
      injection hx2 with hx2
      rw [hx2]
      exact hcc j u hj
    have hrun := run_copy_row (P := P) w t t' o.type e g off len cap y0 m cap2 _ _ (segsVals ρ news) hun hinf hg (by rw [e2]; exact (Nat.min_eq_left hml).symm) hat (by rw [List.size_toArray, e2, segsVals_len]; simp only; omega) hcells
    refine fin (w.setRow g (segsVals ρ c).toArray) ?_ rfl
    rw [hargs, hts', hc]
    simp only [List.map_cons, List.map_nil, hconc, hxc]
    rw [hrun, e2]
    rfl
theorem s_copy_nil (hT : TOK P T) (hG : HR ρ D N M G w) (hev : EvOK a ρ D ev) {args : Array Operand} {ts : Array TypeId} (hop : o.op = .call { callee := .builtin .copy, args := args, argTypes := ts }) {id off len cap : Nat} {y : SV} (hx : evs ev args.toList = some [.av (.one (.s id off len cap)), y]) {t t' : TypeId} (hts : ts.toList = [t, t']) {ty : Ty} (ht : look T t = some ty) {e : TypeId} (hu : ty.u = .sl e) {te : Ty} (he : look T e = some te) (hsz : te.size = 1) (hy : isNil y = true) {q : Asm} :
    Sn P o a w ρ D N M G base { val := ofV (.int .i64 0), asm := q } := by
  have hty := hT t ty ht
  have hte := hT e te he
  have hun : P.underlying t = some (.slice e) := by have := hty.und; rw [hu] at this; exact this
  obtain ⟨i, hi, hs, hby, hz⟩ := hte.info
  have hinf : (P.info? e).map (·.size) = some 1 := by rw [hi]; simp [hs, hsz]
  have hargs := args_of hev hx
  have hts' : ts = #[t, t'] := by apply Array.toList_inj.1; simpa using hts
  have hyc : y.conc ρ = .slice none 0 0 := by
    unfold isNil at hy
    split at hy
    · rfl
    · cases hy
  refine s_builtin hop (s := Builtin.copy_ ts o.type (args.map a.eval)) rfl (v := .int .i64 0) (w' := w) ?_ ⟨ρ, fits_same hG rfl rfl rfl⟩
  rw [hargs, hts']
  simp only [List.map_cons, List.map_nil, hyc]
  exact run_copy_none (P := P) w t t' o.type e _ none len cap 0 0 hun hinf (Nat.zero_min _)
omit [GT] in
theorem run_append_zeros (t u ty e : TypeId) (i : TypeInfo) (z : Value) (k : IntKind) (ht : P.underlying t = some (.slice e)) (hu : P.underlying u = some (.int k)) (hi : P.info? e = some i) (hz : i.zero = some z) (hs : i.size = 1)
    (j : IntKind) (n : Nat) (h0 : 0 < n) (h63 : (n : Int) ≤ 9223372036854775807) (h48 : n * i.bytes ≤ 281474976710656) :
    (Builtin.append_ #[t, u] ty #[.slice none 0 0, .int j n]).run P w =
      .ok (.slice (some ⟨w.heap.size, 0, none⟩) n (grownCap w n 0 e))
        (w.drew.alloc (.cells (Builtin.zeroCells z.cells n ++ Builtin.zeroCells z.cells (grownCap w n 0 e - n)) e)) := by
  have hwg : ∀ y : Int, 0 ≤ y → y ≤ 9223372036854775807 → IntKind.i64.wrap y = y := by
    intro y hy0 hy1
    simp only [IntKind.wrap, IntKind.bits, IntKind.signed]
    simp
    omega
  have hw : IntKind.i64.wrap (n : Int) = n := hwg _ (by omega) h63
  have hn : n ≠ 0 := by omega
  have hl : ¬ ((n : Int) < 0) := by omega
  have h63' : ¬ (9223372036854775807 < (n : Int)) := by omega
  have h48a : ¬ ((281474976710656 : Int) < (n : Int) * (i.bytes : Int)) := by
    rw [← Int.natCast_mul]
    generalize n * i.bytes = m at h48 ⊢
    omega
  have h48' : ¬ (281474976710656 < Builtin.nextslicecap n 0 * i.bytes) := by rw [nextslicecap_zero h0]; omega
  simp [Builtin.append_, run_underlying ht, run_underlying hu, sizeOf, typeInfo, zeroValue, hi, hz, hs, asInt, asIntOf, hw, hl, h48a, hn, h63', h48', Builtin.firstCells, Question.forced, newRow, grownCap]
omit [GT] in
theorem zeroCells_one {z : Value} (hz : z.cells.size = 1) (hc : z.cells.toList = [z]) (n : Nat) : Builtin.zeroCells z.cells n = (List.replicate n z).toArray := by
  unfold Builtin.zeroCells
  apply Array.ext'
  apply List.ext_getElem?
  intro j
  have he : z.cells = #[z] := by apply Array.ext'; rw [hc]
  simp [he, List.getElem?_replicate]
  by_cases hj : j < n <;> simp [hj, Nat.mod_one]
theorem s_append_zeros (hT : TOK P T) (hG : HR ρ D N M G w) (hev : EvOK a ρ D ev) (hf : ¬ D base) {args : Array Operand} {ts : Array TypeId} (hop : o.op = .call { callee := .builtin .append, args := args, argTypes := ts }) {y : SV} (hx : evs ev args.toList = some [.av (.one (.v (.slice none 0 0))), y]) {t t' : TypeId} (hts : ts.toList = [t, t']) {ty tu : Ty} (ht : look T t = some ty) (ht' : look T t' = some tu) {e : TypeId} (hu : ty.u = .sl e) {k' : IntKind} (hu' : tu.u = .int k') {te : Ty} (he : look T e = some te) (hsz : te.size = 1) {k : IntKind} {z0 : Int} (hz0 : te.zero = .one (.v (.int k z0)))
    {j : IntKind} {z : Int} (hy : y.conc ρ = .int j z) {n : Nat} (hn : z = n) (h0 : 1 ≤ n) (hb : n * (te.bytes + 1) ≤ okSize) {q : Asm} :
    Sn P o a w ρ D N M G base { val := .av (.one (.r base 0 n 0)), new := [⟨1, e, [.arr k (List.replicate n z0)]⟩], asm := q } := by
  have hty := hT t ty ht
  have htu := hT t' tu ht'
  have hte := hT e te he
  have hun : P.underlying t = some (.slice e) := by have := hty.und; rw [hu] at this; exact this
  have hun' : P.underlying t' = some (.int k') := by have := htu.und; rw [hu'] at this; exact this
  obtain ⟨i, hi, hs, hby, hz⟩ := hte.info
  have hzc : te.zero.conc noLoc = .int k z0 := by rw [hz0]; rfl
  rw [hzc] at hz
  have hargs := args_of hev hx
  have hts' : ts = #[t, t'] := by apply Array.toList_inj.1; simpa using hts
  have hbn : n ≤ okSize := Nat.le_trans (Nat.le_mul_of_pos_right _ (Nat.succ_pos _)) hb
  have hb2 : n * te.bytes ≤ okSize := Nat.le_trans (Nat.mul_le_mul_left _ (Nat.le_succ _)) hb
  have hrun := run_append_zeros (P := P) (w := w) t t' o.type e i (.int k z0) k' hun hun' hi hz (by rw [hs, hsz]) j n (by omega) (by unfold okSize at hbn; omega) (by rw [hby]; unfold okSize at hb2; omega)
  have hge := grownCap_ge w n 0 e
  have hcm : grownCap w n 0 e ≤ maxLen := grownCap_le_maxLen w n 0 e (by unfold maxLen; unfold okSize at hbn; omega)
  rw [zeroCells_one rfl rfl, zeroCells_one rfl rfl] at hrun
  refine s_builtin hop (s := Builtin.append_ ts o.type (args.map a.eval)) rfl (by
    rw [hargs, hts']
    subst hn
    simp only [List.map_cons, List.map_nil, hy]
    exact hrun) ?_
  refine fits_row (old := none) (c := []) (sv := .slice none 0 0) hG (fun id h => by cases h) hf (fun s hs => by simp at hs; subst hs; trivial) (n' := n) ?_ ⟨rfl, rfl, rfl, by simp, fun k hk _ => heap_alloc_old w.drew _ hk⟩ (fun g h => by simp [Value.ownBlock] at h) (fun g hg => ?_) rfl rfl rfl
  · rw [segsVals_one]
    refine ⟨by simp [Seg.vals], .inr ⟨w.heap.size, _, _, rfl, Nat.zero_le _, heap_alloc_new w.drew _, hge, hcm, ?_, ?_⟩⟩
    · simp; omega
    · simp [Seg.vals]
  · simp only [Value.ownBlock, Option.some.injEq] at hg
    exact .inr (by omega)
omit [GT] in
theorem wrap_len {n : Nat} (h : n ≤ 9223372036854775807) : IntKind.i64.wrap (n : Int) = n := by
  simp only [IntKind.wrap, IntKind.bits, IntKind.signed]
  simp
  omega
omit [GT] in
theorem wrap_0 : IntKind.i64.wrap 0 = 0 := by decide
omit [GT] in
theorem rep_cells {z : Value} (n : Nat) : ∀ u ∈ List.replicate n z, u = z := fun _ hu => (List.mem_replicate.1 hu).2
omit [GT] in
theorem run_append_zeros_room (t u ty e : TypeId) (i : TypeInfo) (z : Value) (k : IntKind) (ht : P.underlying t = some (.slice e)) (hu : P.underlying u = some (.int k)) (hi : P.info? e = some i) (hz : i.zero = some z) (hs : i.size = 1) (hzc : z.cells = #[z]) (h1 : z.oneCell' = true)
    (j : IntKind) (m : Nat) (h63 : m ≤ 140737488355328) (h48 : m * i.bytes ≤ 281474976710656) (g sLen sCap : Nat) (cur : Array Value) (hg : w.heap[g]? = some (.cells cur e (0, 0))) (hroom : sLen + m ≤ sCap) (hfit : sLen + m ≤ cur.size) :
    (Builtin.append_ #[t, u] ty #[.slice (some ⟨g, 0, none⟩) sLen sCap, .int j m]).run P w =
      .ok (.slice (some ⟨g, 0, none⟩) (sLen + m) sCap) (w.setRow g (cur.toList.take sLen ++ List.replicate m z ++ cur.toList.drop (sLen + m)).toArray) := by
  have hw := wrap_len (n := m) (by omega)
  have hl : ¬ ((m : Int) < 0) := by omega
  have h48a : ¬ ((281474976710656 : Int) < (m : Int) * (i.bytes : Int)) := by
    rw [← Int.natCast_mul]
    generalize m * i.bytes = q at h48 ⊢
    omega
  have hst := run_storeCells_at P g sLen e (List.replicate m z) 0 cur w hg (by simpa using hfit) (fun v hv => by rw [rep_cells m v hv]; exact h1)
  simp only [Nat.add_zero, List.length_replicate] at hst
  by_cases hm : m = 0
  · subst hm
    simp only [List.replicate_zero, Nat.add_zero] at hst ⊢
    have hr0 : sLen ≤ sCap := by omega
    simp [Builtin.append_, run_underlying ht, run_underlying hu, sizeOf, typeInfo, zeroValue, hi, hz, hs, asInt, asIntOf, wrap_0, hr0, Addr.add_lit, show (storeCells ⟨g, sLen, none⟩ []).run P w = .ok () (w.setRow g cur) by simpa using hst]
  · have hzr := zeroCells_one (z := z) (by rw [hzc]; rfl) (by rw [hzc]) m
    simp [Builtin.append_, run_underlying ht, run_underlying hu, sizeOf, typeInfo, zeroValue, hi, hz, hs, asInt, asIntOf, hw, hl, h48a, hm, hroom, hzr, Addr.add_lit, hst]
omit [GT] in
theorem run_append_zeros_grow (t u ty e : TypeId) (i : TypeInfo) (z : Value) (k : IntKind) (ht : P.underlying t = some (.slice e)) (hu : P.underlying u = some (.int k)) (hi : P.info? e = some i) (hz : i.zero = some z) (hs : i.size = 1)
    (j : IntKind) (m : Nat) (hm : m ≠ 0) (h63 : m ≤ 140737488355328) (h48 : m * i.bytes ≤ 281474976710656) (b : Addr) (sLen sCap : Nat) (olds : List Value) (hlo : olds.length = sLen * i.size) (holds : ∀ j v, olds[j]? = some v → w.cell? (b.add j) = some v)
    (hg : sCap < sLen + m) (hn63 : ((sLen + m : Nat) : Int) ≤ 9223372036854775807) (hfit : Builtin.nextslicecap (sLen + m) sCap * i.bytes ≤ 281474976710656) :
    (Builtin.append_ #[t, u] ty #[.slice (some b) sLen sCap, .int j m]).run P w =
      .ok (.slice (some ⟨w.heap.size, 0, none⟩) (sLen + m) (grownCap w (sLen + m) sCap e))
        (w.drew.alloc (.cells (olds.toArray ++ Builtin.zeroCells z.cells m ++ Builtin.zeroCells z.cells (grownCap w (sLen + m) sCap e - (sLen + m))) e)) := by
  have hw := wrap_len (n := m) (by omega)
  have hl : ¬ ((m : Int) < 0) := by omega
  have h48a : ¬ ((281474976710656 : Int) < (m : Int) * (i.bytes : Int)) := by
    rw [← Int.natCast_mul]
    generalize m * i.bytes = q at h48 ⊢
    omega
  have hn : ¬ (sLen + m ≤ sCap) := by omega
  have h63' : ¬ (9223372036854775807 < ((sLen : Int) + (m : Int))) := by omega
  have h48' : ¬ (281474976710656 < Builtin.nextslicecap (sLen + m) sCap * i.bytes) := by omega
  have hfo := run_firstCells_some (P := P) w.drew i.size sLen b sLen sCap olds hlo (by simpa using holds)
  rw [hs] at hfo
  simp [Builtin.append_, run_underlying ht, run_underlying hu, sizeOf, typeInfo, zeroValue, hi, hz, hs, asInt, asIntOf, hw, hl, h48a, hm, hn, h63', h48', Question.forced, hfo, newRow, grownCap]
omit [GT] in
theorem run_append_zeros2 (t u ty e : TypeId) (i : TypeInfo) (z : Value) (k : IntKind) (ht : P.underlying t = some (.slice e)) (hu : P.underlying u = some (.int k)) (hi : P.info? e = some i) (hz : i.zero = some z) (hs : i.size = 1) (hzc : z.cells = #[z]) (h1 : z.oneCell' = true)
    (v : Value) (n : Nat) (xs : List Value) (hown : w.ownsRow 0 e 1 v n xs) (j : IntKind) (m : Nat) (h63 : n + m ≤ maxLen) (hbytes : (n + m) * i.bytes ≤ 140737488355328) (hsm : n + m ≤ 140737488355328) :
    ∃ v' w', (Builtin.append_ #[t, u] ty #[v, .int j m]).run P w = .ok v' w' ∧ w'.ownsRow 0 e 1 v' (n + m) (xs ++ List.replicate m z) ∧ w.grownBy w' v.ownBlock ∧ ∀ g, v'.ownBlock = some g → v.ownBlock = some g ∨ w.heap.size ≤ g := by
  have hmb : m * i.bytes ≤ 281474976710656 := Nat.le_trans (Nat.mul_le_mul_right _ (Nat.le_add_left m n)) (Nat.le_trans hbytes (by omega))
  have hxl : xs.length = n := by simpa using hown.1
  have hlen : (xs ++ List.replicate m z).length = (n + m) * 1 := by rw [List.length_append, List.length_replicate, hxl, Nat.mul_one]
  rcases hown.2 with ⟨rfl, rfl⟩ | ⟨g, cap, cur, rfl, hbg, hg, hnc, hcm, hcs, htake⟩
  · have hx : xs = [] := List.eq_nil_of_length_eq_zero hxl
    subst hx
    by_cases hm : m = 0
    · subst hm
      refine ⟨.slice none 0 0, w, ?_, World.ownsRow_nil w 0 e 1, ⟨rfl, rfl, rfl, Nat.le_refl _, fun _ _ _ => rfl⟩, fun g hg => .inl hg⟩
      simp [Builtin.append_, run_underlying ht, run_underlying hu, sizeOf, typeInfo, hi, asInt, asIntOf, wrap_0]
    · have hr := run_append_zeros (P := P) (w := w) t u ty e i z k ht hu hi hz hs j m (by omega) (by omega) hmb
      rw [zeroCells_one (by rw [hzc]; rfl) (by rw [hzc]), zeroCells_one (by rw [hzc]; rfl) (by rw [hzc])] at hr
      have hge := grownCap_ge w m 0 e
      have hcm := grownCap_le_maxLen w m 0 e (by omega)
      simp only [Nat.zero_add, List.nil_append] at hlen ⊢
      refine ⟨_, _, hr, ⟨hlen, .inr ⟨w.heap.size, _, _, rfl, Nat.zero_le _, heap_alloc_new w.drew _, by omega, hcm, ?_, ?_⟩⟩, ⟨rfl, rfl, rfl, by simp, fun k hk _ => heap_alloc_old w.drew _ hk⟩, fun g hg => .inr ?_⟩
      · simp; omega
      · simp
      · simp only [Value.ownBlock, Option.some.injEq] at hg
        omega
  · by_cases hroom : n + m ≤ cap
    · have hr := run_append_zeros_room (P := P) (w := w) t u ty e i z k ht hu hi hz hs hzc h1 j m (by omega) hmb g n cap cur hg hroom (by rw [hcs]; omega)
      have hcl : n + m ≤ cur.size := by rw [hcs]; omega
      refine ⟨_, _, hr, ⟨hlen, .inr ⟨g, cap, _, rfl, hbg, setRow_heap w g cur _ e _ hg, hroom, hcm, ?_, ?_⟩⟩, ⟨rfl, rfl, rfl, by simp, fun k _ hk => setRow_other w g k _ (fun e => hk (by simp [Value.ownBlock, e]))⟩, fun g' hg' => .inl hg'⟩
      · simp only [List.size_toArray, List.length_append, List.length_take, List.length_drop, Array.length_toList, List.length_replicate]
        omega
      · have e1 : cur.toList.take n = xs := by rw [← Nat.mul_one n]; exact htake
        rw [e1, ← hlen]
        exact List.take_left
    · have hm : m ≠ 0 := by omega
      have holds : ∀ j u, xs[j]? = some u → w.cell? ((⟨g, 0, none⟩ : Addr).add j) = some u := hown.cells (g := g) rfl
      have hr := run_append_zeros_grow (P := P) (w := w) t u ty e i z k ht hu hi hz hs j m hm (by omega) hmb ⟨g, 0, none⟩ n cap xs (by rw [hs]; simpa using hxl) holds (by omega) (by omega) (growslice_fits (by omega) hbytes)
      rw [zeroCells_one (by rw [hzc]; rfl) (by rw [hzc]), zeroCells_one (by rw [hzc]; rfl) (by rw [hzc])] at hr
      have hge := grownCap_ge w (n + m) cap e
      have hcm2 := grownCap_le_maxLen w (n + m) cap e h63
      refine ⟨_, _, hr, ⟨hlen, .inr ⟨w.heap.size, _, _, rfl, Nat.zero_le _, heap_alloc_new w.drew _, hge, hcm2, ?_, ?_⟩⟩, ⟨rfl, rfl, rfl, by simp, fun k hk _ => heap_alloc_old w.drew _ hk⟩, fun g' hg' => .inr ?_⟩
      · simp only [Array.size_append, List.size_toArray, List.length_replicate, hxl]
        omega
      · simp only [Array.toList_append]
        rw [← hlen]
        exact List.take_left
      · simp only [Value.ownBlock, Option.some.injEq] at hg'
        omega
theorem s_append_zeros2 (hT : TOK P T) (hG : HR ρ D N M G w) (hev : EvOK a ρ D ev) (hf : ¬ D base) {args : Array Operand} {ts : Array TypeId} (hop : o.op = .call { callee := .builtin .append, args := args, argTypes := ts }) {x y : SV} (hx : evs ev args.toList = some [x, y]) {t t' : TypeId} (hts : ts.toList = [t, t']) {ty tu : Ty} (ht : look T t = some ty) (ht' : look T t' = some tu) {e : TypeId} (hu : ty.u = .sl e) {k' : IntKind} (hu' : tu.u = .int k') {te : Ty} (he : look T e = some te) (hsz : te.size = 1) {k : IntKind} {z0 : Int} (hz0 : te.zero = .one (.v (.int k z0)))
    {sym : Bool} {old : Option Nat} {c : List Seg} {p1 : Asm} (ho : oldRow e G sym x = some (old, c, p1)) (hp1 : p1.holds) {j : IntKind} {z : Int} (hy : y.conc ρ = .int j z) {n : Nat} (hn : z = n) (hb : (widths c + n) * (te.bytes + 1) ≤ okSize)
    {c2 : List Seg} (hc2 : ∀ ρ, segsVals ρ c2 = segsVals ρ c ++ segsVals ρ [.arr k (List.replicate n z0)]) (hin : segsIn D c2) {q : Asm} :
    Sn P o a w ρ D N M G base { val := .av (.one (.r base 0 (widths c + n) 0)), new := [⟨1, e, c2⟩], upd := killOf old, asm := q } := by
  have hty := hT t ty ht
  have htu := hT t' tu ht'
  have hte := hT e te he
  have hun : P.underlying t = some (.slice e) := by have := hty.und; rw [hu] at this; exact this
  have hun' : P.underlying t' = some (.int k') := by have := htu.und; rw [hu'] at this; exact this
  obtain ⟨i, hi, hs, hby, hz⟩ := hte.info
  have hzc : te.zero.conc noLoc = .int k z0 := by rw [hz0]; rfl
  rw [hzc] at hz
  have hargs := args_of hev hx
  have hts' : ts = #[t, t'] := by apply Array.toList_inj.1; simpa using hts
  have hbm : widths c + n ≤ okSize := Nat.le_trans (Nat.le_mul_of_pos_right _ (Nat.succ_pos _)) hb
  have hmax : widths c + n ≤ maxLen := by unfold maxLen; unfold okSize at hbm; omega
  obtain ⟨hown, hold, hsv, ad0, n0, cap0, hx0, hnc⟩ := oldRow_spec hG ho hp1 (by omega)
  have hb2 : (widths c + n) * te.bytes ≤ okSize := Nat.le_trans (Nat.mul_le_mul_left _ (Nat.le_succ _)) hb
  obtain ⟨v', w', hrun, r1, r2, r3⟩ := run_append_zeros2 (P := P) (w := w) t t' o.type e i (.int k z0) k' hun hun' hi hz (by rw [hs, hsz]) rfl rfl (x.conc ρ) (widths c) (segsVals ρ c) hown j n hmax (by rw [hby]; exact hb2) hbm
  refine s_builtin hop (s := Builtin.append_ ts o.type (args.map a.eval)) rfl (by
    rw [hargs, hts']
    subst hn
    simp only [List.map_cons, List.map_nil, hy]
    exact hrun) ?_
  refine fits_row (c := c) hG hold hf hin (by
    rw [hc2, segsVals_one]
    simpa [Seg.vals] using r1) r2 hsv r3 rfl rfl rfl
theorem s_cap (hT : TOK P T) (hG : HR ρ D N M G w) (hev : EvOK a ρ D ev) {args : Array Operand} {ts : Array TypeId} (hop : o.op = .call { callee := .builtin .cap, args := args, argTypes := ts }) {x : SV} (hx : evs ev args.toList = some [x]) {t : TypeId} (hts : ts.toList = [t]) {ty : Ty} (ht : look T t = some ty) {e : TypeId} (hu : ty.u = .sl e) {ad : Option Addr} {n cap : Nat} (hc : x.conc ρ = .slice ad n cap) : Sn P o a w ρ D N M G base { val := ofV (.int .i64 cap) } := by
  have hty := hT t ty ht
  have hun : P.underlying t = some (.slice e) := by have := hty.und; rw [hu] at this; exact this
  have hargs := args_of hev hx
  have hts' : ts = #[t] := by apply Array.toList_inj.1; simpa using hts
  refine s_builtin hop (s := Builtin.cap_ ts o.type (args.map a.eval)) rfl (v := .int .i64 cap) (w' := w) ?_ ⟨ρ, fits_same hG rfl rfl rfl⟩
  rw [hargs, hts']
  simp only [List.map_cons, List.map_nil, hc]
  simp [Builtin.cap_, run_underlying hun, goInt]
omit [GT] in
/-- Cells written into the middle of a row. -/
theorem putRow_spec {sym : Bool} {c news r : List Seg} {off : Nat} (h : putRow sym c off news = some r) (hle : off + (segsVals ρ news).length ≤ (segsVals ρ c).length) : segsVals ρ r = (segsVals ρ c).take off ++ segsVals ρ news ++ (segsVals ρ c).drop (off + (segsVals ρ news).length) := by
  unfold putRow at h
  split at h
  · split at h
    · rename_i j zs k l
      split at h
      · rename_i hk
        have := ik_inj hk
        subst this
        simp only [Option.some.injEq] at h
        subst h
        rw [segsVals_one, segsVals_one, segsVals_one]
        simp [Seg.vals]
      · cases h
    · cases h
  · exact (putSegs_spec ρ h).1

end
end Go.Proofs.YtpefomdegbmecaaDoor.Am
/- The abstract machine: every operation comes to what was reckoned. Conditions: none. -/
namespace Go.Proofs.YtpefomdegbmecaaDoor.Am
set_option linter.unusedVariables false
set_option linter.unusedSimpArgs false
open Go Go.RowKit
open Rg (gives)

/-- A function's contract, as the machine reckons with it. -/
def EntOK [GT] (P : Program) (f : FuncId) (ent : Ent) : Prop :=
  (∃ fn, P.funcs[f]? = some fn ∧ (fn.name == "runtime.NumGoroutine") = false ∧ fn.body.isSome = true) ∧
  ∀ args G base res, ent args G base = some res → res.asm.holds → ∀ ρ D N M w, HR ρ D N M G w → (∀ s ∈ args, s.In D) → (∀ id, base ≤ id → id < base + res.new.length → ¬ D id) →
    Calls P f (args.map (SV.conc ρ)).toArray w fun e w' => ∃ v, e = .returned v ∧ ∃ ρ', Fits ρ D N M G base res w ρ' v w'
def OOK [GT] (P : Program) (O : List (Nat × Ent)) : Prop := ∀ f e, look O f = some e → EntOK P f e

section
variable {P : Program} {T : List (Nat × Ty)} {O : List (Nat × Ent)} {ρ : Nat → Loc} {D : Nat → Prop} {N : Nat} {M : List Nat} {G : Nat → Option Blk} {base : Nat} {w : World} {o : Oper} {a : Act} {ev : Operand → Option SV}
variable [GT]

theorem s_call (hO : OOK P O) (hG : HR ρ D N M G w) (hev : EvOK a ρ D ev) {f : FuncId} {args : Array Operand} {ts : Array TypeId} (hop : o.op = .call { callee := .value (.func f), args := args, argTypes := ts }) {e : Ent} (he : look O f = some e) {l : List SV} (hl : evs ev args.toList = some l) {r : Res} (hr : e l G base = some r) (ha : r.asm.holds) (hf : ∀ id, base ≤ id → id < base + r.new.length → ¬ D id) : Sn P o a w ρ D N M G base r := by
  obtain ⟨⟨fn, hfn, hname, hbody⟩, h⟩ := hO f e he
  refine Rg.gives_call (P := P) (ts := ts) hfn hname hbody (args.map a.eval) hop rfl ?_
  rw [args_of hev hl]
  exact h l G base r hr ha ρ D N M w hG (evs_spec hev _ _ hl).2 hf

omit [GT] in
/-- Is it the call of a function? -/
def isCall : Op → Bool
  | .call c => match c.callee with
    | .value _ => true
    | _ => false
  | _ => false

omit [GT] in
theorem aggB_conc (ρ : Nat → Loc) {b : AV} (h : aggB b = true) : b.conc ρ = .agg (segsVals ρ b.segs).toArray := by
  unfold aggB at h
  split at h
  · rfl
  · simp [AV.conc, Seg.conc, AV.segs, segsVals_one, Seg.vals]
  · simp [AV.conc, Seg.conc, AV.segs, segsVals_one, Seg.vals]
  · simp [AV.conc, Seg.conc, AV.segs, segsVals_one, Seg.vals]
  · cases h
omit [GT] in
theorem aggB_spec {b : AV} (h : aggB b = true) : ∃ cs, b.conc ρ = .agg cs := by
  unfold aggB at h
  split at h
  · exact ⟨_, rfl⟩
  · exact ⟨_, rfl⟩
  · exact ⟨_, rfl⟩
  · exact ⟨_, rfl⟩
  · cases h
theorem storeAt_spec {ty : Ty} {sym : Bool} {c c' : List Seg} {off : Nat} {v : AV} {p : Asm} (h : storeAt ty sym c off v = some (c', p)) (hp : p.holds) : segsOk v.segs = true ∧ widths v.segs = ty.size ∧ segsVals ρ c' = (segsVals ρ c).take off ++ segsVals ρ v.segs ++ (segsVals ρ c).drop (off + (segsVals ρ v.segs).length) ∧ off + (segsVals ρ v.segs).length ≤ (segsVals ρ c).length := by
  have hset : ∀ (l : List Value) (u : Value), off < l.length → l.set off u = l.take off ++ [u] ++ l.drop (off + 1) := by
    intro l u hl
    rw [List.set_eq_take_append_cons_drop, if_pos hl]
    simp
  unfold storeAt at h
  split at h
  · cases h
  · rename_i hok
    simp only [Bool.and_eq_true] at hok
    refine ⟨hok.2, Nat.eq_of_beq_eq_true hok.1, ?_⟩
    split at h
    · split at h
      · rename_i j zs k z
        split at h
        · rename_i hk
          have := ik_inj hk
          subst this
          simp only [Option.some.injEq, Prod.mk.injEq] at h
          obtain ⟨rfl, rfl⟩ := h
          have hp' : off < zs.length := hp
          have e : segsVals ρ (AV.segs (.one (.v (.int k z)))) = [.int k z] := rfl
          rw [e, segsVals_one, segsVals_one]
          simp only [Seg.vals, List.length_map, List.length_cons, List.length_nil]
          refine ⟨?_, by omega⟩
          rw [List.map_set, hset _ _ (by simpa using hp')]
        · cases h
      · cases h
    · split at h
      · rename_i x
        split at h
        · rename_i c'' hput
          simp only [Option.some.injEq, Prod.mk.injEq] at h
          obtain ⟨rfl, _⟩ := h
          obtain ⟨e1, e2⟩ := putCell_spec ρ (y := .v x) rfl (fun _ => rfl) _ _ _ hput
          have e : segsVals ρ (AV.segs (.one (.v x))) = [x] := rfl
          rw [e, e1]
          refine ⟨hset _ _ e2, by simp; omega⟩
        · cases h
      · split at h
        · rename_i c'' hput
          simp only [Option.some.injEq, Prod.mk.injEq] at h
          obtain ⟨rfl, _⟩ := h
          exact putSegs_spec ρ hput
        · cases h
theorem builtin_sound (hT : TOK P T) (hG : HR ρ D N M G w) (hev : EvOK a ρ D ev) {h : Hint} {b : Builtin} {args : Array Operand} {ts : Array TypeId} (hop : o.op = .call { callee := .builtin b, args := args, argTypes := ts }) {l : List SV} (hl : evs ev args.toList = some l) {r : Res} (hr : builtinOf T G h base b ts.toList l = some r) (ha : r.asm.holds) (hf : ∀ id, base ≤ id → id < base + r.new.length → ¬ D id) (hin : ∀ b ∈ r.new, segsIn D b.c) (hinU : ∀ x ∈ r.upd, ∀ b, x.2 = some b → segsIn D b.c) : Sn P o a w ρ D N M G base r := by
  unfold builtinOf at hr
  split at hr
  · split at hr
    · rename_i x t hts
      split at hr
      · cases hr
      · rename_i ty ht
        split at hr
        · rename_i n e hu
          simp only [Option.some.injEq] at hr
          subst hr
          exact s_len hT hG hev hop hl hts ht (.inl ⟨n, e, hu, rfl⟩)
        · rename_i e hu
          split at hr
          · simp only [Option.some.injEq] at hr
            subst hr
            exact s_len hT hG hev hop hl hts ht (.inr (.inl ⟨e, _, _, _, hu, rfl, rfl⟩))
          · simp only [Option.some.injEq] at hr
            subst hr
            exact s_len hT hG hev hop hl hts ht (.inr (.inl ⟨e, _, _, _, hu, rfl, rfl⟩))
          · simp only [Option.some.injEq] at hr
            subst hr
            exact s_len hT hG hev hop hl hts ht (.inr (.inl ⟨e, _, _, _, hu, rfl, rfl⟩))
          · cases hr
        · rename_i hu
          split at hr
          · simp only [Option.some.injEq] at hr
            subst hr
            exact s_len hT hG hev hop hl hts ht (.inr (.inr ⟨_, hu, rfl, rfl⟩))
          · cases hr
        · cases hr
    · cases hr
  · split at hr
    · rename_i x y t t' hts
      split at hr
      · rename_i ty htt ht
        have := Nat.eq_of_beq_eq_true htt
        subst this
        split at hr
        · rename_i e hu
          split at hr
          · cases hr
          · rename_i te he
            split at hr
            · cases hr
            · rename_i hsz
              have hsz := Nat.eq_of_beq_eq_true hsz
              split at hr
              · rename_i hnil
                split at hr
                · simp only [Option.some.injEq] at hr
                  subst hr
                  exact s_append_nil hT hG hev hop hl hts ht hu he hnil ⟨none, 0, 0, rfl, Nat.le_refl _⟩
                · split at hr
                  · rename_i old c p1 ho
                    simp only [Option.some.injEq] at hr
                    subst hr
                    exact s_append_nil hT hG hev hop hl hts ht hu he hnil (oldRow_sl hG ho ha)
                  · cases hr
              · split at hr
                · rename_i old c p1 id off m b p2 ho hrow
                  split at hr
                  · rename_i news p3 hn
                    split at hr
                    · rename_i p4 hw hok
                      simp only [Option.some.injEq] at hr
                      subst hr
                      refine s_append hT hG hev (hf base (Nat.le_refl _) (by simp)) hop hl hts ht hu he hsz ho ha.1 hrow ha.2.1 hn (within_spec hw ha.2.2.2.1) hok (fun ρ => ?_) (hin _ (List.mem_singleton.2 rfl))
                      cases hc : h.c with
                      | none => simp only; exact join_spec ρ _ _
                      | some l =>
                        simp only
                        have := ha.2.2.2.2
                        rw [hc] at this
                        rw [this ρ]; exact join_spec ρ _ _
                    · cases hr
                  · cases hr
                · cases hr
        · cases hr
      · rename_i ty htt ht
        split at hr
        · rename_i e hu
          split at hr
          · rename_i te tu he ht'
            split at hr
            · rename_i k' k z0 hu' hsz hz0
              split at hr
              · rename_i n p1 hn
                split at hr
                · rename_i p2 p3 hw2 hw3
                  simp only [Option.some.injEq] at hr
                  subst hr
                  obtain ⟨j, z, hy, hz1, hz2, _⟩ := natOf_spec (ρ := ρ) hn ha.1
                  exact s_append_zeros hT hG hev (hf base (Nat.le_refl _) (by simp)) hop hl hts ht ht' hu hu' he (Nat.eq_of_beq_eq_true hsz) hz0 hy (by omega) (within_spec hw2 ha.2.1) (within_spec hw3 ha.2.2)
                · cases hr
              · rename_i n p1 hn
                split at hr
                · rename_i old c p0 ho
                  split at hr
                  · rename_i p3 hw3
                    simp only [Option.some.injEq] at hr
                    subst hr
                    obtain ⟨j, z, hy, hz1, hz2, _⟩ := natOf_spec (ρ := ρ) hn ha.1
                    exact s_append_zeros2 hT hG hev (hf base (Nat.le_refl _) (by simp)) hop hl hts ht ht' hu hu' he (Nat.eq_of_beq_eq_true hsz) hz0 ho ha.2.1 hy (by omega) (within_spec hw3 ha.2.2) (fun ρ => join_spec ρ _ _) (hin _ (List.mem_singleton.2 rfl))
                  · cases hr
                · cases hr
              · cases hr
            · cases hr
          · cases hr
        · cases hr
      · cases hr
    · cases hr
  · split at hr
    · rename_i x t hts
      split at hr
      · cases hr
      · rename_i ty ht
        split at hr
        · rename_i e hu
          split at hr
          · rename_i id off len cap
            simp only [Option.some.injEq] at hr
            subst hr
            exact s_cap hT hG hev hop hl hts ht hu (n := len) (cap := cap) rfl
          · rename_i ad n cap
            simp only [Option.some.injEq] at hr
            subst hr
            exact s_cap hT hG hev hop hl hts ht hu (n := n) (cap := cap) rfl
          · cases hr
        · cases hr
    · cases hr
  · split at hr
    · rename_i x y t t' hts
      split at hr
      · rename_i ty ht
        split at hr
        · rename_i e hu
          split at hr
          · rename_i te he
            split at hr
            · rename_i id off len cap hsz
              have hsz := Nat.eq_of_beq_eq_true hsz
              split at hr
              · rename_i b hb
                split at hr
                · rename_i hk hp0 hnil
                  simp only [Option.some.injEq] at hr
                  subst hr
                  exact s_copy_nil hT hG hev hop hl hts ht hu he hsz hnil
                · rename_i p0 hk hp0 hnil
                  split at hr
                  · rename_i id2 o2 m b2 p2 hrow
                    split at hr
                    · rename_i p3 news p4 hw3 hn hok
                      split at hr
                      · rename_i c hput
                        simp only [Option.some.injEq] at hr
                        subst hr
                        have hle := within_spec hp0 ha.1
                        have hml := within_spec hw3 ha.2.2.1
                        obtain ⟨_, hle2, _⟩ := rowOf_spec hrow ha.2.1 hG
                        have hnl := (readSegs_spec ρ hn hle2).2
                        exact s_copy hT hG hev hop hl hts ht hu he hsz hb (Nat.eq_of_beq_eq_true hk) hle hrow ha.2.1 hml hn hok (putRow_spec hput (by rw [hnl, segsVals_len]; omega)) (hinU _ (List.mem_singleton.2 rfl) _ rfl)
                      · cases hr
                    · cases hr
                  · cases hr
                · cases hr
              · cases hr
            · cases hr
          · cases hr
        · cases hr
      · cases hr
    · cases hr
  · split at hr
    · simp only [Option.some.injEq] at hr
      subst hr
      exact s_min hG hev hop hl
    · cases hr
  · cases hr
theorem aop1_sound (hT : TOK P T) (hO : OOK P O) (hG : HR ρ D N M G w) (hev : EvOK a ρ D ev) {h : Hint} {r : Res} (hr : aop1 T O G ev h base o.op = some r) (ha : r.asm.holds) (hf : ∀ id, base ≤ id → id < base + r.new.length → ¬ D id)
    (hin : isCall o.op = false → (∀ b ∈ r.new, segsIn D b.c) ∧ ∀ x ∈ r.upd, ∀ b, x.2 = some b → segsIn D b.c) : Sn P o a w ρ D N M G base r := by
  have hf1 : ∀ {b : Blk}, r.new = [b] → ¬ D base := fun hb => hf base (Nat.le_refl _) (by rw [hb]; simp)
  have hin1 : isCall o.op = false → ∀ {b : Blk}, r.new = [b] → segsIn D b.c := fun hc b hb => (hin hc).1 b (by rw [hb]; simp)
  have hin2 : isCall o.op = false → ∀ {id : Nat} {b : Blk}, r.upd = [(id, some b)] → segsIn D b.c := fun hc id b hb => (hin hc).2 (id, some b) (by rw [hb]; simp) b rfl
  unfold aop1 at hr
  cases hop : o.op with
  | move x =>
    simp only [hop] at hr
    cases hs : ev x with
    | none => simp [hs, ret] at hr
    | some s =>
      simp only [hs, ret, Option.some.injEq] at hr
      subst hr
      exact s_move hG hev hop hs
  | assign x =>
    simp only [hop] at hr
    cases hs : ev x with
    | none => simp [hs, ret] at hr
    | some s =>
      simp only [hs, ret, Option.some.injEq] at hr
      subst hr
      exact s_assign hG hev hop hs
  | pick c x y =>
    simp only [hop] at hr
    split at hr
    · rename_i hc
      cases hs : ev x with
      | none => simp [hs, ret] at hr
      | some s =>
        simp only [hs, ret, Option.some.injEq] at hr
        subst hr
        exact s_pick hG hev hop (t := true) hc hs
    · rename_i hc
      cases hs : ev y with
      | none => simp [hs, ret] at hr
      | some s =>
        simp only [hs, ret, Option.some.injEq] at hr
        subst hr
        exact s_pick hG hev hop (t := false) hc hs
    · cases hr
  | alloc t =>
    simp only [hop] at hr
    split at hr
    · rename_i ty ht
      simp only [Option.some.injEq] at hr
      subst hr
      exact s_alloc hT hG (hf1 rfl) hop ht
    · cases hr
  | box t x =>
    simp only [hop] at hr
    split at hr
    · rename_i b hx
      split at hr
      · rename_i hok
        simp only [Option.some.injEq] at hr
        subst hr
        exact s_box hG hev (hf1 rfl) hop hx hok
      · cases hr
    · cases hr
  | build t parts =>
    simp only [hop] at hr
    split at hr
    · rename_i ty ht
      split at hr
      · rename_i n e hu
        split at hr
        · rename_i te l he hl
          simp only [Option.some.injEq] at hr
          subst hr
          exact s_build_arr hT hG hev hop ht hu he hl
        · cases hr
      · rename_i fs hu
        split at hr
        · rename_i l hl
          simp only [Option.some.injEq] at hr
          subst hr
          exact s_build_st hT hG hev hop ht hu hl
        · cases hr
      · cases hr
    · cases hr
  | buildSlice t len parts =>
    simp only [hop] at hr
    split at hr
    · rename_i ty ht
      split at hr
      · rename_i e hu
        split at hr
        · rename_i te he
          split at hr
          · rename_i l hle hl
            simp only [Option.some.injEq] at hr
            subst hr
            exact s_buildSlice hT hG hev (hf1 rfl) hop ht hu he (Nat.le_of_ble_eq_true hle) hl (hin1 (by rw [hop]; rfl) rfl)
          · cases hr
        · cases hr
      · cases hr
    · cases hr
  | load t x =>
    simp only [hop] at hr
    split at hr
    · rename_i ty id off ht hx
      split at hr
      · rename_i b hb
        split at hr
        · rename_i i u n d hc
          split at hr
          · rename_i hagg
            simp only [Option.some.injEq] at hr
            subst hr
            have ha : ∀ ρ : Nat → Loc, (segsVals ρ b.c)[off]? = some (Seg.conc ρ (.r i u n d)) := ha
            exact s_load_one (s := .av (.one (.r i u n d))) hT hG hev hop ht hagg hx hb (ha ρ)
          · cases hr
        · rename_i ad len cap k zs hc
          split at hr
          · rename_i hagg
            simp only [Option.some.injEq] at hr
            subst hr
            have ha : (∀ ρ : Nat → Loc, (segsVals ρ b.c)[off]? = some (.slice ad len cap)) ∧ TabRow GT.tab ad len cap k zs := ha
            exact s_load_ro hT hG hev (hf base (Nat.le_refl _) (by simp)) hop ht hagg hx hb (ha.1 ρ) ha.2
          · cases hr
        · rename_i x hc
          split at hr
          · rename_i hagg
            simp only [Option.some.injEq] at hr
            subst hr
            have ha : ∀ ρ : Nat → Loc, (segsVals ρ b.c)[off]? = some x := ha
            exact s_load_one (s := .av (.one (.v x))) hT hG hev hop ht hagg hx hb (ha ρ)
          · cases hr
        · cases hr
        split at hr
        · rename_i v p hv
          simp only [Option.some.injEq] at hr
          subst hr
          obtain ⟨_, h2, h3⟩ := readAt_spec (P := P) (ρ := ρ) (w := w) (hT t ty ht) hv ha
          cases hagg : ty.u.agg with
          | false => exact s_load_one hT hG hev hop ht hagg hx hb (h2 hagg)
          | true =>
            obtain ⟨l, hl, rfl, hle⟩ := h3 hagg
            exact s_load_agg hT hG hev hop ht hagg hx hb hl hle
        · cases hr
      · cases hr
    · cases hr
  | store t x y =>
    simp only [hop] at hr
    split at hr
    · rename_i ty id off v ht hx hy
      split at hr
      · rename_i b hb
        split at hr
        · rename_i hk
          split at hr
          · rename_i c p hs
            simp only [Option.some.injEq] at hr
            subst hr
            obtain ⟨h1, h2, h3, h4⟩ := storeAt_spec (ρ := ρ) hs ha
            exact s_store hT hG hev hop ht hx hb (Nat.eq_of_beq_eq_true hk) hy h1 h2 h3 h4 (hin2 (by rw [hop]; rfl) rfl)
          · cases hr
        · split at hr
          · rename_i hk1
            rw [Bool.and_eq_true] at hk1
            split at hr
            · rename_i c p hs
              simp only [Option.some.injEq] at hr
              subst hr
              obtain ⟨h1, h2, h3, h4⟩ := storeAt_spec (ρ := ρ) hs ha
              exact s_store1 hT hG hev hop ht hx hb (Nat.eq_of_beq_eq_true hk1.1) hy h1 h2 (Nat.le_of_ble_eq_true hk1.2) h3 h4 (hin2 (by rw [hop]; rfl) rfl)
            · cases hr
          · cases hr
      · cases hr
    · cases hr
  | nilCheck x =>
    simp only [hop] at hr
    split at hr
    · rename_i id off hx
      split at hr
      · rename_i hb
        split at hr
        · rename_i hA
          simp only [Option.some.injEq] at hr
          subst hr
          exact s_nilCheck hG hev hop hx hb hA
        · cases hr
      · cases hr
    · cases hr
  | binOp op t x y t' =>
    simp only [hop] at hr
    split at hr
    · rename_i u v hx hy
      split at hr
      · rename_i ty ht
        split at hr
        · rename_i hu
          split at hr
          · simp only [Option.some.injEq] at hr
            subst hr
            exact s_boolEq hT hG hev hop hx hy ht hu _ (.inl ⟨rfl, rfl⟩)
          · simp only [Option.some.injEq] at hr
            subst hr
            exact s_boolEq hT hG hev hop hx hy ht hu _ (.inr ⟨rfl, rfl⟩)
          · cases hr
        · cases hr
      · cases hr
    · rename_i hx hy
      split at hr
      · rename_i ty ht
        split at hr
        · rename_i hu
          simp only [Option.some.injEq] at hr
          subst hr
          exact s_nilNil hT hG hev hop hx hy ht hu _ (.inl ⟨rfl, rfl⟩)
        · rename_i hu
          simp only [Option.some.injEq] at hr
          subst hr
          exact s_nilNil hT hG hev hop hx hy ht hu _ (.inr ⟨rfl, rfl⟩)
        · cases hr
      · cases hr
    · rename_i u v hx hy
      split at hr
      · rename_i r' p hb
        simp only [Option.some.injEq] at hr
        subst hr
        exact s_bin hG hev hop hx hy hb ha
      · cases hr
    · rename_i id off hx hy
      split at hr
      · rename_i ty ht
        split at hr
        · rename_i hu hb
          split at hr
          · rename_i hA
            simp only [Option.some.injEq] at hr
            subst hr
            exact s_ptrNil hT hG hev hop hx hy hb hA ht hu _ (.inl ⟨rfl, rfl⟩)
          · rename_i hA
            simp only [Option.some.injEq] at hr
            subst hr
            exact s_ptrNil hT hG hev hop hx hy hb hA ht hu _ (.inr ⟨rfl, rfl⟩)
          · cases hr
        · cases hr
      · cases hr
    · rename_i u v hx hy
      split at hr
      · rename_i ty ht
        split at hr
        · rename_i hu hk
          split at hr
          · simp only [Option.some.injEq] at hr
            subst hr
            exact s_arrEq hT hG hev hop hx hy (u := words u) (v := words v) rfl rfl ht hu hk rfl rfl _ (.inl ⟨rfl, rfl⟩)
          · simp only [Option.some.injEq] at hr
            subst hr
            exact s_arrEq hT hG hev hop hx hy (u := words u) (v := words v) rfl rfl ht hu hk rfl rfl _ (.inr ⟨rfl, rfl⟩)
          · cases hr
        · cases hr
      · cases hr
    · rename_i sa sb _ _ _ _ _ hx hy
      split at hr
      · rename_i ty ht
        split at hr
        · rename_i n q hu hk
          split at hr
          · rename_i u v hu' hv' hagg
            rw [Bool.and_eq_true] at hagg
            have ca : SV.conc ρ (.av sa) = .agg (u.map (Value.int q)).toArray := by rw [conc_av, aggB_conc ρ hagg.1, intsOf_spec ρ _ _ hu']
            have cb : SV.conc ρ (.av sb) = .agg (v.map (Value.int q)).toArray := by rw [conc_av, aggB_conc ρ hagg.2, intsOf_spec ρ _ _ hv']
            split at hr
            · rename_i hl
              rw [Bool.and_eq_true] at hl
              simp only [Option.some.injEq] at hr
              subst hr
              exact s_arrEq hT hG hev hop hx hy ca cb ht hu hk (Nat.eq_of_beq_eq_true hl.1) (Nat.eq_of_beq_eq_true hl.2) _ (.inl ⟨rfl, rfl⟩)
            · rename_i hl
              rw [Bool.and_eq_true] at hl
              simp only [Option.some.injEq] at hr
              subst hr
              exact s_arrEq hT hG hev hop hx hy ca cb ht hu hk (Nat.eq_of_beq_eq_true hl.1) (Nat.eq_of_beq_eq_true hl.2) _ (.inr ⟨rfl, rfl⟩)
            · cases hr
          · cases hr
        · rename_i fs hu
          split at hr
          · rename_i e hagg he
            rw [Bool.and_eq_true, Bool.and_eq_true] at hagg
            simp only [Option.some.injEq] at hr
            subst hr
            exact s_stEq hT hG hev hop hx hy (by rw [conc_av, aggB_conc ρ hagg.2.1]) (by rw [conc_av, aggB_conc ρ hagg.2.2]) ht hu hagg.1 he _ (.inl ⟨rfl, rfl⟩)
          · rename_i e hagg he
            rw [Bool.and_eq_true, Bool.and_eq_true] at hagg
            simp only [Option.some.injEq] at hr
            subst hr
            exact s_stEq hT hG hev hop hx hy (by rw [conc_av, aggB_conc ρ hagg.2.1]) (by rw [conc_av, aggB_conc ρ hagg.2.2]) ht hu hagg.1 he _ (.inr ⟨rfl, rfl⟩)
          · cases hr
        · cases hr
      · cases hr
    · cases hr
  | lookup t x i cok =>
    cases cok with
    | false => simp only [hop] at hr; cases hr
    | true =>
      simp only [hop] at hr
      split at hr
      · rename_i ty id k ht hx hi
        split at hr
        · rename_i kt et b hu hb
          split at hr
          · rename_i tk te hk he
            split at hr
            · rename_i fs huk hz
              split at hr
              · rename_i y l hc hm
                simp only [Bool.and_eq_true] at hc
                split at hr
                · rename_i c z hfm
                  simp only [Option.some.injEq] at hr
                  subst hr
                  exact s_lookup hT hG hev hop hx hb hi (by rw [conc_av, aggB_conc ρ hc.2.2.1]) ht hu hk he huk hz (Nat.le_of_ble_eq_true hc.1) hc.2.1 hc.2.2.2 hm hfm
                · cases hr
              · cases hr
            · cases hr
          · cases hr
        · cases hr
      · cases hr
  | unOp op t x =>
    simp only [hop] at hr
    split at hr
    · rename_i b hx
      split at hr
      · simp only [Option.some.injEq] at hr
        subst hr
        exact s_not hG hev hop hx
      · cases hr
    · rename_i k z hx
      split at hr
      · simp only [Option.some.injEq] at hr
        subst hr
        exact s_neg hG hev hop hx
      · simp only [Option.some.injEq] at hr
        subst hr
        exact s_cpl hG hev hop hx
      · cases hr
    · cases hr
  | convert s d x =>
    simp only [hop] at hr
    split at hr
    · rename_i ts ty sv hts ht hx
      split at hr
      · rename_i k hu
        split at hr
        · simp only [Option.some.injEq] at hr
          subst hr
          refine s_convInt hT hG hev hop hx ht hu ?_
          have hus := (hT s ts hts).und
          cases hq : ts.u with
          | oth => rw [hq] at hus; obtain ⟨d, hd, _⟩ := hus; exact ⟨d, hd⟩
          | st fs => rw [hq] at hus; obtain ⟨d, hd, _⟩ := hus; exact ⟨_, hd⟩
          | _ => rw [hq] at hus; exact ⟨_, hus⟩
        · cases hr
      · rename_i e hu
        split at hr
        · rename_i te str hus he
          split at hr
          · rename_i hue
            simp only [Option.some.injEq] at hr
            subst hr
            exact s_convBytes hT hG hev (hf base (Nat.le_refl _) (by simp)) hop hx ht hu hts hus he hue
          · cases hr
        · rename_i e2 te id len cap hus he
          split at hr
          · rename_i b hue hb
            split at hr
            · rename_i h1 h2 h3 h4
              simp only [Option.some.injEq] at hr
              subst hr
              obtain rfl := Nat.eq_of_beq_eq_true h1
              obtain rfl := Nat.eq_of_beq_eq_true h2
              exact s_convMark hT hG hev (hf base (Nat.le_refl _) (by simp)) hop hx hb (Nat.eq_of_beq_eq_true h3) (Nat.eq_of_beq_eq_true h4) ht hu he hue
            · cases hr
          · cases hr
        · cases hr
      · rename_i hu
        split at hr
        · rename_i e hus
          split at hr
          · rename_i te he
            split at hr
            · rename_i hue
              split at hr
              · rename_i hnil
                simp only [Option.some.injEq] at hr
                subst hr
                exact s_convNil hT hG hev hop hx ht hu hts hus he hue hnil
              · split at hr
                · rename_i id off m b p1 hrow
                  split at hr
                  · rename_i l p2 hl
                    split at hr
                    · rename_i zs hz
                      simp only [Option.some.injEq] at hr
                      subst hr
                      exact s_convStr hT hG hev hop hx ht hu hts hus he hue hrow ha.1 hl hz
                    · cases hr
                  · cases hr
                · cases hr
            · cases hr
          · cases hr
        · cases hr
      · cases hr
    · cases hr
  | sliceToArrayPointer t x =>
    simp only [hop] at hr
    split at hr
    · rename_i ty sv ht hx
      split at hr
      · rename_i n e hu
        split at hr
        · rename_i id off m b p1 hrow
          split at hr
          · rename_i p2 hw hn
            simp only [Option.some.injEq] at hr
            subst hr
            exact s_arrPtr hT hG hev hop ht hu hx hrow ha.1 (within_spec hw ha.2) (Nat.le_of_ble_eq_true hn)
          · cases hr
        · cases hr
      · cases hr
    · cases hr
  | makeSlice t l c =>
    simp only [hop] at hr
    split at hr
    · rename_i ty sl sc ht hl hc
      split at hr
      · rename_i e hu
        split at hr
        · rename_i te he
          split at hr
          · rename_i k z0 hz
            split at hr
            · rename_i n p1 m p2 h1 h2
              split at hr
              · rename_i p3 p4 hw hnm
                simp only [Option.some.injEq] at hr
                subst hr
                refine s_makeSlice hT hG hev (hf1 rfl) hop ht hu he hz hl hc h1 ha.1 h2 ha.2.1 (within_spec hw ha.2.2.1) ?_
                cases hsy : h.sym with
                | true => rw [hsy] at hnm; simp only [Option.some.injEq] at hnm; have := ha.2.2.2; rw [← hnm] at this; exact this
                | false =>
                  rw [hsy] at hnm
                  simp only at hnm
                  split at hnm
                  · rename_i hq; exact Nat.eq_of_beq_eq_true hq
                  · cases hnm
              · cases hr
            · cases hr
          · cases hr
        · cases hr
      · cases hr
    · cases hr
  | slice t x lo hi mx =>
    simp only [hop] at hr
    split at hr
    · rename_i ty sv ht hx
      split at hr
      · rename_i lo' hi' mx' hlo hhi hmx
        have hg : ∀ (y : Option Operand) (z : Option SV), (match y with | none => some none | some q => match ev q with | some v => some (some v) | none => none) = some z → y.map a.eval = z.map (SV.conc ρ) := by
          intro y z hyz
          cases y with
          | none => simp only [Option.some.injEq] at hyz; subst hyz; rfl
          | some q =>
            simp only at hyz
            split at hyz
            · rename_i v hv
              simp only [Option.some.injEq] at hyz
              subst hyz
              simp only [Option.map_some, (hev q v hv).1]
            · cases hyz
        have e1 := hg _ _ hlo
        have e2 := hg _ _ hhi
        have e3 := hg _ _ hmx
        have hty := hT t ty ht
        have fin : ∀ {e : TypeId} {te : Ty} {n : Nat}, look T e = some te → sliceOf h.sym te.size G sv lo' hi' mx' n = some r → ((∃ id off, sv = .av (.one (.p id off)) ∧ P.underlying t = some (.array n e)) ∨ ((∀ id off, sv ≠ .av (.one (.p id off))) ∧ P.underlying t = some (.slice e))) → Sn P o a w ρ D N M G base r := by
          intro e te n he hs hun
          obtain ⟨h1, h2, h3⟩ := sliceOf_spec (t := t) hG (hT e te he) hs ha hun
          refine sn_same hG (slice_exec hop) ?_ h2 h3
          rw [(hev x _ hx).1, e1, e2, e3]
          exact h1
        split at hr
        · rename_i n e hu
          have hun : P.underlying t = some (.array n e) := by have := hty.und; rw [hu] at this; exact this
          split at hr
          · rename_i te id off he
            exact fin he hr (.inl ⟨id, off, rfl, hun⟩)
          · cases hr
        · rename_i e hu
          have hun : P.underlying t = some (.slice e) := by have := hty.und; rw [hu] at this; exact this
          split at hr
          · cases hr
          · rename_i te he hne
            exact fin he hr (.inr ⟨fun id off hh => hne id off hh, hun⟩)
          · cases hr
        · rename_i hu
          have hun : P.underlying t = some .string := by have := hty.und; rw [hu] at this; exact this
          split at hr
          · rename_i str
            split at hr
            · rename_i l u m p hb
              simp only [Option.some.injEq] at hr
              subst hr
              obtain ⟨hrun, _⟩ := bnds_spec (P := P) (ρ := ρ) (w := w) (sl := false) hb ha (Nat.le_refl _) (Nat.le_refl _)
              refine sn_same hG (slice_exec hop) ?_ rfl rfl
              rw [(hev x _ hx).1, e1, e2, e3]
              simp only [ofV, SV.conc, AV.conc, Seg.conc, Option.map_none] at hrun ⊢
              simp only [Instr.sliceAt, Instr.slice, Sem.run_bind, run_underlying hun, Result.andThen_ok]
              simp [hrun]
            · cases hr
          · cases hr
        · cases hr
      · cases hr
    · cases hr
  | fieldAddr t x f =>
    simp only [hop] at hr
    split at hr
    · rename_i ty id off ht hx
      split at hr
      · rename_i fs o' n hu hpl hb
        split at hr
        · rename_i hn
          simp only [Option.some.injEq] at hr
          subst hr
          rw [hu] at hpl
          rw [Bool.and_eq_true] at hn
          exact s_fieldAddr hT hG hev hop ht hu hx hb hn.2 hpl (Nat.le_of_ble_eq_true hn.1)
        · cases hr
      · cases hr
    · cases hr
  | field t x f =>
    simp only [hop] at hr
    split at hr
    · rename_i ty b ht hx
      split at hr
      · rename_i fs hu
        split at hr
        · rename_i off t' hfs
          split at hr
          · rename_i ty' ht'
            split at hr
            · rename_i v p hok hv
              simp only [Bool.and_eq_true] at hok
              simp only [Option.some.injEq] at hr
              subst hr
              exact s_field hT hG hev hop ht hu hx hok.1 hfs ht' hv ha (aggB_spec hok.2)
            · cases hr
          · cases hr
        · cases hr
      · cases hr
    · cases hr
  | indexAddr t x i =>
    simp only [hop] at hr
    split at hr
    · rename_i ty sx si ht hx hi
      split at hr
      · rename_i n e hu
        split at hr
        · rename_i id off te j p he hj
          split at hr
          · rename_i hb
            split at hr
            · rename_i hn
              simp only [Option.some.injEq] at hr
              subst hr
              rw [Bool.and_eq_true] at hn
              exact s_indexAddr_arr hT hG hev hop ht hu he hx hb hn.2 hi hj ha (Nat.le_of_ble_eq_true hn.1)
            · cases hr
          · cases hr
        · cases hr
      · rename_i e hu
        split at hr
        · rename_i id off m b p1 te hrow he
          split at hr
          · rename_i j p2 hj
            split at hr
            · rename_i p3 hw
              simp only [Option.some.injEq] at hr
              subst hr
              exact s_indexAddr_sl hT hG hev hop ht hu he hx hrow ha.1 hi hj ha.2.1 (within_spec hw ha.2.2)
            · cases hr
          · cases hr
        · cases hr
      · cases hr
    · cases hr
  | index t x i =>
    simp only [hop] at hr
    split at hr
    · rename_i ty b si ht hx hi
      split at hr
      · rename_i n e hu
        split at hr
        · rename_i te j p he hj
          split at hr
          · rename_i v p' hok hv
            simp only [Bool.and_eq_true] at hok
            simp only [Option.some.injEq] at hr
            subst hr
            exact s_index hT hG hev hop ht hu he hx hok.1.1 hi hj ha.1 (Nat.le_of_ble_eq_true hok.2) hv ha.2 (aggB_spec hok.1.2)
          · cases hr
        · cases hr
      · cases hr
    · cases hr
  | extract x i =>
    simp only [hop] at hr
    split at hr
    · rename_i l hx
      split at hr
      · rename_i b hb
        simp only [Option.some.injEq] at hr
        subst hr
        exact s_extract hG hev hop hx hb
      · cases hr
    · cases hr
  | call c =>
    obtain ⟨cal, args, ts⟩ := c
    simp only [hop] at hr
    split at hr
    · rename_i f
      split at hr
      · rename_i e l he hl
        exact s_call hO hG hev hop he hl hr ha hf
      · cases hr
    · rename_i b
      split at hr
      · rename_i l hl
        exact builtin_sound hT hG hev hop hl hr ha hf (hin (by rw [hop]; rfl)).1 (hin (by rw [hop]; rfl)).2
      · cases hr
    · cases hr
  | _ => simp [hop] at hr

end
end Go.Proofs.YtpefomdegbmecaaDoor.Am
/- The abstract machine: a region in the order of the text. Conditions: none. -/
namespace Go.Proofs.YtpefomdegbmecaaDoor.Am
set_option linter.unusedVariables false
set_option linter.unusedSimpArgs false
open Go Go.RowKit
open Rg (gives)

/-- What the machine knows: the slots, the blocks, the next name, the globals' blocks. -/
structure St where
  tm : List (Option SV)
  hp : List (Nat × Blk)
  nx : Nat
  gl : List (Nat × Nat)
def nth {α : Type} : List α → Nat → Option α
  | [], _ => none
  | x :: _, 0 => some x
  | _ :: l, n + 1 => nth l n
def setNth {α : Type} (x : α) : List α → Nat → List α
  | [], _ => []
  | _ :: l, 0 => x :: l
  | y :: l, n + 1 => y :: setNth x l n
theorem nth_set {α : Type} (x : α) : ∀ (l : List α) (n m : Nat), nth (setNth x l n) m = if n = m then (if n < l.length then some x else none) else nth l m
  | [], n, m => by by_cases h : n = m <;> simp [setNth, nth, h]
  | y :: l, 0, 0 => by simp [setNth, nth]
  | y :: l, 0, m + 1 => by simp [setNth, nth]
  | y :: l, n + 1, 0 => by simp [setNth, nth]
  | y :: l, n + 1, m + 1 => by
    simp only [setNth, nth, nth_set x l n m, List.length_cons, Nat.add_right_cancel_iff, Nat.add_lt_add_iff_right]
theorem nth_len {α : Type} : ∀ (l : List α) (n : Nat) (x : α), nth l n = some x → n < l.length
  | [], _, _, h => by cases h
  | _ :: _, 0, _, _ => by simp
  | _ :: l, n + 1, x, h => by have := nth_len l n x h; simp; omega
theorem setNth_len {α : Type} (x : α) : ∀ (l : List α) (n : Nat), (setNth x l n).length = l.length
  | [], _ => rfl
  | _ :: _, 0 => rfl
  | _ :: l, n + 1 => by simp [setNth, setNth_len x l n]
def St.get (s : St) (t : Nat) : Option SV := match nth s.tm t with
  | some (some v) => some v
  | _ => none
def constSV (v : Value) : SV := match v with
  | .agg cs => .av (.agg (cs.toList.map Seg.v))
  | v => ofV v
def evL (get : Nat → Option SV) (gl : List (Nat × Nat)) : Operand → Option SV
  | .tmp t => get t
  | .const v => some (constSV v)
  | .global g => match look gl g with
    | some id => some (.av (.one (.p id 0)))
    | none => none
  | .func f => some (ofV (.func (.func f) #[] #[]))

def segB (f : Nat → Bool) : Seg → Bool
  | .p id _ => f id
  | .s id _ _ _ => f id
  | .r id _ _ _ => f id
  | .m id => f id
  | _ => true
def svB (f : Nat → Bool) : SV → Bool
  | .av a => a.segs.all (segB f)
  | .tup l => l.all fun a => a.segs.all (segB f)
theorem segB_in {f : Nat → Bool} {D : Nat → Prop} (h : ∀ id, f id = true → D id) : ∀ {s : Seg}, segB f s = true → s.In D
  | .v _, _ | .num _, _ | .arr _ _, _ | .ap _ _ _, _ | .vs _, _ => trivial
  | .p id _, hs | .s id _ _ _, hs | .r id _ _ _, hs | .m id, hs => h id hs
theorem segsB_in {f : Nat → Bool} {D : Nat → Prop} (h : ∀ id, f id = true → D id) {l : List Seg} (hl : l.all (segB f) = true) : segsIn D l := fun s hs => segB_in h (List.all_eq_true.1 hl s hs)
theorem svB_in {f : Nat → Bool} {D : Nat → Prop} (h : ∀ id, f id = true → D id) {s : SV} (hl : svB f s = true) : s.In D := by
  cases s with
  | av a => exact segsB_in h hl
  | tup l => exact fun a ha => segsB_in h (List.all_eq_true.1 hl a ha)

inductive Want where
  | yes | no | bad
def wantOf (ops : Array Oper) (get : Nat → Option SV) (o : Oper) : Want :=
  match o.guard with
  | none => .yes
  | some (j, b) => match Rg.dstOf ops j with
    | none => .bad
    | some t => match get t with
      | some (.av (.one (.v (.bool c)))) => match c, b with
        | true, true => .yes
        | false, false => .yes
        | _, _ => .no
      | some (.av (.one (.v (.tuple _)))) => .no
      | _ => .bad
def resB (f : Nat → Bool) (base : Nat) (call : Bool) (r : Res) : Bool :=
  svB (fun id => f id || (Nat.ble base id && Nat.blt id (base + r.new.length))) r.val && (call || (r.new.all (fun b => b.c.all (segB f)) && r.upd.all fun x => match x.2 with
    | some b => b.c.all (segB f)
    | none => true))
def opRes (T : List (Nat × Ty)) (O : List (Nat × Ent)) (ops : Array Oper) (get : Nat → Option SV) (gl : List (Nat × Nat)) (G : Nat → Option Blk) (h : Hint) (base : Nat) (f : Nat → Bool) (o : Oper) : Option Res :=
  match wantOf ops get o with
  | .yes => match aop T O G (evL get gl) h base o.op with
    | some r => match resB f base (isCall o.op) r with
      | true => some r
      | false => none
    | none => none
  | .no => some { val := ofV undef }
  | .bad => none

/-- The world at the beginning, and where blocks are known to lie. -/
structure Wd where
  w : World
  lk : Nat → Option Addr := fun _ => none
def LkOK (gl : List (Nat × Nat)) (lk : Nat → Option Addr) (x : Addr) (id : Nat) : Prop := (∃ g, x = ⟨g, 0, none⟩ ∧ look gl g = some id) ∨ lk id = some x
/-- What an act and a world are to what is known. -/
structure Rel [GT] (ρ : Nat → Loc) (D : Nat → Prop) (N : Nat) (M : List Nat) (w0 : Wd) (gl : List (Nat × Nat)) (get : Nat → Option SV) (G : Nat → Option Blk) (a : Act) (w : World) : Prop where
  slots : ∀ t sv, get t = some sv → a.eval (.tmp t) = sv.conc ρ ∧ sv.In D
  globals : ∀ x id, LkOK gl w0.lk x id → (ρ id).a = some x ∧ D id
  hr : HR ρ D N M G w
  kept : Kept N M w0.w w
  defers : a.defers = []

section
variable {P : Program} {T : List (Nat × Ty)} {O : List (Nat × Ent)} {ρ : Nat → Loc} {D : Nat → Prop} {N : Nat} {M : List Nat} {w0 : Wd} {w : World} {gl : List (Nat × Nat)} {get : Nat → Option SV} {G : Nat → Option Blk} {a : Act} {ops : Array Oper} {o : Oper}
variable [GT]

theorem Rel.ev (h : Rel ρ D N M w0 gl get G a w) : EvOK a ρ D (evL get gl) := by
  intro x s hs
  cases x with
  | tmp t => exact h.slots t s hs
  | const v =>
    simp only [evL, Option.some.injEq] at hs
    subst hs
    cases v
    case agg cs =>
      refine ⟨?_, fun s hs => ?_⟩
      · simp only [Act.eval, constSV, SV.conc, AV.conc]
        congr 1
        apply Array.toList_inj.1
        simp [segsVals, Seg.vals, Seg.conc, List.flatMap_map]
      · simp only [AV.segs, List.mem_map] at hs
        obtain ⟨u, _, rfl⟩ := hs
        trivial
    all_goals exact ⟨rfl, fun s hs => by simp [AV.segs] at hs; subst hs; trivial⟩
  | global g =>
    simp only [evL] at hs
    split at hs
    · rename_i id hid
      simp only [Option.some.injEq] at hs
      subst hs
      obtain ⟨h1, h2⟩ := h.globals ⟨g, 0, none⟩ id (.inl ⟨g, rfl, hid⟩)
      refine ⟨?_, fun s hs => by simp [AV.segs] at hs; subst hs; exact h2⟩
      rw [conc_p, h1]
      simp [Act.eval, Addr.add]
    · cases hs
  | func f =>
    simp only [evL, Option.some.injEq] at hs
    subst hs
    exact ⟨rfl, fun s hs => by simp [AV.segs] at hs; subst hs; trivial⟩

theorem want_yes (h : Rel ρ D N M w0 gl get G a w) (hw : wantOf ops get o = .yes) : Region.wanted o (yielded ops a.tmps) = true := by
  unfold wantOf at hw
  split at hw
  · rename_i hg; simp [Region.wanted, hg]
  · rename_i j b hg
    split at hw
    · cases hw
    · rename_i t hd
      split at hw
      · rename_i c hc
        have := (h.slots t _ hc).1
        refine Rg.wanted_some (b := b) hg hd ?_
        rw [this]
        split at hw
        · rfl
        · rfl
        · cases hw
      · cases hw
      · cases hw
theorem want_no (h : Rel ρ D N M w0 gl get G a w) (hw : wantOf ops get o = .no) : Region.wanted o (yielded ops a.tmps) = false := by
  unfold wantOf at hw
  split at hw
  · cases hw
  · rename_i j b hg
    split at hw
    · cases hw
    · rename_i t hd
      split at hw
      · rename_i c hc
        have := (h.slots t _ hc).1
        refine Rg.wanted_not (b := b) (c := c) hg hd ?_ ?_
        · rw [this]; rfl
        · cases c <;> cases b <;> first | (simp at hw; done) | simp
      · rename_i vs hc
        have h1 := (h.slots t _ hc).1
        have h2 : a.tmps[t]?.getD undef = .tuple vs := by
          have : a.eval (.tmp t) = .tuple vs := h1
          simpa [Act.eval, Array.getD_eq_getD_getElem?] using this
        unfold Rg.dstOf at hd
        simp only [Region.wanted, hg, yielded, hd]
        cases hx : a.tmps[t]? with
        | none => simp [hx]
        | some v =>
          rw [hx, Option.getD_some] at h2
          subst h2
          simp [hx]
      · cases hw

omit [GT] in
theorem ownsRow_cut {w : World} {ty : TypeId} {a : Option Addr} {cap n : Nat} {xs ys : List Value} (h : w.ownsRow 0 ty 1 (.slice a xs.length cap) xs.length xs) (hy : ys = xs.take n) : w.ownsRow 0 ty 1 (.slice a ys.length cap) ys.length ys := by
  subst hy
  refine ⟨(Nat.mul_one _).symm, ?_⟩
  rcases h.2 with ⟨hv, h0⟩ | ⟨g, cap', cur, hv, hbg, hg, hnc, hcm, hcs, htake⟩
  · injection hv with h1 h2 h3
    left
    have : (xs.take n).length = 0 := by rw [List.length_take]; omega
    rw [this, h1, h3]
    exact ⟨rfl, rfl⟩
  · injection hv with h1 h2 h3
    right
    have hl : (xs.take n).length ≤ xs.length := by rw [List.length_take]; omega
    refine ⟨g, cap', cur, by rw [h1, h3], hbg, hg, by omega, hcm, hcs, ?_⟩
    rw [Nat.mul_one] at htake ⊢
    have e : xs.take n = xs.take (xs.take n).length := by
      rw [List.length_take]
      rcases Nat.le_total n xs.length with h | h
      · rw [Nat.min_eq_left h]
      · rw [Nat.min_eq_right h, List.take_of_length_le h, List.take_of_length_le (Nat.le_refl _)]
    conv => rhs; rw [e, ← htake]
    rw [List.take_take, Nat.min_eq_left (by rw [htake]; exact hl)]
    rw [htake]
theorem HR.trunc {G' : Nat → Option Blk} (h : HR ρ D N M G w) {id : Nat} {ty : TypeId} {c l : List Seg} {n : Nat} (hb : G id = some ⟨1, ty, c⟩) (hl : ∀ ρ, segsVals ρ l = (segsVals ρ c).take n) (hin : segsIn D l) (hG' : ∀ i b, G' i = some b → (i = id ∧ b = ⟨1, ty, l⟩) ∨ (i ≠ id ∧ G i = some b)) : HR ρ D N M G' w := by
  refine ⟨h.size, fun i b hi => ?_, fun i b x hi hx => ?_, fun i b x hi hk hx => ?_, fun i j bi bj x y hi hj hij hk hx hy => ?_, h.gw⟩
  · rcases hG' i b hi with ⟨rfl, rfl⟩ | ⟨_, h2⟩
    · obtain ⟨h1, _, h3⟩ := h.blk i _ hb
      exact ⟨h1, hin, ownsRow_cut (n := n) h3 (hl ρ)⟩
    · exact h.blk i b h2
  · rcases hG' i b hi with ⟨rfl, rfl⟩ | ⟨_, h2⟩
    · exact h.lt i _ x hb hx
    · exact h.lt i b x h2 hx
  · rcases hG' i b hi with ⟨rfl, rfl⟩ | ⟨_, h2⟩
    · exact h.own i _ x hb (by simp) hx
    · exact h.own i b x h2 hk hx
  · rcases hG' i bi hi with ⟨rfl, rfl⟩ | ⟨_, h2⟩
    · rcases hG' j bj hj with ⟨rfl, rfl⟩ | ⟨_, h4⟩
      · exact absurd rfl hij
      · exact h.dist i j _ bj x y hb h4 hij (by simp) hx hy
    · rcases hG' j bj hj with ⟨rfl, rfl⟩ | ⟨_, h4⟩
      · exact h.dist i j bi _ x y h2 hb hij hk hx hy
      · exact h.dist i j bi bj x y h2 h4 hij hk hx hy
theorem fits_trunc {ρ' : Nat → Loc} {v : Value} {w' : World} {base : Nat} {r : Res} (hF : Fits ρ D N M G base r w ρ' v w') (hn : r.new = []) (hu : r.upd = []) {id : Nat} {ty : TypeId} {c l : List Seg} {n : Nat} (hb : G id = some ⟨1, ty, c⟩) (hl : ∀ ρ, segsVals ρ l = (segsVals ρ c).take n) (hin : segsIn D l) {q : Asm} : Fits ρ D N M G base { r with upd := [(id, some ⟨1, ty, l⟩)], asm := q } w ρ' v w' := by
  refine ⟨hF.agree, hF.val, ?_, hF.kept, fun h => by cases h⟩
  have e : appl G base r = G := by
    funext i
    unfold appl
    rw [hu, hn]
    simp only [look, List.length_nil]
    rw [if_neg (by omega)]
  have h0 := hF.hr
  rw [e] at h0
  refine h0.trunc hb hl (hin.mono fun i hi => .inl hi) fun i b hi => ?_
  unfold appl at hi
  simp only [hn, look, List.length_nil] at hi
  by_cases hid : id = i
  · subst hid
    rw [Nat.beq_refl] at hi
    simp only at hi
    injection hi with hi
    exact .inl ⟨rfl, hi.symm⟩
  · have : Nat.beq id i = false := by
      cases hq : Nat.beq id i
      · rfl
      · exact absurd (Nat.eq_of_beq_eq_true hq) hid
    rw [this] at hi
    simp only at hi
    rw [if_neg (by omega)] at hi
    exact .inr ⟨fun e => hid e.symm, hi⟩
theorem sn_mono {base : Nat} {r r' : Res} (h : Sn P o a w ρ D N M G base r) (k : ∀ v w' ρ', Fits ρ D N M G base r w ρ' v w' → Fits ρ D N M G base r' w ρ' v w') : Sn P o a w ρ D N M G base r' := by
  unfold Sn gives at *
  generalize (execOp a.eval o).run P w = q at *
  cases q with
  | ok n w1 =>
    cases n with
    | value v => exact h.imp fun ρ' hF => k v w1 ρ' hF
    | skip => exact h.imp fun ρ' hF => k undef w1 ρ' hF
    | enter f args => exact Calls.mono h fun e w2 ⟨v, he, hF⟩ => ⟨v, he, hF.imp fun ρ' hF => k v w2 ρ' hF⟩
    | _ => exact h.elim
  | halt x w1 => exact h.elim
theorem aop_sound (hT : TOK P T) (hO : OOK P O) (hG : HR ρ D N M G w) {ev : Operand → Option SV} (hev : EvOK a ρ D ev) {h : Hint} {base : Nat} {r : Res} (hr : aop T O G ev h base o.op = some r) (ha : r.asm.holds) (hf : ∀ id, base ≤ id → id < base + r.new.length → ¬ D id)
    (hin : isCall o.op = false → (∀ b ∈ r.new, segsIn D b.c) ∧ ∀ x ∈ r.upd, ∀ b, x.2 = some b → segsIn D b.c) : Sn P o a w ρ D N M G base r := by
  unfold aop at hr
  split at hr
  · cases hr
  · rename_i r0 h0
    have hS : ∀ r1, truncOf o.op h G r0 = some r1 → r1.asm.holds → (∀ id, base ≤ id → id < base + r1.new.length → ¬ D id) → (isCall o.op = false → (∀ b ∈ r1.new, segsIn D b.c) ∧ ∀ x ∈ r1.upd, ∀ b, x.2 = some b → segsIn D b.c) → Sn P o a w ρ D N M G base r1 := by
      intro r1 ht ha1 hf1 hin1
      unfold truncOf at ht
      split at ht
      · rename_i t x hi hop
        split at ht
        · injection ht with ht; subst ht; exact aop1_sound hT hO hG hev h0 ha1 hf1 hin1
        · rename_i l hl
          split at ht
          · rename_i id n hv hn hu
            split at ht
            · rename_i ty c hb
              injection ht with ht
              subst ht
              have h1 := aop1_sound hT hO hG hev h0 ha1.1 (fun id h1 h2 => by rw [hn] at h2; simp at h2; omega) (fun _ => ⟨fun b hb => (by rw [hn] at hb; cases hb), fun x hx => (by rw [hu] at hx; cases hx)⟩)
              have hin2 := (hin1 (by rw [hop]; rfl)).2 _ (List.mem_singleton.2 rfl) _ rfl
              exact sn_mono h1 fun v w' ρ' hF => fits_trunc hF hn hu hb ha1.2 hin2
            · cases ht
          · cases ht
      · injection ht with ht; subst ht; exact aop1_sound hT hO hG hev h0 ha1 hf1 hin1
    split at hr
    · cases hr
    · rename_i r1 h1
      split at hr
      · simp only [Option.some.injEq] at hr
        subst hr
        exact hS _ h1 ha hf hin
      · rename_i s hs
        simp only [Option.some.injEq] at hr
        subst hr
        have := hS _ h1 ha.1 hf hin
        unfold Sn gives at *
        have key : ∀ v w', (∃ ρ', Fits ρ D N M G base r1 w ρ' v w') → ∃ ρ', Fits ρ D N M G base { r1 with val := s, asm := r1.asm.and (.say (∀ ρ : Nat → Loc, r1.val.conc ρ = s.conc ρ)) } w ρ' v w' := by
          rintro v w' ⟨ρ', hF⟩
          exact ⟨ρ', hF.agree, by rw [hF.val]; exact ha.2 ρ', hF.hr, hF.kept, hF.fresh⟩
        generalize (execOp a.eval o).run P w = q at *
        cases q with
        | ok n w1 =>
          cases n with
          | value v => exact key v w1 this
          | skip => exact key undef w1 this
          | enter f args => exact Calls.mono this fun e w2 ⟨v, he, hF⟩ => ⟨v, he, key v w2 hF⟩
          | _ => exact this.elim
        | halt x w1 => exact this.elim

/-- What an operation comes to, in whatever world is known so far. -/
theorem opRes_sound (hT : TOK P T) (hO : OOK P O) (h : Rel ρ D N M w0 gl get G a w) {hi : Hint} {base : Nat} {f : Nat → Bool} (hfD : ∀ id, f id = true → D id) {r : Res} (hr : opRes T O ops get gl G hi base f o = some r) (ha : r.asm.holds) (hf : ∀ id, base ≤ id → id < base + r.new.length → ¬ D id) :
    (Region.wanted o (yielded ops a.tmps) = true ∧ Sn P o a w ρ D N M G base r ∧ r.val.In (Dn D base r.new.length)) ∨ (Region.wanted o (yielded ops a.tmps) = false ∧ r = { val := ofV undef }) := by
  unfold opRes at hr
  split at hr
  · rename_i hw
    split at hr
    · rename_i r1 h1
      split at hr
      · rename_i hb
        simp only [Option.some.injEq] at hr
        subst hr
        refine .inl ⟨want_yes h hw, aop_sound hT hO h.hr h.ev h1 ha hf ?_, ?_⟩
        · intro hc
          unfold resB at hb
          rw [hc, Bool.false_or, Bool.and_eq_true, Bool.and_eq_true] at hb
          refine ⟨fun b hbm => segsB_in hfD (List.all_eq_true.1 hb.2.1 b hbm), fun x hx b hxb => ?_⟩
          have := List.all_eq_true.1 hb.2.2 x hx
          rw [hxb] at this
          exact segsB_in hfD this
        · unfold resB at hb
          rw [Bool.and_eq_true] at hb
          refine svB_in (fun id hid => ?_) hb.1
          simp only [Bool.or_eq_true, Bool.and_eq_true] at hid
          rcases hid with hid | ⟨h1, h2⟩
          · exact .inl (hfD id hid)
          · exact .inr ⟨Nat.le_of_ble_eq_true h1, Nat.lt_of_succ_le (Nat.le_of_ble_eq_true h2)⟩
      · cases hr
    · cases hr
  · rename_i hw
    simp only [Option.some.injEq] at hr
    exact .inr ⟨want_no h hw, hr.symm⟩
  · cases hr
end
end Go.Proofs.YtpefomdegbmecaaDoor.Am
/- The abstract machine: a region in the order of the text, operation by operation. Conditions: none. -/
namespace Go.Proofs.YtpefomdegbmecaaDoor.Am
set_option linter.unusedVariables false
set_option linter.unusedSimpArgs false
open Go Go.RowKit
open Rg (gives)

def dropH (id : Nat) : List (Nat × Blk) → List (Nat × Blk)
  | [] => []
  | (k, b) :: l => match Nat.beq k id with
    | true => dropH id l
    | false => (k, b) :: dropH id l
def putH (hp : List (Nat × Blk)) (id : Nat) : Option Blk → List (Nat × Blk)
  | none => dropH id hp
  | some b => (id, b) :: dropH id hp
def updH (hp : List (Nat × Blk)) : List (Nat × Option Blk) → List (Nat × Blk)
  | [] => hp
  | (id, b) :: l => putH (updH hp l) id b
def newH (hp : List (Nat × Blk)) (base : Nat) : List Blk → List (Nat × Blk)
  | [] => hp
  | b :: l => (base, b) :: newH hp (base + 1) l
theorem look_cons {α : Type} (k : Nat) (x : α) (l : List (Nat × α)) (n : Nat) : look ((k, x) :: l) n = if k = n then some x else look l n := by
  show (match Nat.beq k n with | true => some x | false => look l n) = _
  cases hq : Nat.beq k n with
  | true => rw [if_pos (Nat.eq_of_beq_eq_true hq)]
  | false => rw [if_neg fun e => by rw [e, Nat.beq_refl] at hq; cases hq]
theorem look_dropH (id : Nat) : ∀ (hp : List (Nat × Blk)) (i : Nat), look (dropH id hp) i = if id = i then none else look hp i
  | [], i => by simp [dropH, look]
  | (k, b) :: l, i => by
    rw [look_cons]
    unfold dropH
    split
    · rename_i hk
      have := Nat.eq_of_beq_eq_true hk
      subst this
      rw [look_dropH k l i]
      by_cases h : k = i
      · rw [if_pos h, if_pos h]
      · rw [if_neg h, if_neg h, if_neg h]
    · rename_i hk
      have hne : k ≠ id := fun e => by rw [e, Nat.beq_refl] at hk; cases hk
      rw [look_cons, look_dropH id l i]
      by_cases h : k = i
      · subst h
        rw [if_pos rfl, if_neg (fun e => hne e.symm), if_pos rfl]
      · rw [if_neg h, if_neg h]
theorem look_putH (hp : List (Nat × Blk)) (id : Nat) (b : Option Blk) (i : Nat) : look (putH hp id b) i = if id = i then b else look hp i := by
  cases b with
  | none => exact look_dropH id hp i
  | some b =>
    simp only [putH]
    rw [look_cons, look_dropH]
    by_cases h : id = i
    · rw [if_pos h, if_pos h]
    · rw [if_neg h, if_neg h, if_neg h]
theorem look_updH (hp : List (Nat × Blk)) : ∀ (u : List (Nat × Option Blk)) (i : Nat), look (updH hp u) i = (look u i).getD (look hp i)
  | [], i => rfl
  | (id, b) :: l, i => by
    simp only [updH]
    rw [look_putH, look_cons, look_updH hp l i]
    by_cases h : id = i
    · rw [if_pos h, if_pos h]; rfl
    · rw [if_neg h, if_neg h]
theorem look_newH (hp : List (Nat × Blk)) : ∀ (l : List Blk) (base i : Nat), look (newH hp base l) i = if base ≤ i ∧ i < base + l.length then l[i - base]? else look hp i
  | [], base, i => by
    simp only [newH, List.length_nil]
    by_cases h : base ≤ i ∧ i < base + 0
    · omega
    · rw [if_neg h]
  | b :: l, base, i => by
    simp only [newH]
    rw [look_cons, look_newH hp l (base + 1) i, List.length_cons]
    by_cases h0 : base = i
    · subst h0
      rw [if_pos rfl, if_pos (by omega)]
      simp
    · rw [if_neg h0]
      by_cases h : base + 1 ≤ i ∧ i < base + 1 + l.length
      · rw [if_pos h, if_pos (by omega)]
        rw [show i - base = (i - (base + 1)) + 1 by omega, List.getElem?_cons_succ]
      · rw [if_neg h, if_neg (by omega)]
/-- The blocks behind a step. -/
def stepH (hp : List (Nat × Blk)) (base : Nat) (r : Res) : List (Nat × Blk) := updH (newH hp base r.new) r.upd
theorem look_stepH (hp : List (Nat × Blk)) (base : Nat) (r : Res) : look (stepH hp base r) = appl (look hp) base r := by
  funext i
  unfold stepH appl
  rw [look_updH, look_newH]
  cases look r.upd i <;> rfl
def St.step (s : St) (dst : Option Tmp) (r : Res) : St :=
  { tm := match dst with
      | some t => setNth (some r.val) s.tm t
      | none => s.tm
    hp := stepH s.hp s.nx r, nx := s.nx + r.new.length, gl := s.gl }
def seqOps (T : List (Nat × Ty)) (O : List (Nat × Ent)) (ops : Array Oper) (H : Nat → Hint) : List Oper → Nat → St → Option (St × Asm)
  | [], _, s => some (s, .tt)
  | o :: l, i, s => match opRes T O ops s.get s.gl (look s.hp) (H i) s.nx (fun id => Nat.blt id s.nx) o with
    | some r => match seqOps T O ops H l (i + 1) (s.step o.dst r) with
      | some (s', p) => some (s', r.asm.and p)
      | none => none
    | none => none

structure RelS [GT] (ρ : Nat → Loc) (N : Nat) (M : List Nat) (w0 : Wd) (s : St) (a : Act) (w : World) : Prop where
  rel : Rel ρ (· < s.nx) N M w0 s.gl s.get (look s.hp) a w
  size : a.tmps.size = s.tm.length

section
variable {P : Program} {T : List (Nat × Ty)} {O : List (Nat × Ent)} {N : Nat} {M : List Nat} {w0 : Wd} {ops : Array Oper}
variable [GT]

omit [GT] in
theorem eval_put_ne {a : Act} {t u : Nat} {v : Value} (h : t ≠ u) : (a.put (some t) v).eval (.tmp u) = a.eval (.tmp u) :=
  Act.eval_put fun d hd he => by injection hd with hd; injection he with he; exact h (hd.trans he.symm)
omit [GT] in
theorem get_step {s : St} {dst : Option Tmp} {r : Res} {t : Nat} {sv : SV} (h : (s.step dst r).get t = some sv) : (dst = some t ∧ t < s.tm.length ∧ sv = r.val) ∨ (dst ≠ some t ∧ s.get t = some sv) := by
  unfold St.step St.get at h
  cases dst with
  | none => exact .inr ⟨by simp, h⟩
  | some d =>
    simp only [nth_set] at h
    by_cases hd : d = t
    · subst hd
      rw [if_pos rfl] at h
      by_cases hl : d < s.tm.length
      · rw [if_pos hl] at h
        simp only [Option.some.injEq] at h
        exact .inl ⟨rfl, hl, h.symm⟩
      · rw [if_neg hl] at h; cases h
    · rw [if_neg hd] at h
      exact .inr ⟨fun e => hd (by injection e), h⟩
theorem RelS.step {ρ ρ' : Nat → Loc} {s : St} {a : Act} {w w' : World} {dst : Option Tmp} {r : Res} {v : Value} (h : RelS ρ N M w0 s a w) (hF : Fits ρ (· < s.nx) N M (look s.hp) s.nx r w ρ' v w') (hv : r.val.In (Dn (· < s.nx) s.nx r.new.length)) :
    RelS ρ' N M w0 (s.step dst r) (a.put dst v) w' := by
  have hD : ∀ id, Dn (· < s.nx) s.nx r.new.length id → id < s.nx + r.new.length := fun id h => by
    rcases h with h | h
    · have : id < s.nx := h; omega
    · exact h.2
  refine ⟨⟨fun t sv ht => ?_, fun g id hg => ?_, ?_, h.rel.kept.trans hF.kept, ?_⟩, ?_⟩
  · rcases get_step ht with ⟨rfl, hl, rfl⟩ | ⟨hne, ht⟩
    · rw [Rg.eval_put_self (by rw [h.size]; exact hl)]
      exact ⟨hF.val, hv.mono hD⟩
    · obtain ⟨h1, h2⟩ := h.rel.slots t sv ht
      refine ⟨?_, h2.mono fun id hid => Nat.lt_of_lt_of_le hid (Nat.le_add_right _ _)⟩
      rw [SV.conc_congr hF.agree h2]
      cases dst with
      | none => exact h1
      | some d => rw [eval_put_ne fun e => hne (by rw [e])]; exact h1
  · obtain ⟨h1, h2⟩ := h.rel.globals g id hg
    exact ⟨by rw [hF.agree id h2]; exact h1, Nat.lt_of_lt_of_le h2 (Nat.le_add_right _ _)⟩
  · show HR ρ' _ N M (look (stepH s.hp s.nx r)) w'
    rw [look_stepH]
    exact hF.hr.monoD hD
  · cases dst <;> exact h.rel.defers
  · cases dst with
    | none => exact h.size
    | some d => simp [Act.put, St.step, setNth_len, h.size]
theorem RelS.skip {ρ : Nat → Loc} {s : St} {a : Act} {w : World} {dst : Option Tmp} (h : RelS ρ N M w0 s a w) : RelS ρ N M w0 (s.step dst { val := ofV undef }) (a.put dst undef) w :=
  h.step (fits_same h.rel.hr rfl rfl rfl) (fun s hs => by simp [AV.segs] at hs; subst hs; trivial)

theorem seq_sound (hT : TOK P T) (hO : OOK P O) {H : Nat → Hint} {Q : Exit → Act → World → Prop} : ∀ (l : List Oper) (i : Nat) (s s' : St) (p : Asm) (ρ : Nat → Loc) (a : Act) (w : World), seqOps T O ops H l i s = some (s', p) → p.holds → RelS ρ N M w0 s a w →
    (∀ ρ' a' w', RelS ρ' N M w0 s' a' w' → Q .normal a' w') → wpList P ops Q l a w
  | [], i, s, s', p, ρ, a, w, h, hp, hR, hQ => by
    simp only [seqOps, Option.some.injEq, Prod.mk.injEq] at h
    obtain ⟨rfl, _⟩ := h
    exact wpList_nil (hQ ρ a w hR)
  | o :: l, i, s, s', p, ρ, a, w, h, hp, hR, hQ => by
    unfold seqOps at h
    split at h
    · rename_i r hr
      split at h
      · rename_i s1 p1 h1
        simp only [Option.some.injEq, Prod.mk.injEq] at h
        obtain ⟨rfl, rfl⟩ := h
        have hres := opRes_sound hT hO hR.rel (fun id hid => Nat.lt_of_succ_le (Nat.le_of_ble_eq_true hid)) hr hp.1 (fun id h1 _ => Nat.not_lt.2 h1)
        unfold wpList
        rcases hres with ⟨hw, hS, hin⟩ | ⟨hw, rfl⟩
        · rw [if_pos hw]
          refine .inl (Rg.wp_of_gives hS fun v w' ⟨ρ', hF⟩ => ?_)
          exact seq_sound hT hO l (i + 1) _ _ _ ρ' _ _ h1 hp.2 (hR.step hF hin) hQ
        · rw [if_neg (by rw [hw]; simp)]
          exact seq_sound hT hO l (i + 1) _ _ _ ρ _ _ h1 hp.2 hR.skip hQ
      · cases h
    · cases h
end
end Go.Proofs.YtpefomdegbmecaaDoor.Am
/- The abstract machine: a region that draws its order. Conditions: none. -/
namespace Go.Proofs.YtpefomdegbmecaaDoor.Am
set_option linter.unusedVariables false
set_option linter.unusedSimpArgs false
open Go Go.RowKit
open Rg (gives at_ writerOf dstOf)

/-- The masks of what an operation waits for. -/
def ancL : List Oper → List Nat → List Nat
  | [], A => A
  | o :: l, A => ancL l (A ++ [Rg.anc1 (at_ A) o])
def updO : Op → Bool
  | .store _ _ _ => true
  | .call c => match c.callee with
    | .builtin .append => true
    | .builtin .copy => true
    | _ => false
  | _ => false
def pureO : Op → Bool
  | .move _ => true
  | .assign _ => true
  | .extract _ _ => true
  | _ => false
/-- Does a mask meet a tail? -/
def meetsT (K : List Nat) (m : Nat) : Bool := (List.range K.length).any fun j => Nat.beq (at_ K j) 2 && m.testBit j
def appO : Op → Bool
  | .call c => match c.callee with
    | .builtin .append => true
    | _ => false
  | _ => false
/-- Is it a row that the region itself has made? -/
def freshA (ops : Array Oper) : Nat → Nat → Bool
  | 0, _ => false
  | f + 1, i => match ops[i]? with
    | some o => match o.op with
      | .buildSlice _ _ _ => true
      | .call c => match c.callee, c.args.toList with
        | .builtin .append, .tmp t :: _ => match writerOf ops t with
          | some d => Nat.blt d i && freshA ops f d
          | none => false
        | _, _ => false
      | _ => false
    | none => false
/-- A call that comes behind all that isn't plain, or ahead of it. -/
def lastCall (ops : Array Oper) (A : List Nat) (o : Oper) (i : Nat) : Bool :=
  (match o.op with
    | .call c => match c.callee with
      | .value _ => true
      | _ => false
    | _ => false) && (List.range ops.size).all fun j => Nat.beq j i || ((match ops[j]? with
    | some o' => pureO o'.op
    | none => true) || match Nat.blt j i with
      | true => (at_ A i).testBit j
      | false => (at_ A j).testBit i)
def kindL (bb : Bool) (ops : Array Oper) : List Oper → List Nat → Nat → List Nat → List Nat
  | [], _, _, K => K
  | o :: l, A, i, K => kindL bb ops l A (i + 1) (K ++ [match (updO o.op && !(appO o.op && freshA ops 20 i)) || meetsT K (at_ A i) || (bb && lastCall ops A o i) with
    | true => 2
    | false => match pureO o.op with
      | true => 0
      | false => 1])
def killsOf (r : Res) (id : Nat) : Bool := match r.upd with
  | [(j, none)] => Nat.beq j id
  | _ => false
def killed (n : Nat) (rs : List (Nat × Res)) (L : Nat → Bool) (id : Nat) : Bool := (List.range n).any fun k => L k && (match look rs k with
  | some r => killsOf r id
  | none => false)
def getI (ops : Array Oper) (A : List Nat) (rs : List (Nat × Res)) (get : Nat → Option SV) (i t : Nat) : Option SV :=
  match writerOf ops t with
  | some d => match (at_ A i).testBit d with
    | true => match look rs d with
      | some r => some r.val
      | none => none
    | false => match Nat.beq d i || (at_ A d).testBit i with
      | true => get t
      | false => none
  | none => get t
def heapI (n nx : Nat) (rs : List (Nat × Res)) (hp : Nat → Option Blk) (L : Nat → Bool) (id : Nat) : Option Blk :=
  match Nat.blt id nx with
  | true => hp id
  | false => match L ((id - nx) / 4) && !(killed n rs L id) with
    | true => match look rs ((id - nx) / 4) with
      | some r => r.new[(id - nx) % 4]?
      | none => none
    | false => none
def headOps (T : List (Nat × Ty)) (O : List (Nat × Ent)) (ops : Array Oper) (A : List Nat) (H : Nat → Hint) (s : St) : List Oper → Nat → List (Nat × Res) → Option (List (Nat × Res) × Asm)
  | [], _, rs => some (rs, .tt)
  | o :: l, i, rs =>
    match opRes T O ops (getI ops A rs s.get i) s.gl (heapI ops.size s.nx rs (look s.hp) (fun d => (at_ A i).testBit d)) (H i) (s.nx + 4 * i) (fun id => Nat.blt id s.nx || (at_ A i).testBit ((id - s.nx) / 4)) o with
    | some r => match Nat.ble r.new.length 4, r.upd with
      | true, [] => match headOps T O ops A H s l (i + 1) ((i, r) :: rs) with
        | some (rs', p) => some (rs', r.asm.and p)
        | none => none
      | true, [(id, none)] => match appO o.op && (Nat.ble s.nx id && (at_ A i).testBit ((id - s.nx) / 4)) with
        | true => match headOps T O ops A H s l (i + 1) ((i, r) :: rs) with
          | some (rs', p) => some (rs', r.asm.and p)
          | none => none
        | false => none
      | _, _ => none
    | none => none
def putOne (ops : Array Oper) (rs : List (Nat × Res)) (i : Nat) (s : St) : St :=
  match look rs i with
  | some r => { tm := (match dstOf ops i with
      | some t => setNth (some r.val) s.tm t
      | none => s.tm), hp := newH s.hp (s.nx + 4 * i) r.new, nx := s.nx, gl := s.gl }
  | none => s
def putAll (ops : Array Oper) (rs : List (Nat × Res)) : List Nat → St → St
  | [], s => s
  | i :: l, s => putAll ops rs l (putOne ops rs i s)
/-- Whatever sees a row that an append takes comes behind the append, or surely ahead of it. -/
def killB (A : List Nat) (nx m : Nat) (rs : List (Nat × Res)) : Bool := (List.range m).all fun k => match look rs k with
  | some r => match r.upd with
    | [(id, none)] => (List.range m).all fun i => Nat.beq i k || (!((at_ A i).testBit ((id - nx) / 4)) || ((at_ A i).testBit k || (at_ A k).testBit i))
    | _ => true
  | none => true
def killIds (rs : List (Nat × Res)) : List Nat → List Nat
  | [] => []
  | k :: l => match look rs k with
    | some r => match r.upd with
      | [(id, none)] => id :: killIds rs l
      | _ => killIds rs l
    | none => killIds rs l
def killH (hp : List (Nat × Blk)) : List Nat → List (Nat × Blk)
  | [] => hp
  | id :: l => dropH id (killH hp l)
def drawK (bb : Bool) (T : List (Nat × Ty)) (O : List (Nat × Ent)) (l : List Oper) (H : Nat → Hint) (s : St) : Option (St × Asm) :=
  let ops := l.toArray
  let A := ancL l []
  let K := kindL bb ops l A 0 []
  let m := (Rg.headL ops K).length
  match Rg.checkB ops A K && (List.range ops.size).all (fun i => !(Nat.beq (at_ K i) 0) || (match ops[i]? with | some o => pureO o.op | none => true)) && Rg.dstB ops s.tm.length && (Rg.tailL ops K == (List.range ops.size).drop m) with
  | true => match headOps T O ops A H s (l.take m) 0 [] with
    | some (rs, p) => match killB A s.nx m rs with
      | true =>
        let s1 := putAll ops rs (List.range m) s
        match seqOps T O ops H (l.drop m) m { tm := s1.tm, hp := killH s1.hp (killIds rs (List.range m)), nx := s.nx + 4 * m, gl := s1.gl } with
        | some (s', q) => some (s', p.and q)
        | none => none
      | false => none
    | none => none
  | false => none
def drawOps (T : List (Nat × Ty)) (O : List (Nat × Ent)) (l : List Oper) (H : Nat → Hint) (s : St) : Option (St × Asm) :=
  match drawK false T O l H s with
  | some r => some r
  | none => drawK true T O l H s

/-! ### An append sees no more than it looks at -/
theorem oldRow_mono {G G' : Nat → Option Blk} (hG : ∀ id b, G id = some b → G' id = some b) {e : TypeId} {sym : Bool} {x : SV} {q : Option Nat × List Seg × Asm} (h : oldRow e G sym x = some q) : oldRow e G' sym x = some q := by
  unfold oldRow at h ⊢
  split at h
  · exact h
  · rename_i id len
    cases hb : G id with
    | none => rw [hb] at h; cases h
    | some b =>
      rw [hb] at h
      simp only [hG id b hb]
      exact h
  · rename_i id len cap
    cases hb : G id with
    | none => rw [hb] at h; cases h
    | some b =>
      rw [hb] at h
      simp only [hG id b hb]
      exact h
  · cases h
theorem rowOf_mono {G G' : Nat → Option Blk} (hG : ∀ id b, G id = some b → G' id = some b) {sym : Bool} {x : SV} {q : Nat × Nat × Nat × Blk × Asm} (h : rowOf sym G x = some q) : rowOf sym G' x = some q := by
  unfold rowOf at h ⊢
  split at h
  · rename_i id off len cap
    cases hb : G id with
    | none => rw [hb] at h; cases h
    | some b =>
      rw [hb] at h
      simp only [hG id b hb]
      exact h
  · rename_i id off len ad
    cases hb : G id with
    | none => rw [hb] at h; cases h
    | some b =>
      rw [hb] at h
      simp only [hG id b hb]
      exact h
  · cases h
theorem append_mono {T : List (Nat × Ty)} {G G' : Nat → Option Blk} (hG : ∀ id b, G id = some b → G' id = some b) {h : Hint} {base : Nat} {ts : List TypeId} {args : List SV} {r : Res} (hr : builtinOf T G h base .append ts args = some r) : builtinOf T G' h base .append ts args = some r := by
  unfold builtinOf at hr ⊢
  simp only at hr ⊢
  split at hr
  · rename_i x y t t'
    split at hr
    · rename_i ty hb ht
      split at hr
      · rename_i e hu
        split at hr
        · cases hr
        · rename_i te he
          split at hr
          · cases hr
          · rename_i hs
            split at hr
            · rename_i hn
              split at hr
              · exact hr
              · rename_i hx
                split at hr
                · rename_i p1 ho
                  simp only [oldRow_mono hG ho]
                  exact hr
                · cases hr
            · rename_i hn
              split at hr
              · rename_i ho hw
                simp only [oldRow_mono hG ho, rowOf_mono hG hw]
                exact hr
              · cases hr
      · cases hr
    · rename_i ty hb ht
      split at hr
      · rename_i e hu
        split at hr
        · rename_i te tu he hu'
          split at hr
          · rename_i hz
            split at hr
            · rename_i hy
              exact hr
            · rename_i hy
              split at hr
              · rename_i ho
                simp only [oldRow_mono hG ho]
                exact hr
              · cases hr
            · cases hr
          · cases hr
        · cases hr
      · cases hr
    · cases hr
  · cases hr
theorem opRes_mono {T : List (Nat × Ty)} {O : List (Nat × Ent)} {ops : Array Oper} {get : Nat → Option SV} {gl : List (Nat × Nat)} {G G' : Nat → Option Blk} {hi : Hint} {base : Nat} {f : Nat → Bool} {o : Oper} (hop : appO o.op = true) (hG : ∀ id b, G id = some b → G' id = some b) {r : Res} (h : opRes T O ops get gl G hi base f o = some r) : opRes T O ops get gl G' hi base f o = some r := by
  have key : ∀ r, aop T O G (evL get gl) hi base o.op = some r → aop T O G' (evL get gl) hi base o.op = some r := by
    intro r hr
    have k1 : ∀ r, aop1 T O G (evL get gl) hi base o.op = some r → aop1 T O G' (evL get gl) hi base o.op = some r := by
      intro r hr
      unfold appO at hop
      split at hop
      · rename_i c hc
        split at hop
        · rename_i hcal
          rw [hc] at hr ⊢
          unfold aop1 at hr ⊢
          simp only [hcal] at hr ⊢
          split at hr
          · rename_i l hl
            exact append_mono hG hr
          · cases hr
        · cases hop
      · cases hop
    unfold aop at hr ⊢
    cases h1 : aop1 T O G (evL get gl) hi base o.op with
    | none => rw [h1] at hr; cases hr
    | some r1 =>
      rw [h1] at hr
      rw [k1 _ h1]
      obtain ⟨c, hc⟩ : ∃ c, o.op = .call c := by
        unfold appO at hop
        split at hop
        · exact ⟨_, ‹_›⟩
        · cases hop
      rw [hc] at hr ⊢
      exact hr
  unfold opRes at h ⊢
  split at h
  · cases ha : aop T O G (evL get gl) hi base o.op with
    | none => rw [ha] at h; cases h
    | some r1 =>
      rw [ha] at h
      rw [key _ ha]
      exact h
  · exact h
  · cases h

end Go.Proofs.YtpefomdegbmecaaDoor.Am
