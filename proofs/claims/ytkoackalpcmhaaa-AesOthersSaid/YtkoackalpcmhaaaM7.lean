/- The abstract machine: operation by operation: slices made, loads, stores, arithmetic. Conditions: none. -/
import Derived.Test.YtkoackalpcmhaaaM6
namespace Go.Proofs.Ytkoackalpcmhaaa.Am
set_option linter.unusedVariables false
set_option linter.unusedSimpArgs false
open Go Go.RowKit
open Rg (gives)

section
variable {P : Program} {T : List (Nat × Ty)} {ρ : Nat → Loc} {D : Nat → Prop} {N : Nat} {M : List Nat} {G : Nat → Option Blk} {base : Nat} {w : World} {o : Oper} {a : Act} {ev : Operand → Option SV}

theorem times_vals (ρ : Nat → Loc) (l : List Seg) : ∀ (n : Nat), segsVals ρ (times n l) = (List.replicate n (segsVals ρ l)).flatten
  | 0 => rfl
  | n + 1 => by
    unfold times
    rw [segsVals_append, times_vals ρ l n, List.replicate_succ, List.flatten_cons]
theorem flatten_at {α : Type} (l : List α) (n : Nat) : ∀ (i : Nat), i < n * l.length → ((List.replicate n l).flatten)[i]? = l[i % l.length]? := by
  induction n with
  | zero => intro i h; simp at h
  | succ n ih =>
    intro i h
    rw [List.replicate_succ, List.flatten_cons]
    by_cases hi : i < l.length
    · rw [List.getElem?_append_left hi, Nat.mod_eq_of_lt hi]
    · rw [List.getElem?_append_right (by omega), ih _ (by rw [Nat.add_mul] at h; omega)]
      congr 1
      exact (Nat.mod_eq_sub_mod (by omega)).symm
theorem range_zero (z : List Value) (n : Nat) : ((Array.range (n * z.length)).map (z.toArray[· % z.toArray.size]!)) = ((List.replicate n z).flatten).toArray := by
  apply Array.ext
  · simp
  · intro i h1 h2
    have hi : i < n * z.length := by simpa using h1
    have hz : 0 < z.length := by
      rcases Nat.eq_zero_or_pos z.length with h | h
      · rw [h] at hi; simp at hi
      · exact h
    have hm : i % z.length < z.length := Nat.mod_lt _ hz
    have e := flatten_at z n i hi
    simp at h2
    rw [List.getElem?_eq_getElem (by simpa using h2), List.getElem?_eq_getElem hm] at e
    simp only [Option.some.injEq] at e
    simp [e, hm]
theorem s_buildSlice (hT : TOK P T) (hG : HR ρ D N M G w) (hev : EvOK a ρ D ev) (hf : ¬ D base) {t : TypeId} {len : Nat} {parts : Array (Nat × Operand)} (hop : o.op = .buildSlice t len parts) {ty : Ty} (ht : look T t = some ty) {e : TypeId} (hu : ty.u = .sl e) {te : Ty} (he : look T e = some te) (hlen : len * te.size ≤ 16777216) {l : List Seg} (hl : fillIn (place T (.arr len e)) ev (times len te.zero.segs) parts.toList = some l) (hin : segsIn D l) :
    Sn P o a w ρ D N M G base { val := .av (.one (.s base 0 len len)), new := [⟨0, e, l⟩] } := by
  have hty := hT t ty ht
  have hte := hT e te he
  have hun : P.underlying t = some (.slice e) := by have := hty.und; rw [hu] at this; exact this
  refine gives_of (s := Instr.buildSlice t len (parts.map fun x => (x.1, a.eval x.2))) (v := .slice (some ⟨w.heap.size, 0, none⟩) len len) (w' := w.alloc (.cells (segsVals ρ l).toArray e)) (by unfold execOp; rw [hop]; rfl) ?_ ⟨_, fits_new hG hf hin rfl rfl ?_⟩
  · have hf := fillIn_spec hev (pl' := fun i => some (i * te.size, te.size)) (fun i x hx => place_arr hT he hx) _ _ _ hl
    have hsz := hte.run_size (w := w)
    have hzr := hte.run_zero ρ (w := w)
    have hc := AV.cells ρ hte.zok
    have hw : (segsVals ρ te.zero.segs).length = te.size := by rw [segsVals_len]; exact hte.zsz
    have hrz := range_zero (segsVals ρ te.zero.segs) len
    rw [hw, ← times_vals] at hrz
    have hbig : ¬ len * te.size > 2 ^ 24 := by omega
    by_cases h0 : len * te.size = 0
    · have he0 : segsVals ρ (times len te.zero.segs) = [] := by
        rw [← List.length_eq_zero_iff, segsVals_len]
        have : ∀ n, widths (times n te.zero.segs) = n * te.size := by
          intro n
          rw [← segsVals_len ρ, times_vals, List.length_flatten]
          simp [hw]
        rw [this]; exact h0
      rw [he0] at hf
      have hr0 : ∀ f : Nat → Value, (Array.range 0).map f = #[] := fun _ => by simp
      have hf' : Instr.fill (fun i => some (i * te.size, te.size)) #[] (List.map (fun x => (x.1, a.eval x.2)) parts.toList) = some (segsVals ρ l).toArray := hf
      simp only [Instr.buildSlice, Sem.run_bind, run_underlying hun, Result.andThen_ok, hsz, if_neg hbig, h0, if_pos rfl, Sem.run_pure, hr0, parts_list]
      rw [hf']
      simp [newRow, newObj]
      rfl
    · simp only [Instr.buildSlice, Sem.run_bind, run_underlying hun, Result.andThen_ok, hsz, if_neg hbig, if_neg h0, hzr, Sem.run_pure, hc, hrz, parts_list, hf]
      simp [newRow, newObj]
      rfl
  · simp [SV.conc, AV.conc, Seg.conc, up_self, Addr.add_lit]

theorem conc_p (ρ : Nat → Loc) (id off : Nat) : SV.conc ρ (.av (.one (.p id off))) = .pointer ((ρ id).a.map (·.add off)) := rfl
theorem conc_av (ρ : Nat → Loc) (b : AV) : SV.conc ρ (.av b) = b.conc ρ := rfl
theorem cells_at {id off : Nat} {b : Blk} {l : List Value} (hG : HR ρ D N M G w) (hb : G id = some b) (hl : ∀ j u, l[j]? = some u → (segsVals ρ b.c)[off + j]? = some u) (hn : 0 < l.length) : ∃ x : Addr, (ρ id).a = some x ∧ ∀ j u, l[j]? = some u → w.cell? ((x.add off).add j) = some u := by
  have hbk := (hG.blk id b hb).2.2
  obtain ⟨x, hx, _⟩ := hbk.cells (hl 0 l[0] (by simp [hn]))
  refine ⟨x, hx, fun j u hj => ?_⟩
  obtain ⟨y, hy, hc⟩ := hbk.cells (hl j u hj)
  rw [hx] at hy
  injection hy with hy
  subst hy
  rw [← hc]
  congr 1
  by_cases h1 : off = 0
  · subst h1; simp [Addr.add]
  · by_cases h2 : j = 0
    · subst h2; simp [Addr.add, h1]
    · simp [Addr.add, h1, h2, Nat.add_assoc]

theorem s_load_agg (hT : TOK P T) (hG : HR ρ D N M G w) (hev : EvOK a ρ D ev) {t : TypeId} {x : Operand} (hop : o.op = .load t x) {ty : Ty} (ht : look T t = some ty) (hagg : ty.u.agg = true) {id off : Nat} (hx : ev x = some (.av (.one (.p id off)))) {b : Blk} (hb : G id = some b) {l : List Seg} (hl : getSegs b.c off ty.size = some l) (hpos : 0 < ty.size) {q : Asm} :
    Sn P o a w ρ D N M G base { val := .av (mkAgg l), asm := q } := by
  have hty := hT t ty ht
  obtain ⟨hv, _⟩ := hev x _ hx
  obtain ⟨_, hlen⟩ := getSegs_spec ρ hl
  obtain ⟨y, hy, hc⟩ := cells_at (l := segsVals ρ l) hG hb (getSegs_at ρ hl) (by omega)
  refine sn_same hG (s := Instr.loadAt t (a.eval x)) (by unfold execOp; rw [hop]; rfl) ?_ rfl rfl
  rw [hv, conc_p, hy, conc_av, mkAgg_conc]
  simp only [Option.map_some]
  have hlc := run_loadCells_list (P := P) w (y.add off) (segsVals ρ l) hc
  rw [hlen] at hlc
  simp only [Instr.loadAt, Instr.sureAddr, loadVar, Sem.run_bind, Sem.run_pure, Result.andThen_ok, hty.agg, hagg, if_true, hty.run_size, hlc]
theorem s_load_one (hT : TOK P T) (hG : HR ρ D N M G w) (hev : EvOK a ρ D ev) {t : TypeId} {x : Operand} (hop : o.op = .load t x) {ty : Ty} (ht : look T t = some ty) (hagg : ty.u.agg = false) {id off : Nat} (hx : ev x = some (.av (.one (.p id off)))) {b : Blk} (hb : G id = some b) {s : SV} (hl : (segsVals ρ b.c)[off]? = some (s.conc ρ)) {p : Asm} :
    Sn P o a w ρ D N M G base { val := s, asm := p } := by
  have hty := hT t ty ht
  obtain ⟨hv, _⟩ := hev x _ hx
  obtain ⟨y, hy, hc⟩ := cells_at (l := [s.conc ρ]) (off := off) hG hb (fun j u hj => by
    cases j with
    | zero => simp only [List.getElem?_cons_zero, Option.some.injEq] at hj; subst hj; exact hl
    | succ j => simp at hj) (by simp)
  refine sn_same hG (s := Instr.loadAt t (a.eval x)) (by unfold execOp; rw [hop]; rfl) ?_ rfl rfl
  rw [hv, conc_p, hy]
  simp only [Option.map_some]
  have hc0 := hc 0 _ rfl
  have : (y.add off).add 0 = y.add off := by simp [Addr.add]
  rw [this] at hc0
  simp [Instr.loadAt, Instr.sureAddr, loadVar, hty.agg, hagg, hc0]
theorem storeCells_own {g off : Nat} {cur news : List Value} {t : TypeId} (hg : w.heap[g]? = some (.cells cur.toArray t (0, 0))) (hl : off + news.length ≤ cur.length) (h1 : ∀ v ∈ news, v.oneCell' = true) :
    (storeCells ⟨g, off, none⟩ news 0).run P w = .ok () (w.setRow g (cur.take off ++ news ++ cur.drop (off + news.length)).toArray) := by
  have := run_storeCells_at P g off t news 0 cur.toArray w hg (by simpa using hl) h1
  simpa using this
theorem s_store (hT : TOK P T) (hG : HR ρ D N M G w) (hev : EvOK a ρ D ev) {t : TypeId} {x y : Operand} (hop : o.op = .store t x y) {ty : Ty} (ht : look T t = some ty) {id off : Nat} (hx : ev x = some (.av (.one (.p id off)))) {b : Blk} (hb : G id = some b) (hk : b.k = 0) {v : AV} (hy : ev y = some (.av v)) (hok : segsOk v.segs = true) (hw : widths v.segs = ty.size)
    {c : List Seg} (hc : segsVals ρ c = (segsVals ρ b.c).take off ++ segsVals ρ v.segs ++ (segsVals ρ b.c).drop (off + (segsVals ρ v.segs).length)) (hle : off + (segsVals ρ v.segs).length ≤ (segsVals ρ b.c).length) (hin : segsIn D c) {p : Asm} :
    Sn P o a w ρ D N M G base { val := ofV undef, upd := [(id, some ⟨0, b.ty, c⟩)], asm := p } := by
  have hty := hT t ty ht
  obtain ⟨hvx, _⟩ := hev x _ hx
  obtain ⟨hvy, _⟩ := hev y _ hy
  have hbk := (hG.blk id b hb).2.2
  obtain ⟨k, bty, bc⟩ := b
  simp only at hk
  subst hk
  obtain ⟨g, ha, hg⟩ := hbk
  have hst := storeCells_own (P := P) (off := off) (news := segsVals ρ v.segs) hg hle (segsVals_cell ρ hok)
  rw [← hc] at hst
  have hcells := AV.cells ρ hok
  have hsz : (v.conc ρ).cells.size = ty.size := by rw [hcells, List.size_toArray, segsVals_len, hw]
  have hrun : (Instr.storeAt t (a.eval x) (a.eval y)).run P w = .ok () (w.setRow g (segsVals ρ c).toArray) := by
    rw [hvx, hvy, conc_p, conc_av, ha]
    simp only [Option.map_some, Addr.add_lit, Nat.zero_add]
    simp only [Instr.storeAt, Instr.sureAddr, storeVar, Sem.run_bind, Sem.run_pure, Result.andThen_ok, hty.run_size, hcells]
    rw [if_neg (by rw [List.size_toArray, segsVals_len, hw]; simp)]
    exact hst
  have he : execOp a.eval o = (Instr.storeAt t (a.eval x) (a.eval y)) >>= fun _ => .pure .skip := by unfold execOp; rw [hop]; rfl
  have hr : (execOp a.eval o).run P w = .ok .skip (w.setRow g (segsVals ρ c).toArray) := by
    rw [he, Sem.run_bind, hrun]; rfl
  unfold Sn gives
  rw [hr]
  exact ⟨ρ, fits_put hG hb rfl hin rfl rfl rfl ha hg⟩

theorem s_extract (hG : HR ρ D N M G w) (hev : EvOK a ρ D ev) {x : Operand} {i : Nat} (hop : o.op = .extract x i) {l : List AV} (hx : ev x = some (.tup l)) {b : AV} (hb : l[i]? = some b) : Sn P o a w ρ D N M G base { val := .av b } := by
  refine sn_same hG (s := Instr.extract (a.eval x) i) (by unfold execOp; rw [hop]; rfl) ?_ rfl rfl
  rw [(hev x _ hx).1]
  have : ((l.map (AV.conc ρ)).toArray)[i]? = some (b.conc ρ) := by simp [hb]
  simp only [SV.conc, Instr.extract, this]
  rfl
theorem s_not (hG : HR ρ D N M G w) (hev : EvOK a ρ D ev) {t : TypeId} {x : Operand} (hop : o.op = .unOp .not t x) {b : Bool} (hx : ev x = some (ofV (.bool b))) : Sn P o a w ρ D N M G base { val := ofV (.bool !b) } := by
  refine sn_same hG (s := Op.unary .not (a.eval x)) (by unfold execOp; rw [hop]; rfl) ?_ rfl rfl
  rw [(hev x _ hx).1]
  rfl
theorem s_nilCheck (hG : HR ρ D N M G w) (hev : EvOK a ρ D ev) {x : Operand} (hop : o.op = .nilCheck x) {id off : Nat} (hx : ev x = some (.av (.one (.p id off)))) {b : Blk} (hb : G id = some b) (hk : hasA b = true) : Sn P o a w ρ D N M G base { val := .av (.one (.p id off)) } := by
  obtain ⟨y, ha⟩ := (hG.blk id b hb).2.2.hasA hk
  refine Rg.gives_value (v := SV.conc ρ (.av (.one (.p id off)))) (w' := w) ?_ ⟨ρ, fits_same hG rfl rfl rfl⟩
  unfold execOp
  rw [hop]
  simp only
  rw [(hev x _ hx).1, conc_p, ha]
  rfl
theorem eqGuard_int {op : BinOp} {t : TypeId} {x y : Operand} {k : IntKind} {n : Int} {v : Value} : (eqGuard op t x y (.int k n) v).run P w = .ok () w := by cases op <;> cases v <;> rfl
theorem eqGuard_str {op : BinOp} {t : TypeId} {x y : Operand} {s : ByteArray} {v : Value} : (eqGuard op t x y (.string s) v).run P w = .ok () w := by cases op <;> cases v <;> rfl
theorem eqGuard_bool {op : BinOp} {t : TypeId} {x y : Operand} {s : Bool} {v : Value} : (eqGuard op t x y (.bool s) v).run P w = .ok () w := by cases op <;> cases v <;> rfl
theorem eqGuard_ptr {op : BinOp} {t : TypeId} {x y : Operand} {s : Option Addr} {v : Value} : (eqGuard op t x y (.pointer s) v).run P w = .ok () w := by cases op <;> cases v <;> rfl
theorem bin_exec {op : BinOp} {t t' : TypeId} {x y : Operand} (hop : o.op = .binOp op t x y t') : execOp a.eval o = (eqGuard op t x y (a.eval x) (a.eval y) >>= fun _ => Go.binOp op t (a.eval x) (a.eval y)).bind fun z => .pure (.value z) := by
  unfold execOp; rw [hop]; rfl
theorem bin_str {op : BinOp} {t : TypeId} {u v : ByteArray} {sym : Bool} {r : Value} {p : Asm} (h : binVal sym op (.string u) (.string v) = some (r, p)) : (Go.binOp op t (.string u) (.string v)).run P w = .ok r w := by
  cases op <;> simp only [binVal] at h <;> first | (cases h; done) | (simp only [Option.some.injEq, Prod.mk.injEq] at h; obtain ⟨rfl, _⟩ := h; unfold Go.binOp; simp [Op.stringOp]; done)
theorem bin_int {op : BinOp} {t : TypeId} {k j : IntKind} {u v : Int} {sym : Bool} {r : Value} {p : Asm} (h : binVal sym op (.int k u) (.int j v) = some (r, p)) (hp : p.holds) : (Go.binOp op t (.int k u) (.int j v)).run P w = .ok r w := by
  cases op
  case shl =>
    simp only [binVal] at h
    cases sym
    · simp only at h
      split at h
      · rename_i n
        simp only [Option.some.injEq, Prod.mk.injEq] at h
        obtain ⟨rfl, _⟩ := h
        have : ¬ (Int.ofNat n < 0) := by simp
        unfold Go.binOp
        simp only [Op.shift, if_neg this]
        rfl
      · cases h
    · simp only [Option.some.injEq, Prod.mk.injEq] at h
      obtain ⟨rfl, rfl⟩ := h
      unfold Go.binOp
      simp only [Op.shift, if_neg (Int.not_lt.2 hp)]
      rfl
  case shr =>
    simp only [binVal] at h
    cases sym
    · simp only at h
      split at h
      · rename_i n
        simp only [Option.some.injEq, Prod.mk.injEq] at h
        obtain ⟨rfl, _⟩ := h
        have : ¬ (Int.ofNat n < 0) := by simp
        unfold Go.binOp
        simp only [Op.shift, if_neg this]
        rfl
      · cases h
    · simp only [Option.some.injEq, Prod.mk.injEq] at h
      obtain ⟨rfl, rfl⟩ := h
      unfold Go.binOp
      simp only [Op.shift, if_neg (Int.not_lt.2 hp)]
      rfl
  case quo =>
    simp only [binVal] at h
    split at h
    · cases h
    · rename_i hk
      have hkj := ik_inj hk
      subst hkj
      unfold Go.binOp
      cases sym
      · simp only at h
        split at h
        · rename_i n
          simp only [Option.some.injEq, Prod.mk.injEq] at h
          obtain ⟨rfl, _⟩ := h
          have : ¬ (Int.ofNat (n + 1) = 0) := by simp; omega
          simp [Op.intDiv, this]
          omega
        · cases h
      · simp only [Option.some.injEq, Prod.mk.injEq] at h
        obtain ⟨rfl, rfl⟩ := h
        have hp' : v ≠ 0 := hp
        simp [Op.intDiv, hp']
  case rem =>
    simp only [binVal] at h
    split at h
    · cases h
    · rename_i hk
      have hkj := ik_inj hk
      subst hkj
      unfold Go.binOp
      cases sym
      · simp only at h
        split at h
        · rename_i n
          simp only [Option.some.injEq, Prod.mk.injEq] at h
          obtain ⟨rfl, _⟩ := h
          have : ¬ (Int.ofNat (n + 1) = 0) := by simp; omega
          simp [Op.intDiv, this]
          omega
        · cases h
      · simp only [Option.some.injEq, Prod.mk.injEq] at h
        obtain ⟨rfl, rfl⟩ := h
        have hp' : v ≠ 0 := hp
        simp [Op.intDiv, hp']
  all_goals
    simp only [binVal] at h
    split at h
    · cases h
    · rename_i hk
      have hkj := ik_inj hk
      subst hkj
      first
        | (cases h; done)
        | (simp only [Option.some.injEq, Prod.mk.injEq] at h; obtain ⟨rfl, _⟩ := h; unfold Go.binOp; simp [Op.intArith, Op.intBits, Op.intCmp]; done)
theorem s_bin (hG : HR ρ D N M G w) (hev : EvOK a ρ D ev) {op : BinOp} {t t' : TypeId} {x y : Operand} (hop : o.op = .binOp op t x y t') {u v : Value} (hx : ev x = some (ofV u)) (hy : ev y = some (ofV v)) {sym : Bool} {r : Value} {p : Asm} (h : binVal sym op u v = some (r, p)) (hp : p.holds) : Sn P o a w ρ D N M G base { val := ofV r, asm := p } := by
  refine sn_same hG (bin_exec hop) ?_ rfl rfl
  rw [(hev x _ hx).1, (hev y _ hy).1]
  change ((eqGuard op t x y u v) >>= fun _ => Go.binOp op t u v).run P w = .ok r w
  rw [Sem.run_bind]
  cases u
  case int k u =>
    cases v
    case int j v =>
      rw [eqGuard_int]
      exact bin_int h hp
    all_goals cases op <;> simp [binVal] at h
  case string u =>
    cases v
    case string v =>
      rw [eqGuard_str]
      exact bin_str h
    all_goals simp [binVal] at h
  all_goals simp [binVal] at h

end
end Go.Proofs.Ytkoackalpcmhaaa.Am
