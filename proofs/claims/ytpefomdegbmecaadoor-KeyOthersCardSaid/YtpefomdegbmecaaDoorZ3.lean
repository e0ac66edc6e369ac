/- The abstract machine: operation by operation: comparisons, conversions, places. Conditions: none. -/
import Derived.Test.YtpefomdegbmecaaDoorZ2
import Derived.Laws.BytesString
import Derived.Laws.MakeOwn
import Derived.Laws.IdiomStrings
set_option linter.unusedSectionVars false
namespace Go.Proofs.YtpefomdegbmecaaDoor.Am
set_option linter.unusedVariables false
set_option linter.unusedSimpArgs false
open Go Go.RowKit
open Rg (gives)

section
variable {P : Program} {T : List (Nat × Ty)} {ρ : Nat → Loc} {D : Nat → Prop} {N : Nat} {M : List Nat} {G : Nat → Option Blk} {base : Nat} {w : World} {o : Oper} {a : Act} {ev : Operand → Option SV}
variable [GT]

omit [GT] in
theorem eq_bool {t : TypeId} (hun : P.underlying t = some .bool) (u v : Bool) (d : Nat) : (Op.equalIn (d + 1) t (.bool u) (.bool v)).run P w = .ok (u == v) w := by
  simp [Op.equalIn, run_underlying hun]
omit [GT] in
theorem eq_ptr {t e : TypeId} (hun : P.underlying t = some (.pointer e)) (x : Addr) (d : Nat) : (Op.equalIn (d + 1) t (.pointer (some x)) (.pointer none)).run P w = .ok false w := by
  simp [Op.equalIn, run_underlying hun]
omit [GT] in
theorem bin_eq {t : TypeId} {u v : Value} {r : Bool} (h : (Op.equalIn (9999 + 1) t u v).run P w = .ok r w) (hu : ∀ k n, u ≠ .int k n) (hf : ∀ k n, u ≠ .float k n) (hc : ∀ k n m, u ≠ .complex k n m) (hs : ∀ s, u ≠ .string s) : (Go.binOp .eql t u v).run P w = .ok (.bool r) w ∧ (Go.binOp .neq t u v).run P w = .ok (.bool !r) w := by
  have e1 : Go.binOp .eql t u v = (do pure (.bool (← Op.equal t u v))) := by
    cases u <;> first | rfl | (exact absurd rfl (hu _ _)) | (exact absurd rfl (hf _ _)) | (exact absurd rfl (hc _ _ _)) | (exact absurd rfl (hs _))
  have e2 : Go.binOp .neq t u v = (do pure (.bool (!(← Op.equal t u v)))) := by
    cases u <;> first | rfl | (exact absurd rfl (hu _ _)) | (exact absurd rfl (hf _ _)) | (exact absurd rfl (hc _ _ _)) | (exact absurd rfl (hs _))
  have h' : (Op.equal t u v).run P w = .ok r w := h
  rw [e1, e2]
  exact ⟨by rw [Sem.run_bind, h']; rfl, by rw [Sem.run_bind, h']; rfl⟩
theorem s_boolEq (hT : TOK P T) (hG : HR ρ D N M G w) (hev : EvOK a ρ D ev) {op : BinOp} {t t' : TypeId} {x y : Operand} (hop : o.op = .binOp op t x y t') {u v : Bool} (hx : ev x = some (ofV (.bool u))) (hy : ev y = some (ofV (.bool v))) {ty : Ty} (ht : look T t = some ty) (hu : ty.u = .bool) (b : Bool) (hb : op = .eql ∧ b = (u == v) ∨ op = .neq ∧ b = !(u == v)) : Sn P o a w ρ D N M G base { val := ofV (.bool b) } := by
  have hun : P.underlying t = some .bool := by have := (hT t ty ht).und; rw [hu] at this; exact this
  refine sn_same hG (bin_exec hop) ?_ rfl rfl
  rw [(hev x _ hx).1, (hev y _ hy).1]
  change ((eqGuard op t x y (.bool u) (.bool v)) >>= fun _ => Go.binOp op t (.bool u) (.bool v)).run P w = .ok (.bool b) w
  rw [Sem.run_bind, eqGuard_bool]
  have := bin_eq (P := P) (w := w) (t := t) (eq_bool hun u v 9999) (by simp) (by simp) (by simp) (by simp)
  rcases hb with ⟨rfl, rfl⟩ | ⟨rfl, rfl⟩
  · exact this.1
  · exact this.2
theorem s_ptrNil (hT : TOK P T) (hG : HR ρ D N M G w) (hev : EvOK a ρ D ev) {op : BinOp} {t t' : TypeId} {x y : Operand} (hop : o.op = .binOp op t x y t') {id off : Nat} (hx : ev x = some (.av (.one (.p id off)))) (hy : ev y = some (ofV (.pointer none))) {blk : Blk} (hb : G id = some blk) (hk : hasA blk = true) {ty : Ty} (ht : look T t = some ty) {e : TypeId} (hu : ty.u = .ptr e) (b : Bool) (hbb : op = .eql ∧ b = false ∨ op = .neq ∧ b = true) : Sn P o a w ρ D N M G base { val := ofV (.bool b) } := by
  have hun : P.underlying t = some (.pointer e) := by have := (hT t ty ht).und; rw [hu] at this; exact this
  obtain ⟨u, ha⟩ := (hG.blk id blk hb).2.2.hasA hk
  refine sn_same hG (bin_exec hop) ?_ rfl rfl
  rw [(hev x _ hx).1, (hev y _ hy).1, conc_p, ha]
  change ((eqGuard op t x y (.pointer (some (Addr.add u off))) (.pointer none)) >>= fun _ => Go.binOp op t (.pointer (some (Addr.add u off))) (.pointer none)).run P w = .ok (.bool b) w
  rw [Sem.run_bind, eqGuard_ptr]
  have := bin_eq (P := P) (w := w) (t := t) (eq_ptr hun (Addr.add u off) 9999) (by simp) (by simp) (by simp) (by simp)
  rcases hbb with ⟨rfl, rfl⟩ | ⟨rfl, rfl⟩
  · exact this.1
  · exact this.2
omit [GT] in
theorem eq_nil {t e : TypeId} (hun : P.underlying t = some (.pointer e)) (d : Nat) : (Op.equalIn (d + 1) t (.pointer none) (.pointer none)).run P w = .ok true w := by
  simp [Op.equalIn, run_underlying hun]
theorem s_nilNil (hT : TOK P T) (hG : HR ρ D N M G w) (hev : EvOK a ρ D ev) {op : BinOp} {t t' : TypeId} {x y : Operand} (hop : o.op = .binOp op t x y t') (hx : ev x = some (ofV (.pointer none))) (hy : ev y = some (ofV (.pointer none))) {ty : Ty} (ht : look T t = some ty) {e : TypeId} (hu : ty.u = .ptr e) (b : Bool) (hbb : op = .eql ∧ b = true ∨ op = .neq ∧ b = false) : Sn P o a w ρ D N M G base { val := ofV (.bool b) } := by
  have hun : P.underlying t = some (.pointer e) := by have := (hT t ty ht).und; rw [hu] at this; exact this
  refine sn_same hG (bin_exec hop) ?_ rfl rfl
  rw [(hev x _ hx).1, (hev y _ hy).1]
  change ((eqGuard op t x y (.pointer none) (.pointer none)) >>= fun _ => Go.binOp op t (.pointer none) (.pointer none)).run P w = .ok (.bool b) w
  rw [Sem.run_bind, eqGuard_ptr]
  have := bin_eq (P := P) (w := w) (t := t) (eq_nil hun 9999) (by simp) (by simp) (by simp) (by simp)
  rcases hbb with ⟨rfl, rfl⟩ | ⟨rfl, rfl⟩
  · exact this.1
  · exact this.2
theorem s_convInt (hT : TOK P T) (hG : HR ρ D N M G w) (hev : EvOK a ρ D ev) {s d : TypeId} {x : Operand} (hop : o.op = .convert s d x) {j : IntKind} {n : Int} (hx : ev x = some (ofV (.int j n))) {ty : Ty} (ht : look T d = some ty) {k : IntKind} (hu : ty.u = .int k) (hs : ∃ q, P.underlying s = some q) : Sn P o a w ρ D N M G base { val := ofV (.int k (k.wrap n)) } := by
  have hun : P.underlying d = some (.int k) := by have := (hT d ty ht).und; rw [hu] at this; exact this
  obtain ⟨q, hq⟩ := hs
  refine sn_same hG (s := Go.convert s d (a.eval x)) (by unfold execOp; rw [hop]; rfl) ?_ rfl rfl
  rw [(hev x _ hx).1]
  change (Go.convert s d (.int j n)).run P w = .ok (.int k (k.wrap n)) w
  unfold Go.convert
  simp [run_underlying hq, run_underlying hun, Conv.intToInt]

theorem rowOf_spec {sym : Bool} {sv : SV} {id off m : Nat} {b : Blk} {p : Asm} (h : rowOf sym G sv = some (id, off, m, b, p)) (hp : p.holds) (hG : HR ρ D N M G w) : G id = some b ∧ off + m ≤ widths b.c ∧ ∃ ad cap, sv.conc ρ = .slice ad m cap ∧ (0 < m → ∃ x, (ρ id).a = some x ∧ ad = some (x.add off)) := by
  have hw : ∀ {A B : Nat} {q : Asm}, within sym A B = some q → q.holds → A ≤ B := by
    intro A B q hq hh
    unfold within at hq
    split at hq
    · simp only [Option.some.injEq] at hq; subst hq; exact hh
    · split at hq
      · rename_i hle; exact Nat.le_of_ble_eq_true hle
      · cases hq
  unfold rowOf at h
  split at h
  · rename_i id' off' len' cap'
    split at h
    · rename_i b' hb'
      split at h
      · rename_i p' hp'
        simp only [Option.some.injEq, Prod.mk.injEq] at h
        obtain ⟨rfl, rfl, rfl, rfl, rfl⟩ := h
        have hle := hw hp' hp
        refine ⟨hb', hle, _, _, rfl, fun hm => ?_⟩
        have hbk := (hG.blk _ _ hb').2.2
        have hlt : off' < (segsVals ρ b'.c).length := by rw [segsVals_len]; omega
        obtain ⟨x, hx, _⟩ := hbk.cells (j := off') (List.getElem?_eq_getElem hlt)
        exact ⟨x, hx, by rw [hx]; rfl⟩
      · cases h
    · cases h
  · rename_i id' off' len' ad'
    split at h
    · rename_i b' hb'
      split at h
      · rename_i p' hp' hk
        simp only [Option.some.injEq, Prod.mk.injEq] at h
        obtain ⟨rfl, rfl, rfl, rfl, rfl⟩ := h
        have hle := hw hp' hp
        refine ⟨hb', hle, _, _, rfl, fun hm => ?_⟩
        have hbk := (hG.blk _ _ hb').2.2
        have hlt : off' < (segsVals ρ b'.c).length := by rw [segsVals_len]; omega
        obtain ⟨x, hx, _⟩ := hbk.cells (j := off') (List.getElem?_eq_getElem hlt)
        refine ⟨x, hx, ?_⟩
        have hcap : (segsVals ρ b'.c).length ≤ (ρ id').cap := by
          obtain ⟨k, bty, bc⟩ := b'
          have hk := Nat.le_of_ble_eq_true hk
          simp only at hk hlt
          match k, hk, hbk with
          | 1, _, hbk =>
            rcases hbk.2 with ⟨_, hn⟩ | ⟨g, cap, cur, hv, _, _, hnc, _⟩
            · simp only at hn; omega
            · injection hv with _ _ hv; simp only at hnc ⊢; omega
          | k + 2, _, hbk => exact hbk.low.1
        unfold radr
        rw [hx, if_neg (by omega)]
        rfl
      · cases h
    · cases h
  · cases h

omit [GT] in
theorem readSegs_spec (ρ : Nat → Loc) {h : Hint} {c l : List Seg} {off n : Nat} {p : Asm} (hr : readSegs h c off n = some (l, p)) (hle : off + n ≤ widths c) : segsVals ρ l = ((segsVals ρ c).drop off).take n ∧ (segsVals ρ l).length = n := by
  unfold readSegs at hr
  split at hr
  · split at hr
    · rename_i k zs
      simp only [Option.some.injEq, Prod.mk.injEq] at hr
      obtain ⟨rfl, _⟩ := hr
      simp only [widths, Seg.width, Nat.add_zero] at hle
      rw [segsVals_one, segsVals_one]
      simp only [Seg.vals]
      refine ⟨by rw [List.map_take, List.map_drop], ?_⟩
      rw [List.length_map, List.length_take, List.length_drop]; omega
    · rename_i k F m
      simp only [Option.some.injEq, Prod.mk.injEq] at hr
      obtain ⟨rfl, _⟩ := hr
      simp only [widths, Seg.width, Nat.add_zero] at hle
      rw [segsVals_one, segsVals_one]
      simp only [Seg.vals]
      refine ⟨by rw [List.map_take, List.map_drop], ?_⟩
      rw [List.length_map, List.length_take, List.length_drop]; omega
    · split at hr
      · rename_i l' hl
        simp only [Option.some.injEq, Prod.mk.injEq] at hr
        obtain ⟨rfl, _⟩ := hr
        exact getSegs_spec ρ hl
      · cases hr
  · split at hr
    · rename_i l' hl
      simp only [Option.some.injEq, Prod.mk.injEq] at hr
      obtain ⟨rfl, _⟩ := hr
      exact getSegs_spec ρ hl
    · cases hr
omit [GT] in
theorem sub_at {α : Type} {l m : List α} {off n : Nat} (h : l = (m.drop off).take n) : ∀ j u, l[j]? = some u → m[off + j]? = some u := by
  intro j u hj
  subst h
  have hlt := (List.getElem?_eq_some_iff.1 hj).1
  rw [List.length_take] at hlt
  rw [List.getElem?_take_of_lt (by omega), List.getElem?_drop] at hj
  exact hj
omit [GT] in
theorem foldl_push (ns : List Int) : ∀ (acc : ByteArray), ns.foldl (fun r n => r.push (UInt8.ofNat n.toNat)) acc = ⟨acc.data ++ (ns.map fun z => UInt8.ofNat z.toNat).toArray⟩ := by
  induction ns with
  | nil => intro acc; simp
  | cons n ns ih =>
    intro acc
    rw [List.foldl_cons, ih]
    congr 1
    simp [ByteArray.push]
theorem s_convStr (hT : TOK P T) (hG : HR ρ D N M G w) (hev : EvOK a ρ D ev) {s d : TypeId} {x : Operand} (hop : o.op = .convert s d x) {sv : SV} (hx : ev x = some sv) {ty : Ty} (ht : look T d = some ty) (hu : ty.u = .str) {ts : Ty} (hts : look T s = some ts) {e : TypeId} (hus : ts.u = .sl e) {te : Ty} (hte : look T e = some te) (hue : te.u = .int .u8)
    {h : Hint} {id off m : Nat} {b : Blk} {p1 p2 q : Asm} (hrow : rowOf h.sym G sv = some (id, off, m, b, p1)) (hp1 : p1.holds) {l : List Seg} (hl : readSegs h b.c off m = some (l, p2)) {zs : List Int} (hz : intsOf .u8 l = some zs) : Sn P o a w ρ D N M G base { val := ofV (.string (strOf zs)), asm := q } := by
  have hund : P.underlying d = some .string := by have := (hT d ty ht).und; rw [hu] at this; exact this
  have huns : P.underlying s = some (.slice e) := by have := (hT s ts hts).und; rw [hus] at this; exact this
  have hune : P.underlying e = some (.int .u8) := by have := (hT e te hte).und; rw [hue] at this; exact this
  obtain ⟨hb, hle, ad, cap, hconc, hpos⟩ := rowOf_spec hrow hp1 hG
  obtain ⟨e1, e2⟩ := readSegs_spec ρ hl hle
  have e3 := intsOf_spec ρ l zs hz
  refine sn_same hG (s := Go.convert s d (a.eval x)) (by unfold execOp; rw [hop]; rfl) ?_ rfl rfl
  rw [(hev x _ hx).1, hconc]
  change _ = Result.ok (Value.string (strOf zs)) w
  have hlen : zs.length = m := by rw [← e2, e3, List.length_map]
  rcases Nat.eq_zero_or_pos m with h0 | h0
  · subst h0
    have : zs = [] := List.eq_nil_of_length_eq_zero hlen
    subst this
    cases ad with
    | none => 
      unfold Go.convert
      simp [run_underlying huns, run_underlying hund, run_underlying hune, Conv.bytesToString]
      try rfl
    | some y =>
      rw [run_convert_bytes_string w s d e (some y) 0 cap huns hune hund, run_bytesToString w y 0 cap [] rfl]
      rfl
  · obtain ⟨y, hy, rfl⟩ := hpos h0
    obtain ⟨y', hy', hc⟩ := cells_at (l := segsVals ρ l) (off := off) hG hb (sub_at e1) (by omega)
    rw [hy] at hy'
    injection hy' with hy'
    subst hy'
    have hlc := run_loadCells_list (P := P) w (y.add off) (segsVals ρ l) hc
    rw [e2, e3] at hlc
    rw [run_convert_bytes_string w s d e (some (y.add off)) m cap huns hune hund, run_bytesToString w (y.add off) m cap zs hlc, foldl_push]
    simp [strOf]

theorem s_convNil (hT : TOK P T) (hG : HR ρ D N M G w) (hev : EvOK a ρ D ev) {s d : TypeId} {x : Operand} (hop : o.op = .convert s d x) {sv : SV} (hx : ev x = some sv) {ty : Ty} (ht : look T d = some ty) (hu : ty.u = .str) {ts : Ty} (hts : look T s = some ts) {e : TypeId} (hus : ts.u = .sl e) {te : Ty} (hte : look T e = some te) (hue : te.u = .int .u8) (hnil : isNil sv = true) : Sn P o a w ρ D N M G base { val := ofV (.string .empty) } := by
  have hund : P.underlying d = some .string := by have := (hT d ty ht).und; rw [hu] at this; exact this
  have huns : P.underlying s = some (.slice e) := by have := (hT s ts hts).und; rw [hus] at this; exact this
  have hune : P.underlying e = some (.int .u8) := by have := (hT e te hte).und; rw [hue] at this; exact this
  have hyc : sv.conc ρ = .slice none 0 0 := by
    unfold isNil at hnil
    split at hnil
    · rfl
    · cases hnil
  refine sn_same hG (s := Go.convert s d (a.eval x)) (by unfold execOp; rw [hop]; rfl) ?_ rfl rfl
  rw [(hev x _ hx).1, hyc]
  unfold Go.convert
  simp [run_underlying huns, run_underlying hund, run_underlying hune, Conv.bytesToString]
  rfl

/-- '[]byte(s)': a new row, to be read. -/
theorem s_convBytes (hT : TOK P T) (hG : HR ρ D N M G w) (hev : EvOK a ρ D ev) (hf : ¬ D base) {s d : TypeId} {x : Operand} (hop : o.op = .convert s d x) {str : ByteArray} (hx : ev x = some (ofV (.string str))) {ty : Ty} (ht : look T d = some ty) {e : TypeId} (hu : ty.u = .sl e) {ts : Ty} (hts : look T s = some ts) (hus : ts.u = .str) {te : Ty} (hte : look T e = some te) (hue : te.u = .int .u8) :
    Sn P o a w ρ D N M G base { val := .av (.one (.r base 0 (bytesOf str).length 0)), new := [⟨2, e, [.arr .u8 (bytesOf str)]⟩] } := by
  have huns : P.underlying s = some .string := by have := (hT s ts hts).und; rw [hus] at this; exact this
  have hund : P.underlying d = some (.slice e) := by have := (hT d ty ht).und; rw [hu] at this; exact this
  have hune : P.underlying e = some (.int .u8) := by have := (hT e te hte).und; rw [hue] at this; exact this
  have hrun := run_bytes_of_string (P := P) w s d e str huns hund hune
  have hcap := grownCap_ge w str.size 0 e
  have hlen : (bytesOf str).length = str.size := by
    unfold bytesOf
    rw [List.length_map]
    rfl
  generalize grownCap w str.size 0 e = cap at *
  obtain ⟨w', hw'⟩ : ∃ w', w' = w.drew.alloc (.cells (bytesRow str cap) e ((bytesRow str cap).size, (bytesRow str cap).size + 1)) := ⟨_, rfl⟩
  rw [← hw'] at hrun
  have hsz : w'.heap.size = w.heap.size + 1 := by
    rw [hw']
    show (w.heap.push _).size = _
    simp
  have hbel : Below w.heap.size w w' := by
    rw [hw']
    refine ⟨rfl, rfl, rfl, ?_, fun k hk => ?_⟩
    · show w.heap.size ≤ (w.heap.push _).size
      simp
    · show (w.heap.push _)[k]? = _
      rw [Array.getElem?_push]
      rw [if_neg (by omega)]
  have hblk : w'.heap[w.heap.size]? = some (.cells (bytesRow str cap) e ((bytesRow str cap).size, (bytesRow str cap).size + 1)) := by
    rw [hw']
    show (w.heap.push _)[w.heap.size]? = _
    simp
  refine gives_of (s := Go.convert s d (a.eval x)) (by unfold execOp; rw [hop]; rfl) (by rw [(hev x _ hx).1]; exact hrun) ⟨_, fits_fresh (l := ⟨some ⟨w.heap.size, 0, none⟩, cap⟩) hG hbel (b := ⟨2, e, [.arr .u8 (bytesOf str)]⟩) hf rfl rfl (fun s hs => (by simp at hs; subst hs; trivial)) ?_ (fun y hy => ?_) ?_⟩
  · show (segsVals _ _).length ≤ _ ∧ _
    rw [segsVals_one, up_self]
    simp only [Seg.vals, List.length_map]
    refine ⟨by rw [hlen]; exact hcap, .inr ⟨_, rfl, fun j u hj => ?_⟩⟩
    rw [Addr.add_lit]
    simp only [World.cell?, hblk, Nat.zero_add]
    have hjl : j < (bytesOf str).length := by
      have := (List.getElem?_eq_some_iff.1 hj).1
      simpa using this
    rw [List.getElem?_map, List.getElem?_eq_getElem hjl] at hj
    simp only [Option.map_some, Option.some.injEq] at hj
    subst hj
    unfold bytesRow
    have hjs : j < (str.data.map (fun b => Value.int .u8 b.toNat)).size := by
      rw [Array.size_map]
      have : str.data.size = str.size := rfl
      omega
    rw [Array.getElem?_append_left hjs, Array.getElem?_eq_getElem hjs]
    simp [bytesOf]
  · injection hy with hy
    subst hy
    exact ⟨Nat.le_refl _, by simp only; omega⟩
  · simp only [SV.conc, AV.conc, Seg.conc, up_self, radr, Option.map_some, Addr.add_lit, Nat.sub_zero, hlen]
    split <;> rfl

/-- A row of a block whose contents are known, as one more block to be read. -/
theorem fits_ro (hG : HR ρ D N M G w) {a : Option Addr} {len cap : Nat} {k : IntKind} {zs : List Int} (ht : TabRow GT.tab a len cap k zs) (hf : ¬ D base) {r : Res} {v : Value} (hn : r.new = [⟨2, 0, [.arr k zs]⟩]) (hu : r.upd = [(Nat.succ base, none)]) (hv : v = r.val.conc (up ρ base ⟨a, cap⟩)) : Fits ρ D N M G base r w (up ρ base ⟨a, cap⟩) v w := by
  have hag : ∀ i, D i → up ρ base ⟨a, cap⟩ i = ρ i := up_agree hf
  obtain ⟨hzl, hlc, hz, htab⟩ := ht
  have hblk : ∀ y, a = some y → y.block < N ∧ y.block ∉ M := fun y hy => by
    obtain ⟨x, hx, hxb, _⟩ := htab y hy
    obtain ⟨h1, h2, _⟩ := hG.gw x hx
    rw [← hxb]
    exact ⟨h1, h2⟩
  have hcell : ∀ y, a = some y → ∀ (j : Nat) (u : Value), (zs.map (Value.int k))[j]? = some u → w.cell? (y.add j) = some u := fun y hy j u hj => by
    obtain ⟨x, hx, hxb, hc⟩ := htab y hy
    obtain ⟨_, _, cs, ty, mk, h3, h4⟩ := hG.gw x hx
    obtain ⟨hsp, hcc⟩ := hc j u hj
    have hb : (y.add j).block = y.block := by
      unfold Addr.add
      split <;> rfl
    unfold World.cell?
    rw [hb, ← hxb, h3, hsp]
    simp only [Option.isSome_none, Bool.false_eq_true, if_false]
    rw [← hcc, ← h4, Array.getElem?_toList]
  refine ⟨hag, hv, ?_, Kept.refl _ _ _, fun hnil => by rw [hu] at hnil; cases hnil⟩
  have ha : ∀ i, appl G base r i = if i = Nat.succ base then none else if i = base then some ⟨2, 0, [.arr k zs]⟩ else G i := fun i => by
    unfold appl
    rw [hu, hn]
    simp only [look, List.length_cons, List.length_nil]
    by_cases h : i = Nat.succ base
    · subst h; simp
    · have : Nat.beq (Nat.succ base) i = false := by
        cases hq : Nat.beq (Nat.succ base) i
        · rfl
        · exact absurd (Nat.eq_of_beq_eq_true hq).symm h
      rw [this, if_neg h]
      simp only
      by_cases h2 : i = base
      · subst h2; simp
      · rw [if_neg (by omega), if_neg h2]
  have hbs : base ≠ Nat.succ base := by omega
  refine hG.step (U := fun i => i = base) hag (fun i h => .inl h) (Kept.refl _ _ _) (fun i b' hb' hU => ?_) (fun i b' x hb' hU hx => rfl) (fun i b' hb' hU => ?_) (fun i b' x hb' hU hx => ?_) (fun i b' x hb' hU hk' hx => ?_) (fun i j bi bj x y hi hj hij hU hk' hx hy => ?_)
  · rw [ha] at hb'
    by_cases hid : i = Nat.succ base
    · rw [if_pos hid] at hb'; cases hb'
    · rw [if_neg hid, if_neg hU] at hb'; exact hb'
  · subst hU
    rw [ha, if_neg hbs, if_pos rfl] at hb'
    injection hb' with hb'
    subst hb'
    refine ⟨.inr ⟨Nat.le_refl _, by rw [hn]; simp⟩, (fun s hs => by simp at hs; subst hs; trivial), ?_⟩
    show (segsVals _ [Seg.arr k zs]).length ≤ _ ∧ _
    rw [segsVals_one, up_self]
    refine ⟨by simp only [Seg.vals, List.length_map]; omega, ?_⟩
    rcases hz with hz | ⟨y, hy⟩
    · left
      rw [hz]
      rfl
    · right
      exact ⟨y, hy, hcell y hy⟩
  · subst hU
    rw [up_self] at hx
    exact Nat.lt_of_lt_of_le (hblk x hx).1 hG.size
  · subst hU
    rw [ha, if_neg hbs, if_pos rfl] at hb'
    injection hb' with hb'
    subst hb'
    simp only at hk'
    omega
  · by_cases hib : i = base
    · subst hib
      rw [ha, if_neg hbs, if_pos rfl] at hi
      injection hi with hi
      subst hi
      simp only at hk'
      omega
    · rcases hU with hU | hU
      · exact absurd hU hib
      · subst hU
        rw [up_self] at hy
        rw [ha] at hi
        by_cases his : i = Nat.succ j
        · rw [if_pos his] at hi; cases hi
        · rw [if_neg his, if_neg hib] at hi
          rw [hag i (hG.blk i bi hi).1] at hx
          have h1 := hG.own i bi x hi hk' hx
          obtain ⟨h2, h3⟩ := hblk y hy
          intro e
          rcases h1 with h1 | h1
          · omega
          · exact h3 (e ▸ h1)
theorem s_load_ro (hT : TOK P T) (hG : HR ρ D N M G w) (hev : EvOK a ρ D ev) (hf : ¬ D base) {t : TypeId} {x : Operand} (hop : o.op = .load t x) {ty : Ty} (ht : look T t = some ty) (hagg : ty.u.agg = false) {id off : Nat} (hx : ev x = some (.av (.one (.p id off)))) {b : Blk} (hb : G id = some b) {ad : Option Addr} {len cap : Nat} {k : IntKind} {zs : List Int} (hl : (segsVals ρ b.c)[off]? = some (.slice ad len cap)) (htr : TabRow GT.tab ad len cap k zs) {p : Asm} :
    Sn P o a w ρ D N M G base { val := .av (.one (.s base 0 len cap)), new := [⟨2, 0, [.arr k zs]⟩], upd := [(Nat.succ base, none)], asm := p } := by
  have hty := hT t ty ht
  obtain ⟨hv, _⟩ := hev x _ hx
  obtain ⟨y, hy, hc⟩ := cells_at (l := [.slice ad len cap]) (off := off) hG hb (fun j u hj => by
    cases j with
    | zero => simp only [List.getElem?_cons_zero, Option.some.injEq] at hj; subst hj; exact hl
    | succ j => simp at hj) (by simp)
  refine gives_of (s := Instr.loadAt t (a.eval x)) (v := .slice ad len cap) (w' := w) (by unfold execOp; rw [hop]; rfl) ?_ ⟨_, fits_ro hG htr hf rfl rfl ?_⟩
  · rw [hv, conc_p, hy]
    simp only [Option.map_some]
    have hc0 := hc 0 _ rfl
    have : (y.add off).add 0 = y.add off := by simp [Addr.add]
    rw [this] at hc0
    simp [Instr.loadAt, Instr.sureAddr, loadVar, hty.agg, hagg, hc0]
  · simp only [SV.conc, AV.conc, Seg.conc, up_self]
    cases ad <;> simp [Addr.add]
/-- A block that only its own name reaches is told anew, to be read only, where it lies. -/
theorem fits_move {w' : World} (hG : HR ρ D N M G w) {id : Nat} {b b2 : Blk} (hb : G id = some b) (hk : b.k < 2) {g : Nat} (hg : (ρ id).a = some ⟨g, 0, none⟩) (hw : ∀ k, k ≠ g → w'.heap[k]? = w.heap[k]?) (hsz : w'.heap.size = w.heap.size) (hos : w'.os = w.os) (htp : w'.tape = w.tape) (hou : w'.output = w.output)
    (hk2 : 2 ≤ b2.k) {l : Loc} (hl : l.a = (ρ id).a) (hf : ¬ D base) {r : Res} {v : Value} (hn : r.new = [b2]) (hu : r.upd = [(id, none)]) (hin : segsIn D b2.c) (hok : BlkOK (up ρ base l) w' base b2) (hv : v = r.val.conc (up ρ base l)) : Fits ρ D N M G base r w (up ρ base l) v w' := by
  have hag : ∀ i, D i → up ρ base l i = ρ i := up_agree hf
  have hgo := hG.own id b _ hb hk hg
  simp only at hgo
  have hgl : g < w.heap.size := hG.lt id b _ hb hg
  have hne : id ≠ base := fun e => hf (e ▸ (hG.blk id b hb).1)
  have hkp : Kept N M w w' := ⟨hos, htp, hou, Nat.le_of_eq hsz.symm, fun k hk hm => hw k fun e => by
    subst e
    rcases hgo with h | h
    · omega
    · exact hm h⟩
  refine ⟨hag, hv, ?_, hkp, fun hnil => by rw [hu] at hnil; cases hnil⟩
  have ha : ∀ i, appl G base r i = if i = id then none else if i = base then some b2 else G i := fun i => by
    unfold appl
    rw [hu, hn]
    simp only [look, List.length_cons, List.length_nil]
    by_cases h : i = id
    · subst h; simp
    · have : Nat.beq id i = false := by
        cases hq : Nat.beq id i
        · rfl
        · exact absurd (Nat.eq_of_beq_eq_true hq).symm h
      rw [this, if_neg h]
      simp only
      by_cases h2 : i = base
      · subst h2; simp
      · rw [if_neg (by omega), if_neg h2]
  refine hG.step (U := fun i => i = base) hag (fun i h => .inl h) hkp (fun i b' hb' hU => ?_) (fun i b' x hb' hU hx => ?_) (fun i b' hb' hU => ?_) (fun i b' x hb' hU hx => ?_) (fun i b' x hb' hU hk' hx => ?_) (fun i j bi bj x y hi hj hij hU hk' hx hy => ?_)
  · rw [ha] at hb'
    by_cases hid : i = id
    · rw [if_pos hid] at hb'; cases hb'
    · rw [if_neg hid, if_neg hU] at hb'; exact hb'
  · rw [ha] at hb'
    by_cases hid : i = id
    · rw [if_pos hid] at hb'; cases hb'
    · rw [if_neg hid, if_neg hU] at hb'
      refine hw _ fun e => ?_
      have := hG.dist id i b b' _ x hb hb' (fun e => hid e.symm) hk hg hx
      exact this e.symm
  · subst hU
    rw [ha, if_neg (fun e => hne e.symm), if_pos rfl] at hb'
    injection hb' with hb'
    subst hb'
    exact ⟨.inr ⟨Nat.le_refl _, by rw [hn]; simp⟩, hin.mono fun i h => .inl h, hok⟩
  · subst hU
    rw [up_self, hl, hg] at hx
    injection hx with hx
    subst hx
    show g < w'.heap.size
    omega
  · subst hU
    rw [ha, if_neg (fun e => hne e.symm), if_pos rfl] at hb'
    injection hb' with hb'
    subst hb'
    omega
  · rw [ha] at hi hj
    by_cases hi1 : i = id
    · rw [if_pos hi1] at hi; cases hi
    · rw [if_neg hi1] at hi
      by_cases hj1 : j = id
      · rw [if_pos hj1] at hj; cases hj
      · rw [if_neg hj1] at hj
        by_cases h1 : i = base
        · rw [if_pos h1] at hi
          injection hi with hi
          subst hi
          omega
        · have h2 : j = base := hU.resolve_left h1
          subst h2
          rw [if_neg h1] at hi
          rw [up_self, hl, hg] at hy
          injection hy with hy
          subst hy
          rw [hag i (hG.blk i bi hi).1] at hx
          exact fun e => hG.dist id i b bi _ x hb hi (fun e => hi1 e.symm) hk hg hx e.symm
omit [GT] in
theorem run_mark {w : World} {s e : TypeId} {g len cap : Nat} (huns : P.underlying s = some (.slice e)) (hune : P.underlying e = some (.int .u8)) {vals : Array Value} {ty : TypeId} {mk : Nat × Nat} (hg : w.heap[g]? = some (.cells vals ty mk)) :
    (Go.convert s s (.slice (some ⟨g, 0, none⟩) len cap)).run P w = .ok (.slice (some ⟨g, 0, none⟩) len cap) (w.freeze ⟨g, vals.size, none⟩ 1) := by
  unfold Go.convert
  simp [run_underlying huns, run_underlying hune, markStringish, shape, freeze, Sem.run, World.shape?, hg]
omit [GT] in
theorem freeze_heap {w : World} {g off n : Nat} (hn : n ≠ 0) {vals : Array Value} {ty : TypeId} {mk : Nat × Nat} (hg : w.heap[g]? = some (.cells vals ty mk)) : ∃ mk', (w.freeze ⟨g, off, none⟩ n).heap[g]? = some (.cells vals ty mk') := by
  obtain ⟨lo, hi⟩ := mk
  unfold World.freeze
  rw [if_neg hn]
  simp [Array.getElem?_modify, hg]
omit [GT] in
theorem freeze_other {w : World} {g off n k : Nat} (hk : k ≠ g) : (w.freeze ⟨g, off, none⟩ n).heap[k]? = w.heap[k]? := by
  unfold World.freeze
  split
  · rfl
  · simp only [Array.getElem?_modify]
    rw [if_neg (fun e => hk e.symm)]
omit [GT] in
theorem freeze_size {w : World} {g off n : Nat} : (w.freeze ⟨g, off, none⟩ n).heap.size = w.heap.size := by
  unfold World.freeze
  split
  · rfl
  · simp
theorem s_convMark (hT : TOK P T) (hG : HR ρ D N M G w) (hev : EvOK a ρ D ev) (hf : ¬ D base) {t : TypeId} {x : Operand} (hop : o.op = .convert t t x) {id len : Nat} (hx : ev x = some (.av (.one (.s id 0 len len)))) {b : Blk} (hb : G id = some b) (hk : b.k = 0) (hlen : widths b.c = len) {ty : Ty} (ht : look T t = some ty) {e : TypeId} (hu : ty.u = .sl e) {te : Ty} (hte : look T e = some te) (hue : te.u = .int .u8) :
    Sn P o a w ρ D N M G base { val := .av (.one (.r base 0 len 0)), new := [⟨2, e, b.c⟩], upd := [(id, none)] } := by
  have hund : P.underlying t = some (.slice e) := by have := (hT t ty ht).und; rw [hu] at this; exact this
  have hune : P.underlying e = some (.int .u8) := by have := (hT e te hte).und; rw [hue] at this; exact this
  obtain ⟨hD, hin, hok⟩ := hG.blk id b hb
  obtain ⟨k, bty, c⟩ := b
  simp only at hk hlen
  subst hk
  obtain ⟨g, ha, hg⟩ : ∃ g, (ρ id).a = some ⟨g, 0, none⟩ ∧ w.heap[g]? = some (.cells (segsVals ρ c).toArray bty (0, 0)) := hok
  have hl := segsVals_len ρ c
  obtain ⟨mk', hg'⟩ := freeze_heap (w := w) (g := g) (off := (segsVals ρ c).toArray.size) (n := 1) (by omega) hg
  have hag : ∀ i, D i → up ρ base ⟨(ρ id).a, len⟩ i = ρ i := up_agree hf
  have hvs : segsVals (up ρ base ⟨(ρ id).a, len⟩) c = segsVals ρ c := segsVals_congr hag hin
  have hxc : (SV.av (.one (.s id 0 len len))).conc ρ = .slice (some ⟨g, 0, none⟩) len len := by
    simp [SV.conc, AV.conc, Seg.conc, ha, Addr.add]
  refine gives_of (s := Go.convert t t (a.eval x)) (by unfold execOp; rw [hop]; rfl) (by rw [(hev x _ hx).1, hxc]; exact run_mark hund hune hg) ⟨_, fits_move (l := ⟨(ρ id).a, len⟩) hG hb (by show 0 < 2; omega) ha (fun k hk => freeze_other hk) freeze_size (by unfold World.freeze; split <;> rfl) (by unfold World.freeze; split <;> rfl) (by unfold World.freeze; split <;> rfl) (Nat.le_refl 2) rfl hf rfl rfl hin ?_ ?_⟩
  · show (segsVals _ c).length ≤ _ ∧ _
    rw [up_self, hvs]
    refine ⟨by show _ ≤ len; omega, .inr ⟨_, ha, fun j u hj => ?_⟩⟩
    rw [Addr.add_lit]
    simp only [World.cell?, hg', Nat.zero_add]
    simpa using hj
  · simp only [SV.conc, AV.conc, Seg.conc, up_self, radr, ha, Option.map_some, Addr.add_lit, Nat.sub_zero]
    split <;> rfl

end
end Go.Proofs.YtpefomdegbmecaaDoor.Am
/- The abstract machine: operation by operation: places, slices, what is built in. Conditions: none. -/
namespace Go.Proofs.YtpefomdegbmecaaDoor.Am
set_option linter.unusedVariables false
set_option linter.unusedSimpArgs false
open Go Go.RowKit
open Rg (gives)

section
variable {P : Program} {T : List (Nat × Ty)} {ρ : Nat → Loc} {D : Nat → Prop} {N : Nat} {M : List Nat} {G : Nat → Option Blk} {base : Nat} {w : World} {o : Oper} {a : Act} {ev : Operand → Option SV}
variable [GT]

theorem natOf_spec {sym : Bool} {hi n : Nat} {s : SV} {p : Asm} (h : natOf sym hi s = some (n, p)) (hp : p.holds) : ∃ k z, s.conc ρ = .int k z ∧ 0 ≤ z ∧ z.toNat = n ∧ n ≤ hi := by
  unfold natOf at h
  split at h
  · rename_i k z
    split at h
    · simp only [Option.some.injEq, Prod.mk.injEq] at h
      obtain ⟨rfl, rfl⟩ := h
      exact ⟨k, z, rfl, hp.1, rfl, hp.2⟩
    · split at h
      · rename_i m
        split at h
        · rename_i hle
          simp only [Option.some.injEq, Prod.mk.injEq] at h
          obtain ⟨rfl, _⟩ := h
          exact ⟨k, _, rfl, by simp, rfl, Nat.le_of_ble_eq_true hle⟩
        · cases h
      · cases h
  · cases h
theorem within_spec {sym : Bool} {A B : Nat} {q : Asm} (hq : within sym A B = some q) (hh : q.holds) : A ≤ B := by
  unfold within at hq
  split at hq
  · simp only [Option.some.injEq] at hq; subst hq; exact hh
  · split at hq
    · rename_i hle; exact Nat.le_of_ble_eq_true hle
    · cases hq
omit [GT] in
theorem add_add (x : Addr) (m n : Nat) : (x.add m).add n = x.add (m + n) := by
  by_cases h1 : m = 0
  · subst h1; simp [Addr.add]
  · by_cases h2 : n = 0
    · subst h2; simp [Addr.add, h1]
    · simp [Addr.add, h1, h2, Nat.add_assoc]
theorem s_indexAddr_arr (hT : TOK P T) (hG : HR ρ D N M G w) (hev : EvOK a ρ D ev) {t : TypeId} {x i : Operand} (hop : o.op = .indexAddr t x i) {ty : Ty} (ht : look T t = some ty) {n : Nat} {e : TypeId} (hu : ty.u = .arr n e) {te : Ty} (he : look T e = some te) {id off : Nat} (hx : ev x = some (.av (.one (.p id off)))) {b : Blk} (hb : G id = some b) (hk : hasA b = true) {s : SV} (hi : ev i = some s) {sym : Bool} {j : Nat} {p q : Asm} (hj : natOf sym (n - 1) s = some (j, p)) (hp : p.holds) (hn : 1 ≤ n) :
    Sn P o a w ρ D N M G base { val := .av (.one (.p id (plusO off (mulO j te.size)))), asm := q } := by
  have hun : P.underlying t = some (.array n e) := by have := (hT t ty ht).und; rw [hu] at this; exact this
  obtain ⟨k, z, hz, h0, hzj, hle⟩ := natOf_spec (ρ := ρ) hj hp
  obtain ⟨u, ha⟩ := (hG.blk id b hb).2.2.hasA hk
  refine sn_same hG (s := Instr.indexAt t (a.eval x) (a.eval i)) (by unfold execOp; rw [hop]; rfl) ?_ rfl rfl
  rw [(hev x _ hx).1, (hev i _ hi).1, hz, conc_p, conc_p, ha]
  have hlt : 0 ≤ z ∧ z < (n : Int) := by omega
  simp only [Option.map_some, Instr.indexAt, asIntOf, Sem.run_bind, Sem.run_pure, Result.andThen_ok, run_underlying hun, Instr.sureAddr, if_pos hlt, (hT e te he).run_size, hzj, add_add, plusO_eq, mulO_eq]
theorem s_indexAddr_sl (hT : TOK P T) (hG : HR ρ D N M G w) (hev : EvOK a ρ D ev) {t : TypeId} {x i : Operand} (hop : o.op = .indexAddr t x i) {ty : Ty} (ht : look T t = some ty) {e : TypeId} (hu : ty.u = .sl e) {te : Ty} (he : look T e = some te) {sv : SV} (hx : ev x = some sv) {sym : Bool} {id off m : Nat} {b : Blk} {p1 : Asm} (hrow : rowOf sym G sv = some (id, off, m, b, p1)) (hp1 : p1.holds) {s : SV} (hi : ev i = some s) {j : Nat} {p q : Asm} (hj : natOf sym (m - 1) s = some (j, p)) (hp : p.holds) (hm : 1 ≤ m) :
    Sn P o a w ρ D N M G base { val := .av (.one (.p id (plusO off (mulO j te.size)))), asm := q } := by
  have hun : P.underlying t = some (.slice e) := by have := (hT t ty ht).und; rw [hu] at this; exact this
  obtain ⟨k, z, hz, h0, hzj, hle⟩ := natOf_spec (ρ := ρ) hj hp
  obtain ⟨hb, hlen, ad, cap, hconc, hpos⟩ := rowOf_spec hrow hp1 hG
  obtain ⟨y, hy, rfl⟩ := hpos (by omega)
  refine sn_same hG (s := Instr.indexAt t (a.eval x) (a.eval i)) (by unfold execOp; rw [hop]; rfl) ?_ rfl rfl
  rw [(hev x _ hx).1, (hev i _ hi).1, hz, hconc, conc_p, hy]
  have hlt : 0 ≤ z ∧ z < (m : Int) := by omega
  simp only [Option.map_some, Instr.indexAt, asIntOf, Sem.run_bind, Sem.run_pure, Result.andThen_ok, run_underlying hun, if_pos hlt, (hT e te he).run_size, hzj, add_add, plusO_eq, mulO_eq]
theorem s_fieldAddr (hT : TOK P T) (hG : HR ρ D N M G w) (hev : EvOK a ρ D ev) {t : TypeId} {x : Operand} {f : Nat} (hop : o.op = .fieldAddr t x f) {ty : Ty} (ht : look T t = some ty) {fs : List (Nat × TypeId)} (hu : ty.u = .st fs) {id off : Nat} (hx : ev x = some (.av (.one (.p id off)))) {b : Blk} (hb : G id = some b) (hk : hasA b = true) {o' n : Nat} (hpl : place T (.st fs) f = some (o', n)) (hn : 1 ≤ n) :
    Sn P o a w ρ D N M G base { val := .av (.one (.p id (off + o'))) } := by
  have hun : UOK P t (.st fs) := by have := (hT t ty ht).und; rw [hu] at this; exact this
  obtain ⟨fields, hd, hfs, pls, hpls⟩ := hun
  have hp := place_st hT hfs hpls hpl
  obtain ⟨u, ha⟩ := (hG.blk id b hb).2.2.hasA hk
  -- the field itself
  simp only [place] at hpl
  split at hpl
  · rename_i off' t' hft
    rw [hfs, List.getElem?_map, Option.map_eq_some_iff] at hft
    obtain ⟨fl, hfl, hft⟩ := hft
    simp only [Prod.mk.injEq] at hft
    obtain ⟨rfl, rfl⟩ := hft
    split at hpl
    · rename_i ty' hty'
      simp only [Option.some.injEq, Prod.mk.injEq] at hpl
      obtain ⟨rfl, rfl⟩ := hpl
      refine sn_same hG (s := Instr.fieldAt t (a.eval x) f) (by unfold execOp; rw [hop]; rfl) ?_ rfl rfl
      rw [(hev x _ hx).1, conc_p, conc_p, ha]
      have hfl' : fields[f]? = some fl := by simpa using hfl
      have hsz := (hT _ _ hty').run_size (w := w)
      simp only [Option.map_some, Instr.fieldAt, Sem.run_bind, Sem.run_pure, Result.andThen_ok, run_underlying hd, hfl', Instr.sureAddr, fieldPlace, hsz]
      rw [if_neg (by omega)]
      simp only [Sem.run_pure, Result.andThen_ok, add_add]
    · cases hpl
  · cases hpl
theorem s_arrPtr (hT : TOK P T) (hG : HR ρ D N M G w) (hev : EvOK a ρ D ev) {t : TypeId} {x : Operand} (hop : o.op = .sliceToArrayPointer t x) {ty : Ty} (ht : look T t = some ty) {n : Nat} {e : TypeId} (hu : ty.u = .arr n e) {sv : SV} (hx : ev x = some sv) {sym : Bool} {id off m : Nat} {b : Blk} {p1 q : Asm} (hrow : rowOf sym G sv = some (id, off, m, b, p1)) (hp1 : p1.holds) (hnm : n ≤ m) (hn : 1 ≤ n) :
    Sn P o a w ρ D N M G base { val := .av (.one (.p id off)), asm := q } := by
  have hun : P.underlying t = some (.array n e) := by have := (hT t ty ht).und; rw [hu] at this; exact this
  obtain ⟨hb, hlen, ad, cap, hconc, hpos⟩ := rowOf_spec hrow hp1 hG
  obtain ⟨y, hy, rfl⟩ := hpos (by omega)
  refine sn_same hG (s := Instr.arrayAt t (a.eval x)) (by unfold execOp; rw [hop]; rfl) ?_ rfl rfl
  rw [(hev x _ hx).1, hconc, conc_p, hy]
  simp only [Option.map_some, Instr.arrayAt, Sem.run_bind, Sem.run_pure, Result.andThen_ok, run_underlying hun]
  rw [if_neg (by omega)]
  rfl
omit [GT] in
theorem part_agg {t : TypeId} {ty : Ty} (hty : TyOK P t ty) (hagg : ty.u.agg = true) {c l : List Seg} {off : Nat} (hl : getSegs c off ty.size = some l) : (part t (segsVals ρ c).toArray off).run P w = .ok (.agg (segsVals ρ l).toArray) w := by
  obtain ⟨e1, _⟩ := getSegs_spec ρ hl
  simp only [part, Sem.run_bind, hty.agg, hagg, if_true, Result.andThen_ok, hty.run_size, Sem.run_pure]
  rw [e1]
  congr 2
  rw [← Array.toList_inj, Array.toList_extract]
  simp [List.extract_eq_take_drop]
omit [GT] in
theorem part_one {t : TypeId} {ty : Ty} (hty : TyOK P t ty) (hagg : ty.u.agg = false) {c : List Seg} {off : Nat} {u : Value} (hl : (segsVals ρ c)[off]? = some u) : (part t (segsVals ρ c).toArray off).run P w = .ok u w := by
  have : (segsVals ρ c).toArray[off]? = some u := by simpa using hl
  simp [part, hty.agg, hagg, this]
theorem readAt_spec {t : TypeId} {ty : Ty} (hty : TyOK P t ty) {sym : Bool} {c : List Seg} {off : Nat} {s : SV} {p : Asm} (h : readAt ty sym c off = some (s, p)) (hp : p.holds) : (part t (segsVals ρ c).toArray off).run P w = .ok (s.conc ρ) w ∧ (ty.u.agg = false → (segsVals ρ c)[off]? = some (s.conc ρ)) ∧ (ty.u.agg = true → ∃ l, getSegs c off ty.size = some l ∧ s = .av (mkAgg l) ∧ 1 ≤ ty.size) := by
  unfold readAt at h
  split at h
  · rename_i hagg
    split at h
    · rename_i l hl hle
      simp only [Option.some.injEq, Prod.mk.injEq] at h
      obtain ⟨rfl, _⟩ := h
      rw [conc_av, mkAgg_conc]
      exact ⟨part_agg hty hagg hl, (fun h => by rw [hagg] at h; cases h), fun _ => ⟨l, hl, rfl, Nat.le_of_ble_eq_true hle⟩⟩
    · cases h
  · rename_i hagg
    have key : (segsVals ρ c)[off]? = some (s.conc ρ) → _ := fun hh => (⟨part_one hty hagg hh, fun _ => hh, (fun h => by rw [hagg] at h; cases h)⟩ : (part t (segsVals ρ c).toArray off).run P w = .ok (s.conc ρ) w ∧ (ty.u.agg = false → (segsVals ρ c)[off]? = some (s.conc ρ)) ∧ (ty.u.agg = true → ∃ l, getSegs c off ty.size = some l ∧ s = .av (mkAgg l) ∧ 1 ≤ ty.size))
    split at h
    · split at h
      · rename_i k zs
        simp only [Option.some.injEq, Prod.mk.injEq] at h
        obtain ⟨rfl, rfl⟩ := h
        refine key ?_
        rw [segsVals_one]
        have hp' : off < zs.length := hp
        simp [Seg.vals, ofV, SV.conc, AV.conc, Seg.conc, List.getElem?_eq_getElem hp', List.getD_eq_getElem?_getD]
      · rename_i k F n
        simp only [Option.some.injEq, Prod.mk.injEq] at h
        obtain ⟨rfl, rfl⟩ := h
        refine key ?_
        rw [segsVals_one]
        have hp' : off < (F n).length := hp
        simp [Seg.vals, ofV, SV.conc, AV.conc, Seg.conc, List.getElem?_eq_getElem hp', List.getD_eq_getElem?_getD]
      · rename_i m
        simp only [Option.some.injEq, Prod.mk.injEq] at h
        obtain ⟨rfl, rfl⟩ := h
        refine key ?_
        rw [segsVals_one]
        have hp' : off < 4 := hp
        match off, hp' with
        | 0, _ | 1, _ | 2, _ | 3, _ => rfl
      · cases h
    · split at h
      · rename_i x hx
        simp only [Option.some.injEq, Prod.mk.injEq] at h
        obtain ⟨rfl, _⟩ := h
        exact key (cell_spec ρ c off x hx)
      · cases h
theorem s_index (hT : TOK P T) (hG : HR ρ D N M G w) (hev : EvOK a ρ D ev) {t : TypeId} {x i : Operand} (hop : o.op = .index t x i) {ty : Ty} (ht : look T t = some ty) {n : Nat} {e : TypeId} (hu : ty.u = .arr n e) {te : Ty} (he : look T e = some te) {b : AV} (hx : ev x = some (.av b)) (hok : segsOk b.segs = true) {s : SV} (hi : ev i = some s) {sym : Bool} {j : Nat} {p p' q : Asm} (hj : natOf sym (n - 1) s = some (j, p)) (hp : p.holds) (hn : 1 ≤ n) {v : SV} (hr : readAt te sym b.segs (mulO j te.size) = some (v, p')) (hp' : p'.holds) (hagg : ∃ cs, b.conc ρ = .agg cs) :
    Sn P o a w ρ D N M G base { val := v, asm := q } := by
  rw [mulO_eq] at hr
  have hun : P.underlying t = some (.array n e) := by have := (hT t ty ht).und; rw [hu] at this; exact this
  obtain ⟨k, z, hz, h0, hzj, hle⟩ := natOf_spec (ρ := ρ) hj hp
  obtain ⟨cs, hcs⟩ := hagg
  have hcells := AV.cells ρ hok
  rw [hcs] at hcells
  have hcells' : cs = (segsVals ρ b.segs).toArray := hcells
  refine sn_same hG (s := Instr.index t (a.eval x) (a.eval i)) (by unfold execOp; rw [hop]; rfl) ?_ rfl rfl
  rw [(hev x _ hx).1, (hev i _ hi).1, hz, conc_av, hcs, hcells']
  have hlt : 0 ≤ z ∧ z < (n : Int) := by omega
  simp only [Instr.index, asIntOf, Sem.run_bind, Sem.run_pure, Result.andThen_ok, run_underlying hun, if_pos hlt, (hT e te he).run_size, hzj]
  exact (readAt_spec (hT e te he) hr hp').1
theorem s_field (hT : TOK P T) (hG : HR ρ D N M G w) (hev : EvOK a ρ D ev) {t : TypeId} {x : Operand} {f : Nat} (hop : o.op = .field t x f) {ty : Ty} (ht : look T t = some ty) {fs : List (Nat × TypeId)} (hu : ty.u = .st fs) {b : AV} (hx : ev x = some (.av b)) (hok : segsOk b.segs = true) {off : Nat} {t' : TypeId} (hf : fs[f]? = some (off, t')) {ty' : Ty} (ht' : look T t' = some ty') {v : SV} {p' : Asm} (hr : readAt ty' false b.segs off = some (v, p')) (hp' : p'.holds) (hagg : ∃ cs, b.conc ρ = .agg cs) {q : Asm} :
    Sn P o a w ρ D N M G base { val := v, asm := q } := by
  have hun : UOK P t (.st fs) := by have := (hT t ty ht).und; rw [hu] at this; exact this
  obtain ⟨fields, hd, hfs, pls, hpls⟩ := hun
  rw [hfs, List.getElem?_map, Option.map_eq_some_iff] at hf
  obtain ⟨fl, hfl, hft⟩ := hf
  simp only [Prod.mk.injEq] at hft
  obtain ⟨rfl, rfl⟩ := hft
  obtain ⟨cs, hcs⟩ := hagg
  have hcells := AV.cells ρ hok
  rw [hcs] at hcells
  have hcells' : cs = (segsVals ρ b.segs).toArray := hcells
  refine sn_same hG (s := Instr.field t (a.eval x) f) (by unfold execOp; rw [hop]; rfl) ?_ rfl rfl
  rw [(hev x _ hx).1, conc_av, hcs, hcells']
  have hfl' : fields[f]? = some fl := by simpa using hfl
  simp only [Instr.field, Sem.run_bind, Sem.run_pure, Result.andThen_ok, run_underlying hd, hfl', asAgg]
  exact (readAt_spec (hT _ ty' ht') hr hp').1

end
end Go.Proofs.YtpefomdegbmecaaDoor.Am
/- The abstract machine: operation by operation: slices of slices, slices made. Conditions: none. -/
namespace Go.Proofs.YtpefomdegbmecaaDoor.Am
set_option linter.unusedVariables false
set_option linter.unusedSimpArgs false
open Go Go.RowKit
open Rg (gives)

section
variable {P : Program} {T : List (Nat × Ty)} {ρ : Nat → Loc} {D : Nat → Prop} {N : Nat} {M : List Nat} {G : Nat → Option Blk} {base : Nat} {w : World} {o : Oper} {a : Act} {ev : Operand → Option SV}
variable [GT]

omit [GT] in
theorem run_bound {k : IntKind} {z : Int} {n y : Nat} {code : BoundsCode} (h0 : 0 ≤ z) (hn : z.toNat = n) (hy : n ≤ y) : (Instr.sliceBound (.int k z) y code).run P w = .ok n w := by
  simp only [Instr.sliceBound, asIntOf, Sem.run_bind, Sem.run_pure, Result.andThen_ok]
  rw [if_pos ⟨h0, by omega⟩, hn]
  rfl
omit [GT] in
def mcap : Option SV → Nat → Nat → Nat
  | none, c, _ => c
  | some _, _, m => m
theorem bnds_spec {sym sl : Bool} {len cap l h m : Nat} {lo hi mx : Option SV} {p : Asm} (hb : bnds sym len cap lo hi mx = some (l, h, m, p)) (hp : p.holds) (hlc : len ≤ cap) {cap' : Nat} (hcc : cap ≤ cap') :
    (Instr.sliceBounds sl len cap' (lo.map (SV.conc ρ)) (hi.map (SV.conc ρ)) (mx.map (SV.conc ρ))).run P w = .ok (l, h, mcap mx cap' m) w ∧ l ≤ h ∧ h ≤ m ∧ m ≤ cap ∧ (mx = none → m = cap) := by
  cases mx with
  | some v =>
    cases hi with
    | none =>
      simp only [bnds] at hb
      split at hb
      · rename_i h2; cases h2
      · cases hb
    | some u =>
      simp only [bnds] at hb
      cases h1 : natOf sym cap v with
      | none => simp [h1] at hb
      | some x1 =>
        obtain ⟨m', p1⟩ := x1
        cases h2 : natOf sym m' u with
        | none => simp [h1, h2] at hb
        | some x2 =>
          obtain ⟨h', p2⟩ := x2
          simp only [h1, h2] at hb
          cases lo with
          | none =>
            simp only [Option.some.injEq, Prod.mk.injEq] at hb
            obtain ⟨rfl, rfl, rfl, rfl⟩ := hb
            obtain ⟨k1, z1, e1, n1, t1, le1⟩ := natOf_spec (ρ := ρ) h1 hp.1
            obtain ⟨k2, z2, e2, n2, t2, le2⟩ := natOf_spec (ρ := ρ) h2 hp.2
            refine ⟨?_, Nat.zero_le _, le2, le1, fun h => by cases h⟩
            simp only [Option.map_some, Option.map_none, e1, e2, Instr.sliceBounds, Sem.run_bind, run_bound n1 t1 (Nat.le_trans le1 hcc), run_bound n2 t2 le2, Result.andThen_ok, mcap]
            rfl
          | some z =>
            cases h3 : natOf sym h' z with
            | none => simp [h3] at hb
            | some x3 =>
              obtain ⟨l', p3⟩ := x3
              simp only [h3, Option.some.injEq, Prod.mk.injEq] at hb
              obtain ⟨rfl, rfl, rfl, rfl⟩ := hb
              obtain ⟨k1, z1, e1, n1, t1, le1⟩ := natOf_spec (ρ := ρ) h1 hp.1
              obtain ⟨k2, z2, e2, n2, t2, le2⟩ := natOf_spec (ρ := ρ) h2 hp.2.1
              obtain ⟨k3, z3, e3, n3, t3, le3⟩ := natOf_spec (ρ := ρ) h3 hp.2.2
              refine ⟨?_, le3, le2, le1, fun h => by cases h⟩
              simp only [Option.map_some, e1, e2, e3, Instr.sliceBounds, Sem.run_bind, run_bound n1 t1 (Nat.le_trans le1 hcc), run_bound n2 t2 le2, run_bound n3 t3 le3, Result.andThen_ok, mcap]
              rfl
  | none =>
    cases hi with
    | some u =>
      simp only [bnds] at hb
      cases h2 : natOf sym cap u with
      | none => simp [h2] at hb
      | some x2 =>
        obtain ⟨h', p2⟩ := x2
        simp only [h2] at hb
        cases lo with
        | none =>
          simp only [Option.some.injEq, Prod.mk.injEq] at hb
          obtain ⟨rfl, rfl, rfl, rfl⟩ := hb
          obtain ⟨k2, z2, e2, n2, t2, le2⟩ := natOf_spec (ρ := ρ) h2 hp
          refine ⟨?_, Nat.zero_le _, le2, Nat.le_refl _, fun _ => rfl⟩
          simp only [Option.map_some, Option.map_none, e2, Instr.sliceBounds, Sem.run_bind, Sem.run_pure, run_bound n2 t2 (Nat.le_trans le2 hcc), Result.andThen_ok, mcap]
        | some z =>
          cases h3 : natOf sym h' z with
          | none => simp [h3] at hb
          | some x3 =>
            obtain ⟨l', p3⟩ := x3
            simp only [h3, Option.some.injEq, Prod.mk.injEq] at hb
            obtain ⟨rfl, rfl, rfl, rfl⟩ := hb
            obtain ⟨k2, z2, e2, n2, t2, le2⟩ := natOf_spec (ρ := ρ) h2 hp.1
            obtain ⟨k3, z3, e3, n3, t3, le3⟩ := natOf_spec (ρ := ρ) h3 hp.2
            refine ⟨?_, le3, le2, Nat.le_refl _, fun _ => rfl⟩
            simp only [Option.map_some, Option.map_none, e2, e3, Instr.sliceBounds, Sem.run_bind, Sem.run_pure, run_bound n2 t2 (Nat.le_trans le2 hcc), run_bound n3 t3 le3, Result.andThen_ok, mcap]
    | none =>
      simp only [bnds] at hb
      cases lo with
      | none =>
        simp only [Option.some.injEq, Prod.mk.injEq] at hb
        obtain ⟨rfl, rfl, rfl, rfl⟩ := hb
        refine ⟨?_, Nat.zero_le _, hlc, Nat.le_refl _, fun _ => rfl⟩
        simp only [Option.map_none, Instr.sliceBounds, Sem.run_bind, Sem.run_pure, Result.andThen_ok, mcap]
      | some z =>
        cases h3 : natOf sym len z with
        | none => simp [h3] at hb
        | some x3 =>
          obtain ⟨l', p3⟩ := x3
          simp only [h3, Option.some.injEq, Prod.mk.injEq] at hb
          obtain ⟨rfl, rfl, rfl, rfl⟩ := hb
          obtain ⟨k3, z3, e3, n3, t3, le3⟩ := natOf_spec (ρ := ρ) h3 hp
          refine ⟨?_, le3, hlc, Nat.le_refl _, fun _ => rfl⟩
          simp only [Option.map_some, Option.map_none, e3, Instr.sliceBounds, Sem.run_bind, Sem.run_pure, run_bound n3 t3 le3, Result.andThen_ok, mcap]

omit [GT] in
theorem slice_exec {t : TypeId} {x : Operand} {lo hi mx : Option Operand} (hop : o.op = .slice t x lo hi mx) : execOp a.eval o = (Instr.sliceAt t (a.eval x) (lo.map a.eval) (hi.map a.eval) (mx.map a.eval)).bind fun z => .pure (.value z) := by
  unfold execOp; rw [hop]; rfl
omit [GT] in
/-- What slicing a slice comes to, in the model. -/
theorem sliceAt_sl {t e : TypeId} {te : Ty} (hun : P.underlying t = some (.slice e)) (hte : TyOK P e te) {ad : Option Addr} {len cap l h m : Nat} {lo hi mx : Option Value} (hb : (Instr.sliceBounds true len cap lo hi mx).run P w = .ok (l, h, m) w) :
    (Instr.sliceAt t (.slice ad len cap) lo hi mx).run P w = .ok (.slice (if m = l then ad else ad.map (·.add (l * te.size))) (h - l) (m - l)) w := by
  simp only [Instr.sliceAt, Instr.slice, Sem.run_bind, run_underlying hun, Result.andThen_ok, hb, hte.run_size, Sem.run_pure]
omit [GT] in
theorem sliceAt_arr {t e : TypeId} {n : Nat} {te : Ty} (hun : P.underlying t = some (.array n e)) (hte : TyOK P e te) {ad : Addr} {l h m : Nat} {lo hi mx : Option Value} (hb : (Instr.sliceBounds false n n lo hi mx).run P w = .ok (l, h, m) w) :
    (Instr.sliceAt t (.pointer (some ad)) lo hi mx).run P w = .ok (.slice (some (if m = l then ad else ad.add (l * te.size))) (h - l) (m - l)) w := by
  simp only [Instr.sliceAt, Instr.sureAddr, Sem.run_bind, run_underlying hun, Result.andThen_ok, hb, hte.run_size, Sem.run_pure]
omit [GT] in
theorem map_add (ad : Option Addr) (m n : Nat) : (ad.map (·.add m)).map (·.add n) = ad.map (·.add (m + n)) := by
  cases ad <;> simp [add_add]
theorem sliceOf_spec (hG : HR ρ D N M G w) {t e : TypeId} {te : Ty} (hte : TyOK P e te) {sym : Bool} {x : SV} {lo hi mx : Option SV} {n : Nat} {r : Res} (h : sliceOf sym te.size G x lo hi mx n = some r) (hp : r.asm.holds) (hun : (∃ id off, x = .av (.one (.p id off)) ∧ P.underlying t = some (.array n e)) ∨ ((∀ id off, x ≠ .av (.one (.p id off))) ∧ P.underlying t = some (.slice e))) :
    (Instr.sliceAt t (x.conc ρ) (lo.map (SV.conc ρ)) (hi.map (SV.conc ρ)) (mx.map (SV.conc ρ))).run P w = .ok (r.val.conc ρ) w ∧ r.new = [] ∧ r.upd = [] := by
  have hsl : (∀ id off, x ≠ .av (.one (.p id off))) → P.underlying t = some (.slice e) := fun hx => by
    rcases hun with ⟨id, off, rfl, _⟩ | h
    · exact absurd rfl (hx id off)
    · exact h.2
  unfold sliceOf at h
  split at h
  · rename_i id off
    have hun' : P.underlying t = some (.array n e) := by
      rcases hun with ⟨_, _, _, h⟩ | h
      · exact h
      · exact absurd rfl (h.1 id off)
    split at h
    · rename_i b hb
      split at h
      · rename_i l h' m p hA hbn
        simp only [Option.some.injEq] at h
        subst h
        obtain ⟨u, ha⟩ := (hG.blk id _ hb).2.2.hasA hA
        obtain ⟨hrun, h1, h2, h3, h4⟩ := bnds_spec (P := P) (ρ := ρ) (w := w) (sl := false) hbn hp (Nat.le_refl _) (Nat.le_refl _)
        have hm : mcap mx n m = m := by
          cases mx
          · exact (h4 rfl).symm
          · rfl
        rw [hm] at hrun
        refine ⟨?_, rfl, rfl⟩
        rw [conc_p, ha]
        simp only [Option.map_some]
        rw [sliceAt_arr hun' hte hrun]
        simp only [SV.conc, AV.conc, Seg.conc, ha, Option.map_some, slOff_eq _ _ _ _ _ h2]
        by_cases hml : m = l
        · rw [if_pos hml, if_pos hml]
        · rw [if_neg hml, if_neg hml, add_add]
      · cases h
    · cases h
  · split at h
    · rename_i l h' m p hbn
      simp only [Option.some.injEq] at h
      subst h
      obtain ⟨hrun, h1, h2, h3, h4⟩ := bnds_spec (P := P) (ρ := ρ) (w := w) (sl := true) hbn hp (Nat.le_refl _) (Nat.le_refl _)
      refine ⟨?_, rfl, rfl⟩
      have := sliceAt_sl (ad := none) (hsl (by simp)) hte hrun
      refine this.trans ?_
      have e1 : h' - l = 0 := by omega
      have e2 : mcap mx 0 m - l = 0 := by cases mx <;> simp only [mcap] <;> omega
      rw [e1, e2]
      simp only [Option.map_none, ite_self]
      rfl
    · cases h
  · rename_i id off len cap
    split at h
    · rename_i l h' m p p0 hbn hw
      simp only [Option.some.injEq] at h
      subst h
      have hlc := within_spec hw hp.1
      obtain ⟨hrun, h1, h2, h3, h4⟩ := bnds_spec (P := P) (ρ := ρ) (w := w) (sl := true) hbn hp.2 hlc (Nat.le_refl _)
      have hm : mcap mx cap m = m := by
        cases mx
        · exact (h4 rfl).symm
        · rfl
      rw [hm] at hrun
      refine ⟨?_, rfl, rfl⟩
      have := sliceAt_sl (ad := (ρ id).a.map (·.add off)) (hsl (by simp)) hte hrun
      refine this.trans ?_
      simp only [SV.conc, AV.conc, Seg.conc, slOff_eq _ _ _ _ _ h2]
      by_cases hml : m = l
      · rw [if_pos hml, if_pos hml]
      · rw [if_neg hml, if_neg hml, map_add]
    · cases h
  · rename_i id off len ad
    split at h
    · rename_i b hb
      have hbk := (hG.blk id b hb).2.2
      have hcap : 1 ≤ b.k → widths b.c ≤ (ρ id).cap := by
        intro hk
        rw [← segsVals_len ρ]
        obtain ⟨k, bty, bc⟩ := b
        match k, hk, hbk with
        | 1, _, hbk =>
          rcases hbk.2 with ⟨hv, hn⟩ | ⟨g, cap, cur, hv, _, _, hnc, _⟩
          · simp only at hn ⊢; omega
          · injection hv with _ _ hv; simp only at hnc ⊢; omega
        | k + 2, _, hbk => exact hbk.low.1
      have hrad : ∀ {q : Nat}, off < q → q ≤ (ρ id).cap → radr (ρ id) off ad = (ρ id).a.map (·.add off) := fun h1 h2 => by
        unfold radr; rw [if_neg (by omega)]
      split at h
      · rename_i p0 hk hsz hw
        have hk := hcap (Nat.le_of_ble_eq_true hk)
        have hsz := Nat.eq_of_beq_eq_true hsz
        split at h
        · rename_i l h' m p hbn
          simp only [Option.some.injEq] at h
          subst h
          have hlc := within_spec hw hp.1
          obtain ⟨hrun, h1, h2, h3, h4⟩ := bnds_spec (P := P) (ρ := ρ) (w := w) (sl := true) hbn hp.2 (by omega) (show widths b.c - off ≤ (ρ id).cap - off by omega)
          simp only [mcap] at hrun
          refine ⟨?_, rfl, rfl⟩
          have := sliceAt_sl (ad := radr (ρ id) off ad) (hsl (by simp)) hte hrun
          refine this.trans ?_
          simp only [SV.conc, AV.conc, Seg.conc, plusO_eq]
          have e : (ρ id).cap - off - l = (ρ id).cap - (off + l) := by omega
          rw [e, hsz, Nat.mul_one]
          congr 2
          by_cases hl0 : l = 0
          · subst hl0
            have : (radr (ρ id) off ad).map (·.add 0) = radr (ρ id) off ad := by
              cases radr (ρ id) off ad <;> simp [Addr.add]
            rw [this, ite_self, if_pos rfl]
            rfl
          · rw [if_neg hl0, hrad (q := off + l) (by omega) (by omega), map_add]
            unfold radr
            by_cases hml : (ρ id).cap - off = l
            · rw [if_pos hml, if_pos (by omega)]
            · rw [if_neg hml, if_neg (by omega)]
        · cases h
      · rename_i p0 v hk hsz hw
        have hk := hcap (Nat.le_of_ble_eq_true hk)
        split at h
        · rename_i h' m p hbn
          split at h
          · rename_i p1 hw1
            simp only [Option.some.injEq] at h
            subst h
            have hlc := within_spec hw hp.1
            have hm1 := within_spec hw1 hp.2.2
            obtain ⟨hrun, h1, h2, h3, h4⟩ := bnds_spec (P := P) (ρ := ρ) (w := w) (sl := true) hbn hp.2.1 (by omega) (show widths b.c - off ≤ (ρ id).cap - off by omega)
            simp only [mcap] at hrun
            refine ⟨?_, rfl, rfl⟩
            have := sliceAt_sl (ad := radr (ρ id) off ad) (hsl (by simp)) hte hrun
            refine this.trans ?_
            simp only [SV.conc, AV.conc, Seg.conc]
            rw [if_neg (by omega), hrad (q := off + m) (by omega) (by omega), map_add]
            simp
          · cases h
        · cases h
      · cases h
    · cases h
  · cases h

end
end Go.Proofs.YtpefomdegbmecaaDoor.Am
/- The abstract machine: operation by operation: arrays held against each other, slices made, what is built in. Conditions: none. -/
namespace Go.Proofs.YtpefomdegbmecaaDoor.Am
set_option linter.unusedVariables false
set_option linter.unusedSimpArgs false
open Go Go.RowKit
open Rg (gives)

section
variable {P : Program} {T : List (Nat × Ty)} {ρ : Nat → Loc} {D : Nat → Prop} {N : Nat} {M : List Nat} {G : Nat → Option Blk} {base : Nat} {w : World} {o : Oper} {a : Act} {ev : Operand → Option SV}
variable [GT]

omit [GT] in
theorem eqGuard_agg {op : BinOp} {t : TypeId} {x y : Operand} {u v : Array Value} (h : P.eqGuardType P.depth t = false) : (eqGuard op t x y (.agg u) (.agg v)).run P w = .ok () w := by
  unfold eqGuard
  cases op <;> simp [h]
theorem s_arrEq (hT : TOK P T) (hG : HR ρ D N M G w) (hev : EvOK a ρ D ev) {op : BinOp} {t t' : TypeId} {x y : Operand} (hop : o.op = .binOp op t x y t') {sx sy : SV} (hx : ev x = some sx) (hy : ev y = some sy) {k : IntKind} {u v : List Int} (hu : sx.conc ρ = .agg (u.map (Value.int k)).toArray) (hv : sy.conc ρ = .agg (v.map (Value.int k)).toArray) {ty : Ty} (ht : look T t = some ty) {n : Nat} {e : TypeId} (hua : ty.u = .arr n e) (hk : ty.eqk = some k) (hun : u.length = n) (hvn : v.length = n) {q : Asm} (b : Bool) (hb : op = .eql ∧ b = (u == v) ∨ op = .neq ∧ b = !(u == v)) : Sn P o a w ρ D N M G base { val := ofV (.bool b), asm := q } := by
  have hty := hT t ty ht
  obtain ⟨hg, n', e', i, hua', he, hpk, hi, hs⟩ := hty.eqk k hk
  rw [hua] at hua'
  injection hua' with e1 e2
  subst e1 e2
  have htu : P.underlying t = some (.array n e) := by have := hty.und; rw [hua] at this; exact this
  refine sn_same hG (bin_exec hop) ?_ rfl rfl
  rw [(hev x _ hx).1, (hev y _ hy).1, hu, hv]
  change ((eqGuard op t x y _ _) >>= fun _ => Go.binOp op t _ _).run P w = .ok (.bool b) w
  rw [Sem.run_bind, eqGuard_agg hg]
  simp only [Result.andThen_ok]
  rcases hb with ⟨rfl, rfl⟩ | ⟨rfl, rfl⟩
  · exact run_eql_arr w t e n k u v htu he hpk hi hs hun hvn
  · exact run_neq_arr w t e n k u v htu he hpk hi hs hun hvn
omit [GT] in
theorem run_eqOne (hT : TOK P T) {t : TypeId} {ty : Ty} (ht : look T t = some ty) {x y u v : List Seg} {off : Nat} (hu : getSegs x off ty.size = some u) (hv : getSegs y off ty.size = some v) {b : Bool} (h : eqOne ty u v = some b) :
    ∃ p q, (part t (segsVals ρ x).toArray off).run P w = .ok p w ∧ (part t (segsVals ρ y).toArray off).run P w = .ok q w ∧ (Op.equalIn 9999 t p q).run P w = .ok b w := by
  have hty := hT t ty ht
  unfold eqOne at h
  split at h
  · rename_i kk hk
    split at h
    · rename_i k a k' c
      split at h
      · rename_i hkk
        have := ik_inj hkk
        subst this
        simp only [Option.some.injEq] at h
        subst h
        have hun : P.underlying t = some (.int kk) := by have := hty.und; rw [hk] at this; exact this
        have hagg : ty.u.agg = false := by rw [hk]; rfl
        have hd : ∀ {z : List Seg} {n : Int}, getSegs z off ty.size = some [.v (.int k n)] → (segsVals ρ z)[off]? = some (.int k n) := by
          intro z n hz
          obtain ⟨e1, e2⟩ := getSegs_spec ρ hz
          have e3 : segsVals ρ [.v (.int k n)] = [Value.int k n] := rfl
          rw [e3] at e1 e2
          have e4 := congrArg (·[0]?) e1
          simp only [List.getElem?_cons_zero, List.getElem?_take, List.getElem?_drop, Nat.add_zero] at e4
          split at e4
          · exact e4.symm
          · cases e4
        exact ⟨_, _, part_one hty hagg (hd hu), part_one hty hagg (hd hv), run_equalIn_int w 9998 t k kk a c hun⟩
      · cases h
    · cases h
  · rename_i n e hk
    have hagg : ty.u.agg = true := by rw [hk]; rfl
    have hp := part_agg (P := P) (ρ := ρ) (w := w) hty hagg hu
    have hq := part_agg (P := P) (ρ := ρ) (w := w) hty hagg hv
    have key : ∀ {q : IntKind} {zx zy : List Int}, ty.eqk = some q → segsVals ρ u = zx.map (Value.int q) → segsVals ρ v = zy.map (Value.int q) → zx.length = n → zy.length = n → (Op.equalIn 9999 t (.agg (segsVals ρ u).toArray) (.agg (segsVals ρ v).toArray)).run P w = .ok (zx == zy) w := by
      intro q zx zy hq' e1 e2 l1 l2
      obtain ⟨_, n', e', i, hua', he, hpk, hi, hs⟩ := hty.eqk q hq'
      rw [hk] at hua'
      injection hua' with e3 e4
      subst e3 e4
      have htu : P.underlying t = some (.array n e) := by have := hty.und; rw [hk] at this; exact this
      rw [e1, e2]
      exact eq_arr w 9997 t e n q zx zy htu he hpk hi hs l1 l2
    split at h
    · rename_i a c hq'
      split at h
      · rename_i h4
        have h4' := Nat.eq_of_beq_eq_true h4
        subst h4'
        simp only [Option.some.injEq] at h
        subst h
        exact ⟨_, _, hp, hq, key hq' (zx := words a) (zy := words c) (by rw [segsVals_one]; rfl) (by rw [segsVals_one]; rfl) rfl rfl⟩
      · cases h
    · rename_i q hq' _
      split at h
      · rename_i zx zy h1 h2
        split at h
        · rename_i hl
          rw [Bool.and_eq_true] at hl
          simp only [Option.some.injEq] at h
          subst h
          exact ⟨_, _, hp, hq, key hq' (intsOf_spec ρ _ _ h1) (intsOf_spec ρ _ _ h2) (Nat.eq_of_beq_eq_true hl.1) (Nat.eq_of_beq_eq_true hl.2)⟩
        · cases h
      · cases h
    · cases h
  · cases h
omit [GT] in
theorem run_eqFs (hT : TOK P T) {x y : List Seg} : ∀ (fields : List Field) (b : Bool), (fields.all fun f => f.name != "_") = true → eqFs T x y (fields.map fun f => (f.offset, f.type)) = some b → (Op.eqFields 9999 (segsVals ρ x).toArray (segsVals ρ y).toArray fields).run P w = .ok b w
  | [], b, _, h => by
    simp only [List.map_nil, eqFs, Option.some.injEq] at h
    subst h
    rfl
  | f :: fs, b, hn, h => by
    rw [List.all_cons, Bool.and_eq_true] at hn
    simp only [List.map_cons, eqFs] at h
    split at h
    · rename_i ty ht
      split at h
      · rename_i u v hu hv
        split at h
        · rename_i b1 b2 h1 h2
          simp only [Option.some.injEq] at h
          subst h
          obtain ⟨p, q, e1, e2, e3⟩ := run_eqOne (P := P) (ρ := ρ) (w := w) hT ht hu hv h1
          have hne : f.name ≠ "_" := by simpa using hn.1
          have ih := run_eqFs hT fs b2 hn.2 h2
          simp only [Op.eqFields, if_pos hne, Sem.run_bind, e1, e2, e3, Result.andThen_ok]
          cases b1
          · rfl
          · simp only [Bool.not_true, Bool.false_eq_true, if_false, Bool.true_and]
            exact ih
        · cases h
      · cases h
    · cases h
theorem s_stEq (hT : TOK P T) (hG : HR ρ D N M G w) (hev : EvOK a ρ D ev) {op : BinOp} {t t' : TypeId} {x y : Operand} (hop : o.op = .binOp op t x y t') {sx sy : SV} (hx : ev x = some sx) (hy : ev y = some sy) {u v : List Seg} (hu : sx.conc ρ = .agg (segsVals ρ u).toArray) (hv : sy.conc ρ = .agg (segsVals ρ v).toArray) {ty : Ty} (ht : look T t = some ty) {fs : List (Nat × TypeId)} (hua : ty.u = .st fs) (hk : ty.eqs = true) {e : Bool} (he : eqFs T u v fs = some e) {q : Asm} (b : Bool) (hb : op = .eql ∧ b = e ∨ op = .neq ∧ b = !e) : Sn P o a w ρ D N M G base { val := ofV (.bool b), asm := q } := by
  have hty := hT t ty ht
  obtain ⟨hg, hsi, hnm⟩ := hty.eqs hk
  have hun := hty.und
  rw [hua] at hun
  obtain ⟨fields, hf, rfl, _⟩ := hun
  have hfo : P.fieldsOf t = fields := by unfold Program.fieldsOf; rw [hf]
  rw [hfo] at hnm
  have hrun : (Op.equalIn 10000 t (.agg (segsVals ρ u).toArray) (.agg (segsVals ρ v).toArray)).run P w = .ok e w := by
    rw [run_equalIn_struct w 9999 t _ _ (by rw [hfo]; exact hf) hsi, hfo]
    exact run_eqFs hT _ _ hnm he
  refine sn_same hG (bin_exec hop) ?_ rfl rfl
  rw [(hev x _ hx).1, (hev y _ hy).1, hu, hv]
  change ((eqGuard op t x y _ _) >>= fun _ => Go.binOp op t _ _).run P w = .ok (.bool b) w
  rw [Sem.run_bind, eqGuard_agg hg]
  simp only [Result.andThen_ok]
  rcases hb with ⟨rfl, rfl⟩ | ⟨rfl, rfl⟩
  · rw [run_eql_struct, hrun]; rfl
  · rw [run_neq_struct, hrun]; rfl
omit [GT] in
theorem run_checkInt {em : Bool} {n : Nat} {t : TypeId} {k : IntKind} (h : P.underlying t = some (.int k)) (v : Value) : (Instr.checkKey em (n + 1) t v).run P w = .ok () w := by
  simp only [Instr.checkKey, Sem.run_bind, run_underlying h, Result.andThen_ok]
  cases v <;> rfl
omit [GT] in
theorem run_checkSt {em : Bool} {n : Nat} {t : TypeId} {fields : Array Field} (h : P.underlying t = some (.struct fields)) {X : Array Value} (hf : ∀ f ∈ fields.toList, (∃ k, P.underlying f.type = some (.int k)) ∧ ∃ p, (part f.type X f.offset).run P w = .ok p w) : (Instr.checkKey em (n + 2) t (.agg X)).run P w = .ok () w := by
  unfold Instr.checkKey
  simp only [Sem.run_bind, run_underlying h, Result.andThen_ok]
  rw [← Array.forIn_toList]
  generalize fields.toList = fs at hf
  clear h
  induction fs with
  | nil => simp
  | cons f fs ih =>
    obtain ⟨⟨k, hk⟩, p, hp⟩ := hf f (by simp)
    have ih' := ih fun f hf' => hf f (by simp [hf'])
    simp only [List.forIn_cons, Sem.run_bind, Sem.run_ite]
    split
    · simp only [hp, Result.andThen_ok, run_checkInt hk, Sem.run_pure]
      exact ih'
    · simp only [Sem.run_pure, Result.andThen_ok]
      exact ih'
omit [GT] in
theorem run_lookupSt {t kt et : TypeId} (ht : P.underlying t = some (.map kt et)) {fields : Array Field} (h : P.underlying kt = some (.struct fields)) {X : Array Value} (hf : ∀ f ∈ fields.toList, (∃ k, P.underlying f.type = some (.int k)) ∧ ∃ p, (part f.type X f.offset).run P w = .ok p w)
    {g : Nat} {es : Array MapEntry} {clk : Nat} (hg : w.heap[g]? = some (.map es clk)) (hne : es.toList ≠ []) {r : Option (Nat × Value)} {z v : Value} {b : Bool} (hv : (match r with | some (_, v) => (v, true) | none => (z, false)) = (v, b)) (hr : (Instr.findAsking kt (.agg X) es.toList).run P w = .ok r w) (hz : (zeroValue et).run P w = .ok z w) :
    (Instr.lookup t (.map (some g)) (.agg X) true).run P w = .ok (.tuple #[v, .bool b]) w := by
  have hc : (Instr.checkKey es.isEmpty 10000 kt (.agg X)).run P w = .ok () w := run_checkSt (P := P) (w := w) (em := es.isEmpty) (n := 9998) h hf
  have hfk : (Instr.findKey kt (.agg X) es.toList).run P w = .ok r w := by
    unfold Instr.findKey
    simp only [Sem.run_bind, run_underlying h, Result.andThen_ok]
    have : Instr.findNow (.struct fields) (.agg X) es.toList 0 = none := by
      cases hes : es.toList with
      | nil => exact absurd hes hne
      | cons e l => simp [Instr.findNow, Instr.sameNow]
    rw [this]
    exact hr
  unfold Instr.lookup
  simp only [Sem.run_bind, run_underlying ht, Result.andThen_ok]
  have hgo : (getObj g).run P w = .ok (.map es clk) w := by
    show Sem.run P (Sem.getObj g Sem.pure) w = _
    simp [Sem.run, hg]
  simp only [hgo, Result.andThen_ok, Sem.run_pure, Sem.run_bind]
  rw [hc]
  simp only [Result.andThen_ok]
  rw [hfk]
  simp only [Result.andThen_ok]
  cases r with
  | none =>
    simp only [Prod.mk.injEq] at hv
    obtain ⟨rfl, rfl⟩ := hv
    simp only [Sem.run_bind, hz, Result.andThen_ok, Sem.run_pure]
    rfl
  | some r =>
    obtain ⟨i, u⟩ := r
    simp only [Prod.mk.injEq] at hv
    obtain ⟨rfl, rfl⟩ := hv
    simp only [Sem.run_pure, Result.andThen_ok]
    rfl
omit [GT] in
theorem keySegs_vals (ρ : Nat → Loc) : ∀ l : List Int, segsVals ρ (keySegs l) = l.map (Value.int .i64)
  | [] => rfl
  | z :: l => by
    have := keySegs_vals ρ l
    unfold keySegs segsVals at this ⊢
    rw [List.map_cons, List.flatMap_cons, this]
    rfl
omit [GT] in
theorem run_findM (hT : TOK P T) {kt : TypeId} {fields : Array Field} (h : P.underlying kt = some (.struct fields)) (hsi : P.stoodInHeld kt = false) (hnm : (fields.toList.all fun f => f.name != "_") = true) {x : List Seg} : ∀ (tab : List (List Int × Int)) (es : List MapEntry) (i : Nat) (c : Bool) (z : Int), es.map (fun e => (e.key, e.val)) = tab.map (fun x => (Value.agg (x.1.map (Value.int .i64)).toArray, Value.int .i64 x.2)) → findM T (fields.toList.map fun f => (f.offset, f.type)) x tab = some (c, z) →
    ∃ r, (Instr.findAsking kt (.agg (segsVals ρ x).toArray) es i).run P w = .ok r w ∧ (match r with | some (_, v) => (v, true) | none => (Value.int .i64 0, false)) = (Value.int .i64 z, c)
  | [], es, i, c, z, he, hf => by
    simp only [findM, Option.some.injEq, Prod.mk.injEq] at hf
    obtain ⟨rfl, rfl⟩ := hf
    have : es = [] := by simpa using he
    subst this
    exact ⟨none, rfl, rfl⟩
  | y :: l, [], i, c, z, he, hf => by simp at he
  | y :: l, e :: es, i, c, z, he, hf => by
    simp only [List.map_cons, List.cons.injEq, Prod.mk.injEq] at he
    obtain ⟨⟨hk, hv⟩, he⟩ := he
    unfold findM at hf
    have hfo : P.fieldsOf kt = fields := by unfold Program.fieldsOf; rw [h]
    have heq : ∀ b, eqFs T x (keySegs y.1) (fields.toList.map fun f => (f.offset, f.type)) = some b → (Op.equal kt (.agg (segsVals ρ x).toArray) e.key).run P w = .ok b w := fun b h1 => by
      rw [hk, ← keySegs_vals ρ]
      show (Op.equalIn 10000 kt _ _).run P w = _
      rw [run_equalIn_struct w 9999 kt _ _ (by rw [hfo]; exact h) hsi, hfo]
      exact run_eqFs hT _ _ hnm h1
    split at hf
    · rename_i z' h1 h2
      simp only [Option.some.injEq, Prod.mk.injEq] at hf
      obtain ⟨rfl, rfl⟩ := hf
      refine ⟨some (i, e.val), ?_, by rw [hv]⟩
      unfold Instr.findAsking
      rw [Sem.run_bind, heq _ h1]
      rfl
    · rename_i c' z' h1 h2
      simp only [Option.some.injEq, Prod.mk.injEq] at hf
      obtain ⟨rfl, rfl⟩ := hf
      obtain ⟨r, hr, hrv⟩ := run_findM hT h hsi hnm l es (i + 1) c' z' he h2
      refine ⟨r, ?_, hrv⟩
      unfold Instr.findAsking
      rw [Sem.run_bind, heq _ h1]
      exact hr
    · cases hf
theorem s_lookup (hT : TOK P T) (hG : HR ρ D N M G w) (hev : EvOK a ρ D ev) {t : TypeId} {x i : Operand} (hop : o.op = .lookup t x i true) {id : Nat} (hx : ev x = some (.av (.one (.m id)))) {b : Blk} (hb : G id = some b) {sk : SV} {k : List Seg} (hi : ev i = some sk) (hkc : sk.conc ρ = .agg (segsVals ρ k).toArray) {ty : Ty} (ht : look T t = some ty) {kt et : TypeId} (hu : ty.u = .mp kt et) {tk te : Ty} (hk : look T kt = some tk) (he : look T et = some te) {fs : List (Nat × TypeId)} (huk : tk.u = .st fs) (hz : te.zero = .one (.v (.int .i64 (.ofNat 0)))) (h3 : 3 ≤ b.k) (hq : tk.eqs = true) (hin : fs.all (intF T) = true) {y : List Int × Int} {l : List (List Int × Int)} (hm : mapTab (b.k - 3) = y :: l) {c : Bool} {z : Int} (hf : findM T fs k (y :: l) = some (c, z)) {q : Asm} :
    Sn P o a w ρ D N M G base { val := .tup [.one (.v (.int .i64 z)), .one (.v (.bool c))], asm := q } := by
  have hun : P.underlying t = some (.map kt et) := by have := (hT t ty ht).und; rw [hu] at this; exact this
  obtain ⟨hg, hsi, hnm⟩ := (hT kt tk hk).eqs hq
  have hunk := (hT kt tk hk).und
  rw [huk] at hunk
  obtain ⟨fields, hfl, rfl, _⟩ := hunk
  have hfo : P.fieldsOf kt = fields := by unfold Program.fieldsOf; rw [hfl]
  rw [hfo] at hnm
  have hbk := (hG.blk id b hb).2.2
  obtain ⟨bk, bty, bc⟩ := b
  obtain ⟨m, rfl⟩ : ∃ m, bk = m + 3 := ⟨bk - 3, by simp only at h3; omega⟩
  obtain ⟨_, g, es, clk, hρ, hheap, hmap⟩ := hbk
  simp only [Nat.add_sub_cancel] at hm
  rw [hm] at hmap
  obtain ⟨tab, hperm, hmap⟩ := hmap
  obtain ⟨r, hr, hrv⟩ := run_findM (P := P) (ρ := ρ) (w := w) hT hfl hsi hnm (x := k) tab es.toList 0 c z hmap ((findM_perm hperm).trans hf)
  have hne : es.toList ≠ [] := by
    intro e
    rw [e] at hmap
    have : tab = [] := by simpa using hmap
    subst this
    exact absurd hperm.length_eq (by simp)
  have hzr : (zeroValue et).run P w = .ok (.int .i64 0) w := by
    have := (hT et te he).run_zero ρ w
    rw [hz] at this
    exact this
  have hfd : ∀ f ∈ fields.toList, (∃ k, P.underlying f.type = some (.int k)) ∧ ∃ p, (part f.type (segsVals ρ k).toArray f.offset).run P w = .ok p w := by
    have hall : ∀ (fl : List Field) (b : Bool), (fl.map fun f => (f.offset, f.type)).all (intF T) = true → eqFs T k (keySegs y.1) (fl.map fun f => (f.offset, f.type)) = some b → ∀ f ∈ fl, (∃ k, P.underlying f.type = some (.int k)) ∧ ∃ p, (part f.type (segsVals ρ k).toArray f.offset).run P w = .ok p w := by
      intro fl
      induction fl with
      | nil => intro b _ _ f hf; cases hf
      | cons f0 fl ih =>
        intro b h1 h2 f hf'
        simp only [List.map_cons, List.all_cons, Bool.and_eq_true] at h1
        simp only [List.map_cons, eqFs] at h2
        split at h2
        · rename_i ty0 hty0
          split at h2
          · rename_i u v hgu hgv
            split at h2
            · rename_i b1 b2 e1 e2
              rcases List.mem_cons.1 hf' with rfl | hf'
              · obtain ⟨p, _, hp, _⟩ := run_eqOne (P := P) (ρ := ρ) (w := w) hT hty0 hgu hgv e1
                refine ⟨?_, p, hp⟩
                have h1' := h1.1
                unfold intF at h1'
                simp only [hty0] at h1'
                split at h1'
                · rename_i kk hkk
                  have := (hT _ _ hty0).und
                  rw [hkk] at this
                  exact ⟨kk, this⟩
                · cases h1'
              · exact ih b2 h1.2 e2 f hf'
            · cases h2
          · cases h2
        · cases h2
    unfold findM at hf
    split at hf
    · rename_i h1 _
      exact hall _ _ hin h1
    · rename_i h1 _
      exact hall _ _ hin h1
    · cases hf
  refine sn_same hG (s := Instr.lookup t (a.eval x) (a.eval i) true) (by unfold execOp; rw [hop]; rfl) ?_ rfl rfl
  have hxc : a.eval x = .map (some g) := by
    rw [(hev x _ hx).1]
    show Value.map ((ρ id).a.map Addr.block) = _
    rw [hρ]
    rfl
  rw [hxc, (hev i _ hi).1, hkc]
  exact run_lookupSt hun hfl hfd hheap hne hrv hr hzr
theorem s_makeSlice (hT : TOK P T) (hG : HR ρ D N M G w) (hev : EvOK a ρ D ev) (hf : ¬ D base) {t : TypeId} {l c : Operand} (hop : o.op = .makeSlice t l c) {ty : Ty} (ht : look T t = some ty) {e : TypeId} (hu : ty.u = .sl e) {te : Ty} (he : look T e = some te) {k : IntKind} {z0 : Int} (hz : te.zero = .one (.v (.int k z0))) {sl sc : SV} (hl : ev l = some sl) (hc : ev c = some sc) {sym : Bool} {n m : Nat} {p1 p2 : Asm} (h1 : natOf sym okSize sl = some (n, p1)) (hp1 : p1.holds) (h2 : natOf sym okSize sc = some (m, p2)) (hp2 : p2.holds) (hb : n * (te.bytes + 1) ≤ okSize) (hnm : n = m) {q : Asm} :
    Sn P o a w ρ D N M G base { val := .av (.one (.s base 0 n n)), new := [⟨0, e, [.arr k (List.replicate n z0)]⟩], asm := q } := by
  subst hnm
  have hty := hT t ty ht
  have hte := hT e te he
  have hun : P.underlying t = some (.slice e) := by have := hty.und; rw [hu] at this; exact this
  obtain ⟨k1, z1, e1, n1, t1, le1⟩ := natOf_spec (ρ := ρ) h1 hp1
  obtain ⟨k2, z2, e2, n2, t2, le2⟩ := natOf_spec (ρ := ρ) h2 hp2
  have hzz : z1 = z2 := by omega
  subst hzz
  obtain ⟨i, hi, hs, hby, hzv⟩ := hte.info
  have hs1 : i.size = 1 := by
    have := hte.zsz
    rw [hz] at this
    rw [hs, ← this]; rfl
  rw [hz] at hzv
  have hbb : (i.bytes : Int) * z1 ≤ 281474976710656 := by
    have hh : i.bytes * n ≤ 140737488355328 := by
      rw [hby, Nat.mul_comm]
      exact Nat.le_trans (Nat.mul_le_mul_left n (Nat.le_succ _)) hb
    have : z1 = (n : Int) := by omega
    rw [this, ← Int.natCast_mul]
    omega
  refine gives_of (s := Instr.makeSlice t (a.eval l) (a.eval c)) (by unfold execOp; rw [hop]; rfl) (w' := w.alloc (.cells (segsVals ρ [.arr k (List.replicate n z0)]).toArray e)) (v := .slice (some ⟨w.heap.size, 0, none⟩) n n) ?_ ⟨_, fits_new hG hf (c := [.arr k (List.replicate n z0)]) (fun s hs => by simp at hs; subst hs; trivial) rfl rfl ?_⟩
  · rw [(hev l _ hl).1, (hev c _ hc).1, e1, e2]
    have := run_make (P := P) w t e i _ hun hi hzv k1 k2 z1 z1 n1 (Int.le_refl _) hbb (by unfold okSize at le1; omega)
    rw [this, t1, hs1]
    have hr := range_zero [Value.int k z0] n
    have hm : madeCells (AV.conc noLoc (.one (.v (.int k z0)))).cells (n * 1) = (segsVals ρ [.arr k (List.replicate n z0)]).toArray := by
      refine hr.trans ?_
      rw [segsVals_one]
      simp [Seg.vals]
    rw [hm]
  · simp [SV.conc, AV.conc, Seg.conc, up_self, Addr.add_lit]
omit [GT] in
theorem len_exec {b : Builtin} {args : Array Operand} {ts : Array TypeId} (hop : o.op = .call { callee := .builtin b, args := args, argTypes := ts }) : execOp a.eval o = builtin b ts o.type (args.map fun | .const _ => true | _ => false) (args.map a.eval) := by
  unfold execOp
  rw [hop]
  simp only [resolve, invoke]
  rfl

omit [GT] in
theorem s_builtin {b : Builtin} {args : Array Operand} {ts : Array TypeId} (hop : o.op = .call { callee := .builtin b, args := args, argTypes := ts }) {s : Sem Value} (hb : builtin b ts o.type (args.map fun | .const _ => true | _ => false) (args.map a.eval) = (do pure (.value (← s)))) {v : Value} {w' : World} {R : Value → World → Prop} (h : s.run P w = .ok v w') (hR : R v w') : gives P o a w R := by
  refine Rg.gives_value (v := v) (w' := w') ?_ hR
  rw [len_exec hop, hb, Sem.run_bind, h]
  rfl
omit [GT] in
theorem evs_spec (hev : EvOK a ρ D ev) : ∀ (l : List Operand) (r : List SV), evs ev l = some r → l.map a.eval = r.map (SV.conc ρ) ∧ ∀ s ∈ r, s.In D
  | [], r, h => by
    simp only [evs, Option.some.injEq] at h
    subst h
    exact ⟨rfl, fun s hs => by cases hs⟩
  | x :: l, r, h => by
    unfold evs at h
    split at h
    · rename_i s r' hs hr
      simp only [Option.some.injEq] at h
      subst h
      obtain ⟨h1, h2⟩ := evs_spec hev l r' hr
      obtain ⟨e1, e2⟩ := hev x s hs
      refine ⟨by rw [List.map_cons, List.map_cons, e1, h1], fun y hy => ?_⟩
      rcases List.mem_cons.1 hy with rfl | hy
      · exact e2
      · exact h2 y hy
    · cases h
omit [GT] in
theorem args_of (hev : EvOK a ρ D ev) {args : Array Operand} {r : List SV} (h : evs ev args.toList = some r) : args.map a.eval = (r.map (SV.conc ρ)).toArray := by
  have := (evs_spec hev _ _ h).1
  apply Array.toList_inj.1
  simpa using this
theorem s_len (hT : TOK P T) (hG : HR ρ D N M G w) (hev : EvOK a ρ D ev) {args : Array Operand} {ts : Array TypeId} (hop : o.op = .call { callee := .builtin .len, args := args, argTypes := ts }) {x : SV} (hx : evs ev args.toList = some [x]) {t : TypeId} (hts : ts.toList = [t]) {ty : Ty} (ht : look T t = some ty) {v : Int}
    (h : (∃ n e, ty.u = .arr n e ∧ v = n) ∨ (∃ e ad len cap, ty.u = .sl e ∧ x.conc ρ = .slice ad len cap ∧ v = len) ∨ (∃ s : ByteArray, ty.u = .str ∧ x.conc ρ = .string s ∧ v = s.size)) : Sn P o a w ρ D N M G base { val := ofV (.int .i64 v) } := by
  have hty := hT t ty ht
  have hargs := args_of hev hx
  have hts' : ts = #[t] := by apply Array.toList_inj.1; simpa using hts
  refine s_builtin hop (s := Builtin.len_ ts o.type (args.map a.eval)) rfl (v := .int .i64 v) (w' := w) ?_ ⟨ρ, fits_same hG rfl rfl rfl⟩
  rw [hargs, hts']
  rcases h with ⟨n, e, hu, rfl⟩ | ⟨e, ad, len, cap, hu, hc, rfl⟩ | ⟨s, hu, hc, rfl⟩
  · have hun : P.underlying t = some (.array n e) := by have := hty.und; rw [hu] at this; exact this
    simp [Builtin.len_, run_underlying hun, goInt]
  · have hun : P.underlying t = some (.slice e) := by have := hty.und; rw [hu] at this; exact this
    simp [Builtin.len_, run_underlying hun, goInt, hc]
  · have hun : P.underlying t = some .string := by have := hty.und; rw [hu] at this; exact this
    simp [Builtin.len_, run_underlying hun, goInt, hc]
theorem s_min (hG : HR ρ D N M G w) (hev : EvOK a ρ D ev) {args : Array Operand} {ts : Array TypeId} (hop : o.op = .call { callee := .builtin .min, args := args, argTypes := ts }) {k j : IntKind} {x y : Int} (hx : evs ev args.toList = some [ofV (.int k x), ofV (.int j y)]) : Sn P o a w ρ D N M G base { val := ofV (.int k (if y < x then y else x)) } := by
  have hargs := args_of hev hx
  refine s_builtin hop (s := Builtin.min_ ts o.type (args.map a.eval)) rfl (v := .int k (if y < x then y else x)) (w' := w) ?_ ⟨ρ, fits_same hG rfl rfl rfl⟩
  rw [hargs]
  rfl

/-- append: the new row. -/
theorem fits_row (hG : HR ρ D N M G w) {old : Option Nat} {c c2 : List Seg} {e : TypeId} (hold : ∀ id, old = some id → ∃ b, G id = some b ∧ b.k < 2) {sv v' : Value} {n' : Nat} {w' : World} (hf : ¬ D base) {r : Res} (hin : segsIn D c2)
    (hown : w'.ownsRow 0 e 1 v' n' (segsVals ρ c2)) (hgr : w.grownBy w' sv.ownBlock) (hsv : ∀ g, sv.ownBlock = some g → ∃ id, old = some id ∧ ∃ x, (ρ id).a = some x ∧ x.block = g) (hnew : ∀ g, v'.ownBlock = some g → sv.ownBlock = some g ∨ w.heap.size ≤ g)
    (hv : r.val = .av (.one (.r base 0 n' 0))) (hn : r.new = [⟨1, e, c2⟩]) (hu : r.upd = killOf old) : ∃ ρ', Fits ρ D N M G base r w ρ' v' w' := by
  obtain ⟨ad, cap, hvv⟩ : ∃ ad cap, v' = .slice ad n' cap := by
    rcases hown.2 with ⟨rfl, h⟩ | ⟨g, cap, cur, rfl, _⟩
    · exact ⟨none, 0, by rw [h]⟩
    · exact ⟨_, cap, rfl⟩
  have hag : ∀ i, D i → up ρ base ⟨ad, cap⟩ i = ρ i := up_agree hf
  have hown0 : ∀ g, v'.ownBlock = some g → g < w'.heap.size := fun g hg => (hown.lt g hg).2
  have hoOwn : ∀ g, sv.ownBlock = some g → N ≤ g ∨ g ∈ M := fun g hg => by
    obtain ⟨id, hid, x, hx, rfl⟩ := hsv g hg
    obtain ⟨b, hb, hk⟩ := hold id hid
    exact hG.own id b x hb hk hx
  have hkp : Kept N M w w' := ⟨hgr.os, hgr.tape, hgr.output, hgr.size, fun k hk hm => by
    refine hgr.block k (Nat.lt_of_lt_of_le hk hG.size) fun hs => ?_
    rcases hoOwn k hs.symm with h | h
    · omega
    · exact hm h⟩
  refine ⟨up ρ base ⟨ad, cap⟩, hag, ?_, ?_, hkp, fun hnil => ?_⟩
  rotate_right
  · have hno : sv.ownBlock = none := by
      cases hs : sv.ownBlock with
      | none => rfl
      | some g =>
        obtain ⟨id, hid, _⟩ := hsv g hs
        rw [hu, hid] at hnil
        cases hnil
    refine ⟨⟨hgr.os, hgr.tape, hgr.output, hgr.size, fun k hk => hgr.block k hk (by rw [hno]; simp)⟩, fun k b x hk hx => ?_⟩
    rw [hn] at hk
    cases k with
    | zero =>
      simp only [Nat.add_zero, up_self] at hx
      rcases hnew x.block (by rw [hvv, hx]; rfl) with h | h
      · rw [hno] at h; cases h
      · exact h
    | succ k => simp at hk
  · rw [hv, hvv]
    simp only [SV.conc, AV.conc, Seg.conc, up_self, radr, Nat.sub_zero]
    congr 1
    cases ad <;> simp [Addr.add]
  · have hb0 : ∀ id, old = some id → id ≠ base := fun id hid e => by
      obtain ⟨b, hb, _⟩ := hold id hid
      exact hf (e ▸ (hG.blk id b hb).1)
    have ha : ∀ i b, appl G base r i = some b → (i = base ∧ b = ⟨1, e, c2⟩) ∨ (i ≠ base ∧ G i = some b ∧ old ≠ some i) := fun i b hb => by
      unfold appl at hb
      rw [hu, hn] at hb
      simp only [List.length_cons, List.length_nil] at hb
      cases old with
      | none =>
        simp only [killOf, look] at hb
        by_cases hi : i = base
        · subst hi
          rw [if_pos (by omega)] at hb
          simp at hb
          exact .inl ⟨rfl, hb.symm⟩
        · rw [if_neg (by omega)] at hb
          exact .inr ⟨hi, hb, by simp⟩
      | some id =>
        simp only [killOf, look] at hb
        by_cases hid : id = i
        · subst hid
          have : Nat.beq id id = true := Nat.beq_refl id
          rw [this] at hb
          cases hb
        · have : Nat.beq id i = false := by
            cases hq : Nat.beq id i
            · rfl
            · exact absurd (Nat.eq_of_beq_eq_true hq) hid
          rw [this] at hb
          simp only at hb
          by_cases hi : i = base
          · subst hi
            rw [if_pos (by omega)] at hb
            simp at hb
            exact .inl ⟨rfl, hb.symm⟩
          · rw [if_neg (by omega)] at hb
            exact .inr ⟨hi, hb, fun h => hid (by injection h)⟩
    have hother : ∀ i b x, i ≠ base → G i = some b → old ≠ some i → (ρ i).a = some x → sv.ownBlock ≠ some x.block := fun i b x _ hb ho hx hs => by
      obtain ⟨id, hid, y, hy, hyx⟩ := hsv _ hs
      obtain ⟨bo, hbo, hko⟩ := hold id hid
      exact hG.dist id i bo b y x hbo hb (fun h => ho (h ▸ hid)) hko hy hx hyx
    have hbase : ∀ x, (up ρ base ⟨ad, cap⟩ base).a = some x → v'.ownBlock = some x.block := fun x hx => by
      rw [up_self] at hx
      simp only at hx
      rw [hvv, hx]
      rfl
    have hclash : ∀ i b x y, i ≠ base → G i = some b → old ≠ some i → (ρ i).a = some x → (up ρ base ⟨ad, cap⟩ base).a = some y → x.block ≠ y.block := fun i b x y hi hb ho hx hy hxy => by
      rcases hnew _ (hbase y hy) with h1 | h1
      · exact hother i b x hi hb ho hx (by rw [h1, hxy])
      · have := hG.lt i b x hb hx; omega
    refine hG.step (U := fun i => i = base) hag (fun i h => .inl h) hkp (fun i b hb hU => ?_) (fun i b x hb hU hx => ?_) (fun i b hb hU => ?_) (fun i b x hb hU hx => ?_) (fun i b x hb hU hk hx => ?_) (fun i j bi bj x y hi hj hij hU hk hx hy => ?_)
    · rcases ha i b hb with ⟨h, _⟩ | ⟨_, h, _⟩
      · exact absurd h hU
      · exact h
    · rcases ha i b hb with ⟨h, _⟩ | ⟨h0, h, ho⟩
      · exact absurd h hU
      · exact hgr.block _ (hG.lt i b x h hx) (fun e => hother i b x h0 h ho hx e.symm)
    · subst hU
      rcases ha i b hb with ⟨_, rfl⟩ | ⟨h, _⟩
      · refine ⟨.inr ⟨Nat.le_refl _, by rw [hn]; simp⟩, hin.mono fun i h => .inl h, ?_⟩
        unfold BlkOK
        simp only [up_self]
        rw [segsVals_congr hag hin]
        have hl : (segsVals ρ c2).length = n' := by have := hown.1; omega
        rw [hl, ← hvv]
        exact hown
      · exact absurd rfl h
    · subst hU
      exact hown0 _ (hbase x hx)
    · subst hU
      rcases hnew _ (hbase x hx) with h1 | h1
      · exact hoOwn _ h1
      · exact .inl (Nat.le_trans hG.size h1)
    · rcases ha i bi hi with ⟨rfl, _⟩ | ⟨hi0, hgi, hoi⟩
      · rcases ha j bj hj with ⟨rfl, _⟩ | ⟨hj0, hgj, hoj⟩
        · exact absurd rfl hij
        · rw [hag j (hG.blk j bj hgj).1] at hy
          exact fun h => hclash j bj y x hj0 hgj hoj hy hx h.symm
      · rcases ha j bj hj with ⟨rfl, _⟩ | ⟨hj0, hgj, hoj⟩
        · rw [hag i (hG.blk i bi hgi).1] at hx
          exact hclash i bi x y hi0 hgi hoi hx hy
        · rcases hU with h | h
          · exact absurd h hi0
          · exact absurd h hj0

end
end Go.Proofs.YtpefomdegbmecaaDoor.Am
