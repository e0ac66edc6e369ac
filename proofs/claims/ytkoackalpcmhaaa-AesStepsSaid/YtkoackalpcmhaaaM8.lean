/- The abstract machine: operation by operation: comparisons, conversions, places. Conditions: none. -/
import Derived.Test.YtkoackalpcmhaaaM7
import Derived.Laws.BytesString
import Derived.Laws.MakeOwn
namespace Go.Proofs.Ytkoackalpcmhaaa.Am
set_option linter.unusedVariables false
set_option linter.unusedSimpArgs false
open Go Go.RowKit
open Rg (gives)

section
variable {P : Program} {T : List (Nat × Ty)} {ρ : Nat → Loc} {D : Nat → Prop} {N : Nat} {M : List Nat} {G : Nat → Option Blk} {base : Nat} {w : World} {o : Oper} {a : Act} {ev : Operand → Option SV}

theorem eq_bool {t : TypeId} (hun : P.underlying t = some .bool) (u v : Bool) (d : Nat) : (Op.equalIn (d + 1) t (.bool u) (.bool v)).run P w = .ok (u == v) w := by
  simp [Op.equalIn, run_underlying hun]
theorem eq_ptr {t e : TypeId} (hun : P.underlying t = some (.pointer e)) (x : Addr) (d : Nat) : (Op.equalIn (d + 1) t (.pointer (some x)) (.pointer none)).run P w = .ok false w := by
  simp [Op.equalIn, run_underlying hun]
theorem bin_eq {t : TypeId} {u v : Value} {r : Bool} (h : (Op.equalIn (9999 + 1) t u v).run P w = .ok r w) (hu : ∀ k n, u ≠ .int k n) (hf : ∀ k n, u ≠ .float k n) (hc : ∀ k n m, u ≠ .complex k n m) (hs : ∀ s, u ≠ .string s) : (Go.binOp .eql t u v).run P w = .ok (.bool r) w ∧ (Go.binOp .neq t u v).run P w = .ok (.bool !r) w := by
  have e1 : Go.binOp .eql t u v = (do pure (.bool (← Op.equal t u v))) := by
    cases u <;> first | rfl | (exact absurd rfl (hu _ _)) | (exact absurd rfl (hf _ _)) | (exact absurd rfl (hc _ _ _)) | (exact absurd rfl (hs _))
  have e2 : Go.binOp .neq t u v = (do pure (.bool (!(← Op.equal t u v)))) := by
    cases u <;> first | rfl | (exact absurd rfl (hu _ _)) | (exact absurd rfl (hf _ _)) | (exact absurd rfl (hc _ _ _)) | (exact absurd rfl (hs _))
  have h' : (Op.equal t u v).run P w = .ok r w := h
  rw [e1, e2]
  exact ⟨by rw [Sem.run_bind, h']; rfl, by rw [Sem.run_bind, h']; rfl⟩
theorem s_boolEq (hT : TOK P T) (hG : HR ρ D N M G w) (hev : EvOK a ρ D ev) {op : BinOp} {t t' : TypeId} {x y : Operand} (hop : o.op = .binOp op t x y t') {u v : Bool} (hx : ev x = some (ofV (.bool u))) (hy : ev y = some (ofV (.bool v))) {ty : Ty} (ht : look T t = some ty) (hu : ty.u = .bool) (b : Bool) (hb : op = .eql ∧ b = (u == v) ∨ op = .neq ∧ b = !(u == v)) : Sn P o a w ρ D N M G base { val := ofV (.bool b) } := by
  have hun : P.underlying t = some .bool := by have := (hT t ty ht).und; rw [hu] at this; exact this
  refine sn_same hG (bin_exec hop) ?_ rfl rfl
  rw [(hev x _ hx).1, (hev y _ hy).1]
  change ((eqGuard op t x y (.bool u) (.bool v)) >>= fun _ => Go.binOp op t (.bool u) (.bool v)).run P w = .ok (.bool b) w
  rw [Sem.run_bind, eqGuard_bool]
  have := bin_eq (P := P) (w := w) (t := t) (eq_bool hun u v 9999) (by simp) (by simp) (by simp) (by simp)
  rcases hb with ⟨rfl, rfl⟩ | ⟨rfl, rfl⟩
  · exact this.1
  · exact this.2
theorem s_ptrNil (hT : TOK P T) (hG : HR ρ D N M G w) (hev : EvOK a ρ D ev) {op : BinOp} {t t' : TypeId} {x y : Operand} (hop : o.op = .binOp op t x y t') {id off : Nat} (hx : ev x = some (.av (.one (.p id off)))) (hy : ev y = some (ofV (.pointer none))) {blk : Blk} (hb : G id = some blk) (hk : hasA blk = true) {ty : Ty} (ht : look T t = some ty) {e : TypeId} (hu : ty.u = .ptr e) (b : Bool) (hbb : op = .eql ∧ b = false ∨ op = .neq ∧ b = true) : Sn P o a w ρ D N M G base { val := ofV (.bool b) } := by
  have hun : P.underlying t = some (.pointer e) := by have := (hT t ty ht).und; rw [hu] at this; exact this
  obtain ⟨u, ha⟩ := (hG.blk id blk hb).2.2.hasA hk
  refine sn_same hG (bin_exec hop) ?_ rfl rfl
  rw [(hev x _ hx).1, (hev y _ hy).1, conc_p, ha]
  change ((eqGuard op t x y (.pointer (some (Addr.add u off))) (.pointer none)) >>= fun _ => Go.binOp op t (.pointer (some (Addr.add u off))) (.pointer none)).run P w = .ok (.bool b) w
  rw [Sem.run_bind, eqGuard_ptr]
  have := bin_eq (P := P) (w := w) (t := t) (eq_ptr hun (Addr.add u off) 9999) (by simp) (by simp) (by simp) (by simp)
  rcases hbb with ⟨rfl, rfl⟩ | ⟨rfl, rfl⟩
  · exact this.1
  · exact this.2
theorem s_convInt (hT : TOK P T) (hG : HR ρ D N M G w) (hev : EvOK a ρ D ev) {s d : TypeId} {x : Operand} (hop : o.op = .convert s d x) {j : IntKind} {n : Int} (hx : ev x = some (ofV (.int j n))) {ty : Ty} (ht : look T d = some ty) {k : IntKind} (hu : ty.u = .int k) (hs : ∃ q, P.underlying s = some q) : Sn P o a w ρ D N M G base { val := ofV (.int k (k.wrap n)) } := by
  have hun : P.underlying d = some (.int k) := by have := (hT d ty ht).und; rw [hu] at this; exact this
  obtain ⟨q, hq⟩ := hs
  refine sn_same hG (s := Go.convert s d (a.eval x)) (by unfold execOp; rw [hop]; rfl) ?_ rfl rfl
  rw [(hev x _ hx).1]
  change (Go.convert s d (.int j n)).run P w = .ok (.int k (k.wrap n)) w
  unfold Go.convert
  simp [run_underlying hq, run_underlying hun, Conv.intToInt]

theorem rowOf_spec {sym : Bool} {sv : SV} {id off m : Nat} {b : Blk} {p : Asm} (h : rowOf sym G sv = some (id, off, m, b, p)) (hp : p.holds) (hG : HR ρ D N M G w) : G id = some b ∧ off + m ≤ widths b.c ∧ ∃ ad cap, sv.conc ρ = .slice ad m cap ∧ (0 < m → ∃ x, (ρ id).a = some x ∧ ad = some (x.add off)) := by
  have hw : ∀ {A B : Nat} {q : Asm}, within sym A B = some q → q.holds → A ≤ B := by
    intro A B q hq hh
    unfold within at hq
    split at hq
    · simp only [Option.some.injEq] at hq; subst hq; exact hh
    · split at hq
      · rename_i hle; exact Nat.le_of_ble_eq_true hle
      · cases hq
  unfold rowOf at h
  split at h
  · rename_i id' off' len' cap'
    split at h
    · rename_i b' hb'
      split at h
      · rename_i p' hp'
        simp only [Option.some.injEq, Prod.mk.injEq] at h
        obtain ⟨rfl, rfl, rfl, rfl, rfl⟩ := h
        have hle := hw hp' hp
        refine ⟨hb', hle, _, _, rfl, fun hm => ?_⟩
        have hbk := (hG.blk _ _ hb').2.2
        have hlt : off' < (segsVals ρ b'.c).length := by rw [segsVals_len]; omega
        obtain ⟨x, hx, _⟩ := hbk.cells (j := off') (List.getElem?_eq_getElem hlt)
        exact ⟨x, hx, by rw [hx]; rfl⟩
      · cases h
    · cases h
  · rename_i id' off' len' ad'
    split at h
    · rename_i b' hb'
      split at h
      · rename_i p' hp' hk
        simp only [Option.some.injEq, Prod.mk.injEq] at h
        obtain ⟨rfl, rfl, rfl, rfl, rfl⟩ := h
        have hle := hw hp' hp
        refine ⟨hb', hle, _, _, rfl, fun hm => ?_⟩
        have hbk := (hG.blk _ _ hb').2.2
        have hlt : off' < (segsVals ρ b'.c).length := by rw [segsVals_len]; omega
        obtain ⟨x, hx, _⟩ := hbk.cells (j := off') (List.getElem?_eq_getElem hlt)
        refine ⟨x, hx, ?_⟩
        have hcap : (segsVals ρ b'.c).length ≤ (ρ id').cap := by
          obtain ⟨k, bty, bc⟩ := b'
          have hk := Nat.le_of_ble_eq_true hk
          simp only at hk hlt
          match k, hk, hbk with
          | 1, _, hbk =>
            rcases hbk.2 with ⟨_, hn⟩ | ⟨g, cap, cur, hv, _, _, hnc, _⟩
            · simp only at hn; omega
            · injection hv with _ _ hv; simp only at hnc ⊢; omega
          | k + 2, _, hbk => exact hbk.1
        unfold radr
        rw [hx, if_neg (by omega)]
        rfl
      · cases h
    · cases h
  · cases h

theorem readSegs_spec (ρ : Nat → Loc) {h : Hint} {c l : List Seg} {off n : Nat} {p : Asm} (hr : readSegs h c off n = some (l, p)) (hle : off + n ≤ widths c) : segsVals ρ l = ((segsVals ρ c).drop off).take n ∧ (segsVals ρ l).length = n := by
  unfold readSegs at hr
  split at hr
  · split at hr
    · rename_i k zs
      simp only [Option.some.injEq, Prod.mk.injEq] at hr
      obtain ⟨rfl, _⟩ := hr
      simp only [widths, Seg.width, Nat.add_zero] at hle
      rw [segsVals_one, segsVals_one]
      simp only [Seg.vals]
      refine ⟨by rw [List.map_take, List.map_drop], ?_⟩
      rw [List.length_map, List.length_take, List.length_drop]; omega
    · rename_i k F m
      simp only [Option.some.injEq, Prod.mk.injEq] at hr
      obtain ⟨rfl, _⟩ := hr
      simp only [widths, Seg.width, Nat.add_zero] at hle
      rw [segsVals_one, segsVals_one]
      simp only [Seg.vals]
      refine ⟨by rw [List.map_take, List.map_drop], ?_⟩
      rw [List.length_map, List.length_take, List.length_drop]; omega
    · cases hr
  · split at hr
    · rename_i l' hl
      simp only [Option.some.injEq, Prod.mk.injEq] at hr
      obtain ⟨rfl, _⟩ := hr
      exact getSegs_spec ρ hl
    · cases hr
theorem sub_at {α : Type} {l m : List α} {off n : Nat} (h : l = (m.drop off).take n) : ∀ j u, l[j]? = some u → m[off + j]? = some u := by
  intro j u hj
  subst h
  have hlt := (List.getElem?_eq_some_iff.1 hj).1
  rw [List.length_take] at hlt
  rw [List.getElem?_take_of_lt (by omega), List.getElem?_drop] at hj
  exact hj
theorem foldl_push (ns : List Int) : ∀ (acc : ByteArray), ns.foldl (fun r n => r.push (UInt8.ofNat n.toNat)) acc = ⟨acc.data ++ (ns.map fun z => UInt8.ofNat z.toNat).toArray⟩ := by
  induction ns with
  | nil => intro acc; simp
  | cons n ns ih =>
    intro acc
    rw [List.foldl_cons, ih]
    congr 1
    simp [ByteArray.push]
theorem s_convStr (hT : TOK P T) (hG : HR ρ D N M G w) (hev : EvOK a ρ D ev) {s d : TypeId} {x : Operand} (hop : o.op = .convert s d x) {sv : SV} (hx : ev x = some sv) {ty : Ty} (ht : look T d = some ty) (hu : ty.u = .str) {ts : Ty} (hts : look T s = some ts) {e : TypeId} (hus : ts.u = .sl e) {te : Ty} (hte : look T e = some te) (hue : te.u = .int .u8)
    {h : Hint} {id off m : Nat} {b : Blk} {p1 p2 q : Asm} (hrow : rowOf h.sym G sv = some (id, off, m, b, p1)) (hp1 : p1.holds) {l : List Seg} (hl : readSegs h b.c off m = some (l, p2)) {zs : List Int} (hz : intsOf .u8 l = some zs) : Sn P o a w ρ D N M G base { val := ofV (.string (strOf zs)), asm := q } := by
  have hund : P.underlying d = some .string := by have := (hT d ty ht).und; rw [hu] at this; exact this
  have huns : P.underlying s = some (.slice e) := by have := (hT s ts hts).und; rw [hus] at this; exact this
  have hune : P.underlying e = some (.int .u8) := by have := (hT e te hte).und; rw [hue] at this; exact this
  obtain ⟨hb, hle, ad, cap, hconc, hpos⟩ := rowOf_spec hrow hp1 hG
  obtain ⟨e1, e2⟩ := readSegs_spec ρ hl hle
  have e3 := intsOf_spec ρ l zs hz
  refine sn_same hG (s := Go.convert s d (a.eval x)) (by unfold execOp; rw [hop]; rfl) ?_ rfl rfl
  rw [(hev x _ hx).1, hconc]
  change _ = Result.ok (Value.string (strOf zs)) w
  have hlen : zs.length = m := by rw [← e2, e3, List.length_map]
  rcases Nat.eq_zero_or_pos m with h0 | h0
  · subst h0
    have : zs = [] := List.eq_nil_of_length_eq_zero hlen
    subst this
    cases ad with
    | none => 
      unfold Go.convert
      simp [run_underlying huns, run_underlying hund, run_underlying hune, Conv.bytesToString]
      try rfl
    | some y =>
      rw [run_convert_bytes_string w s d e (some y) 0 cap huns hune hund, run_bytesToString w y 0 cap [] rfl]
      rfl
  · obtain ⟨y, hy, rfl⟩ := hpos h0
    obtain ⟨y', hy', hc⟩ := cells_at (l := segsVals ρ l) (off := off) hG hb (sub_at e1) (by omega)
    rw [hy] at hy'
    injection hy' with hy'
    subst hy'
    have hlc := run_loadCells_list (P := P) w (y.add off) (segsVals ρ l) hc
    rw [e2, e3] at hlc
    rw [run_convert_bytes_string w s d e (some (y.add off)) m cap huns hune hund, run_bytesToString w (y.add off) m cap zs hlc, foldl_push]
    simp [strOf]

theorem s_convNil (hT : TOK P T) (hG : HR ρ D N M G w) (hev : EvOK a ρ D ev) {s d : TypeId} {x : Operand} (hop : o.op = .convert s d x) {sv : SV} (hx : ev x = some sv) {ty : Ty} (ht : look T d = some ty) (hu : ty.u = .str) {ts : Ty} (hts : look T s = some ts) {e : TypeId} (hus : ts.u = .sl e) {te : Ty} (hte : look T e = some te) (hue : te.u = .int .u8) (hnil : isNil sv = true) : Sn P o a w ρ D N M G base { val := ofV (.string .empty) } := by
  have hund : P.underlying d = some .string := by have := (hT d ty ht).und; rw [hu] at this; exact this
  have huns : P.underlying s = some (.slice e) := by have := (hT s ts hts).und; rw [hus] at this; exact this
  have hune : P.underlying e = some (.int .u8) := by have := (hT e te hte).und; rw [hue] at this; exact this
  have hyc : sv.conc ρ = .slice none 0 0 := by
    unfold isNil at hnil
    split at hnil
    · rfl
    · cases hnil
  refine sn_same hG (s := Go.convert s d (a.eval x)) (by unfold execOp; rw [hop]; rfl) ?_ rfl rfl
  rw [(hev x _ hx).1, hyc]
  unfold Go.convert
  simp [run_underlying huns, run_underlying hund, run_underlying hune, Conv.bytesToString]
  rfl

end
end Go.Proofs.Ytkoackalpcmhaaa.Am
