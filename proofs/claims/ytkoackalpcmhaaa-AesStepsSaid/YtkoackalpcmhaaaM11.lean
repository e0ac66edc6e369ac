/- The abstract machine: operation by operation: arrays held against each other, slices made, what is built in. Conditions: none. -/
import Derived.Test.YtkoackalpcmhaaaM10
namespace Go.Proofs.Ytkoackalpcmhaaa.Am
set_option linter.unusedVariables false
set_option linter.unusedSimpArgs false
open Go Go.RowKit
open Rg (gives)

section
variable {P : Program} {T : List (Nat × Ty)} {ρ : Nat → Loc} {D : Nat → Prop} {N : Nat} {M : List Nat} {G : Nat → Option Blk} {base : Nat} {w : World} {o : Oper} {a : Act} {ev : Operand → Option SV}

theorem eqGuard_agg {op : BinOp} {t : TypeId} {x y : Operand} {u v : Array Value} (h : P.eqGuardType P.depth t = false) : (eqGuard op t x y (.agg u) (.agg v)).run P w = .ok () w := by
  unfold eqGuard
  cases op <;> simp [h]
theorem s_arrEq (hT : TOK P T) (hG : HR ρ D N M G w) (hev : EvOK a ρ D ev) {op : BinOp} {t t' : TypeId} {x y : Operand} (hop : o.op = .binOp op t x y t') {sx sy : SV} (hx : ev x = some sx) (hy : ev y = some sy) {k : IntKind} {u v : List Int} (hu : sx.conc ρ = .agg (u.map (Value.int k)).toArray) (hv : sy.conc ρ = .agg (v.map (Value.int k)).toArray) {ty : Ty} (ht : look T t = some ty) {n : Nat} {e : TypeId} (hua : ty.u = .arr n e) (hk : ty.eqk = some k) (hun : u.length = n) (hvn : v.length = n) {q : Asm} (b : Bool) (hb : op = .eql ∧ b = (u == v) ∨ op = .neq ∧ b = !(u == v)) : Sn P o a w ρ D N M G base { val := ofV (.bool b), asm := q } := by
  have hty := hT t ty ht
  obtain ⟨hg, n', e', i, hua', he, hpk, hi, hs⟩ := hty.eqk k hk
  rw [hua] at hua'
  injection hua' with e1 e2
  subst e1 e2
  have htu : P.underlying t = some (.array n e) := by have := hty.und; rw [hua] at this; exact this
  refine sn_same hG (bin_exec hop) ?_ rfl rfl
  rw [(hev x _ hx).1, (hev y _ hy).1, hu, hv]
  change ((eqGuard op t x y _ _) >>= fun _ => Go.binOp op t _ _).run P w = .ok (.bool b) w
  rw [Sem.run_bind, eqGuard_agg hg]
  simp only [Result.andThen_ok]
  rcases hb with ⟨rfl, rfl⟩ | ⟨rfl, rfl⟩
  · exact run_eql_arr w t e n k u v htu he hpk hi hs hun hvn
  · exact run_neq_arr w t e n k u v htu he hpk hi hs hun hvn
theorem s_makeSlice (hT : TOK P T) (hG : HR ρ D N M G w) (hev : EvOK a ρ D ev) (hf : ¬ D base) {t : TypeId} {l c : Operand} (hop : o.op = .makeSlice t l c) {ty : Ty} (ht : look T t = some ty) {e : TypeId} (hu : ty.u = .sl e) {te : Ty} (he : look T e = some te) {k : IntKind} {z0 : Int} (hz : te.zero = .one (.v (.int k z0))) {sl sc : SV} (hl : ev l = some sl) (hc : ev c = some sc) {sym : Bool} {n m : Nat} {p1 p2 : Asm} (h1 : natOf sym okSize sl = some (n, p1)) (hp1 : p1.holds) (h2 : natOf sym okSize sc = some (m, p2)) (hp2 : p2.holds) (hb : n * (te.bytes + 1) ≤ okSize) (hnm : n = m) {q : Asm} :
    Sn P o a w ρ D N M G base { val := .av (.one (.s base 0 n n)), new := [⟨0, e, [.arr k (List.replicate n z0)]⟩], asm := q } := by
  subst hnm
  have hty := hT t ty ht
  have hte := hT e te he
  have hun : P.underlying t = some (.slice e) := by have := hty.und; rw [hu] at this; exact this
  obtain ⟨k1, z1, e1, n1, t1, le1⟩ := natOf_spec (ρ := ρ) h1 hp1
  obtain ⟨k2, z2, e2, n2, t2, le2⟩ := natOf_spec (ρ := ρ) h2 hp2
  have hzz : z1 = z2 := by omega
  subst hzz
  obtain ⟨i, hi, hs, hby, hzv⟩ := hte.info
  have hs1 : i.size = 1 := by
    have := hte.zsz
    rw [hz] at this
    rw [hs, ← this]; rfl
  rw [hz] at hzv
  have hbb : (i.bytes : Int) * z1 ≤ 281474976710656 := by
    have hh : i.bytes * n ≤ 140737488355328 := by
      rw [hby, Nat.mul_comm]
      exact Nat.le_trans (Nat.mul_le_mul_left n (Nat.le_succ _)) hb
    have : z1 = (n : Int) := by omega
    rw [this, ← Int.natCast_mul]
    omega
  refine gives_of (s := Instr.makeSlice t (a.eval l) (a.eval c)) (by unfold execOp; rw [hop]; rfl) (w' := w.alloc (.cells (segsVals ρ [.arr k (List.replicate n z0)]).toArray e)) (v := .slice (some ⟨w.heap.size, 0, none⟩) n n) ?_ ⟨_, fits_new hG hf (c := [.arr k (List.replicate n z0)]) (fun s hs => by simp at hs; subst hs; trivial) rfl rfl ?_⟩
  · rw [(hev l _ hl).1, (hev c _ hc).1, e1, e2]
    have := run_make (P := P) w t e i _ hun hi hzv k1 k2 z1 z1 n1 (Int.le_refl _) hbb (by unfold okSize at le1; omega)
    rw [this, t1, hs1]
    have hr := range_zero [Value.int k z0] n
    have hm : madeCells (AV.conc noLoc (.one (.v (.int k z0)))).cells (n * 1) = (segsVals ρ [.arr k (List.replicate n z0)]).toArray := by
      refine hr.trans ?_
      rw [segsVals_one]
      simp [Seg.vals]
    rw [hm]
  · simp [SV.conc, AV.conc, Seg.conc, up_self, Addr.add_lit]
theorem len_exec {b : Builtin} {args : Array Operand} {ts : Array TypeId} (hop : o.op = .call { callee := .builtin b, args := args, argTypes := ts }) : execOp a.eval o = builtin b ts o.type (args.map fun | .const _ => true | _ => false) (args.map a.eval) := by
  unfold execOp
  rw [hop]
  simp only [resolve, invoke]
  rfl

theorem s_builtin {b : Builtin} {args : Array Operand} {ts : Array TypeId} (hop : o.op = .call { callee := .builtin b, args := args, argTypes := ts }) {s : Sem Value} (hb : builtin b ts o.type (args.map fun | .const _ => true | _ => false) (args.map a.eval) = (do pure (.value (← s)))) {v : Value} {w' : World} {R : Value → World → Prop} (h : s.run P w = .ok v w') (hR : R v w') : gives P o a w R := by
  refine Rg.gives_value (v := v) (w' := w') ?_ hR
  rw [len_exec hop, hb, Sem.run_bind, h]
  rfl
theorem evs_spec (hev : EvOK a ρ D ev) : ∀ (l : List Operand) (r : List SV), evs ev l = some r → l.map a.eval = r.map (SV.conc ρ) ∧ ∀ s ∈ r, s.In D
  | [], r, h => by
    simp only [evs, Option.some.injEq] at h
    subst h
    exact ⟨rfl, fun s hs => by cases hs⟩
  | x :: l, r, h => by
    unfold evs at h
    split at h
    · rename_i s r' hs hr
      simp only [Option.some.injEq] at h
      subst h
      obtain ⟨h1, h2⟩ := evs_spec hev l r' hr
      obtain ⟨e1, e2⟩ := hev x s hs
      refine ⟨by rw [List.map_cons, List.map_cons, e1, h1], fun y hy => ?_⟩
      rcases List.mem_cons.1 hy with rfl | hy
      · exact e2
      · exact h2 y hy
    · cases h
theorem args_of (hev : EvOK a ρ D ev) {args : Array Operand} {r : List SV} (h : evs ev args.toList = some r) : args.map a.eval = (r.map (SV.conc ρ)).toArray := by
  have := (evs_spec hev _ _ h).1
  apply Array.toList_inj.1
  simpa using this
theorem s_len (hT : TOK P T) (hG : HR ρ D N M G w) (hev : EvOK a ρ D ev) {args : Array Operand} {ts : Array TypeId} (hop : o.op = .call { callee := .builtin .len, args := args, argTypes := ts }) {x : SV} (hx : evs ev args.toList = some [x]) {t : TypeId} (hts : ts.toList = [t]) {ty : Ty} (ht : look T t = some ty) {v : Int}
    (h : (∃ n e, ty.u = .arr n e ∧ v = n) ∨ (∃ e ad len cap, ty.u = .sl e ∧ x.conc ρ = .slice ad len cap ∧ v = len) ∨ (∃ s : ByteArray, ty.u = .str ∧ x.conc ρ = .string s ∧ v = s.size)) : Sn P o a w ρ D N M G base { val := ofV (.int .i64 v) } := by
  have hty := hT t ty ht
  have hargs := args_of hev hx
  have hts' : ts = #[t] := by apply Array.toList_inj.1; simpa using hts
  refine s_builtin hop (s := Builtin.len_ ts o.type (args.map a.eval)) rfl (v := .int .i64 v) (w' := w) ?_ ⟨ρ, fits_same hG rfl rfl rfl⟩
  rw [hargs, hts']
  rcases h with ⟨n, e, hu, rfl⟩ | ⟨e, ad, len, cap, hu, hc, rfl⟩ | ⟨s, hu, hc, rfl⟩
  · have hun : P.underlying t = some (.array n e) := by have := hty.und; rw [hu] at this; exact this
    simp [Builtin.len_, run_underlying hun, goInt]
  · have hun : P.underlying t = some (.slice e) := by have := hty.und; rw [hu] at this; exact this
    simp [Builtin.len_, run_underlying hun, goInt, hc]
  · have hun : P.underlying t = some .string := by have := hty.und; rw [hu] at this; exact this
    simp [Builtin.len_, run_underlying hun, goInt, hc]
theorem s_min (hG : HR ρ D N M G w) (hev : EvOK a ρ D ev) {args : Array Operand} {ts : Array TypeId} (hop : o.op = .call { callee := .builtin .min, args := args, argTypes := ts }) {k j : IntKind} {x y : Int} (hx : evs ev args.toList = some [ofV (.int k x), ofV (.int j y)]) : Sn P o a w ρ D N M G base { val := ofV (.int k (if y < x then y else x)) } := by
  have hargs := args_of hev hx
  refine s_builtin hop (s := Builtin.min_ ts o.type (args.map a.eval)) rfl (v := .int k (if y < x then y else x)) (w' := w) ?_ ⟨ρ, fits_same hG rfl rfl rfl⟩
  rw [hargs]
  rfl

/-- append: the new row. -/
theorem fits_row (hG : HR ρ D N M G w) {old : Option Nat} {c c2 : List Seg} {e : TypeId} (hold : ∀ id, old = some id → ∃ b, G id = some b ∧ b.k < 2) {sv v' : Value} {n' : Nat} {w' : World} (hf : ¬ D base) {r : Res} (hin : segsIn D c2)
    (hown : w'.ownsRow 0 e 1 v' n' (segsVals ρ c2)) (hgr : w.grownBy w' sv.ownBlock) (hsv : ∀ g, sv.ownBlock = some g → ∃ id, old = some id ∧ ∃ x, (ρ id).a = some x ∧ x.block = g) (hnew : ∀ g, v'.ownBlock = some g → sv.ownBlock = some g ∨ w.heap.size ≤ g)
    (hv : r.val = .av (.one (.r base 0 n' 0))) (hn : r.new = [⟨1, e, c2⟩]) (hu : r.upd = killOf old) : ∃ ρ', Fits ρ D N M G base r w ρ' v' w' := by
  obtain ⟨ad, cap, hvv⟩ : ∃ ad cap, v' = .slice ad n' cap := by
    rcases hown.2 with ⟨rfl, h⟩ | ⟨g, cap, cur, rfl, _⟩
    · exact ⟨none, 0, by rw [h]⟩
    · exact ⟨_, cap, rfl⟩
  have hag : ∀ i, D i → up ρ base ⟨ad, cap⟩ i = ρ i := up_agree hf
  have hown0 : ∀ g, v'.ownBlock = some g → g < w'.heap.size := fun g hg => (hown.lt g hg).2
  have hoOwn : ∀ g, sv.ownBlock = some g → N ≤ g ∨ g ∈ M := fun g hg => by
    obtain ⟨id, hid, x, hx, rfl⟩ := hsv g hg
    obtain ⟨b, hb, hk⟩ := hold id hid
    exact hG.own id b x hb hk hx
  refine ⟨up ρ base ⟨ad, cap⟩, hag, ?_, ?_, ⟨hgr.os, hgr.tape, hgr.output, hgr.size, fun k hk hm => ?_⟩, fun hnil => ?_⟩
  rotate_right
  · have hno : sv.ownBlock = none := by
      cases hs : sv.ownBlock with
      | none => rfl
      | some g =>
        obtain ⟨id, hid, _⟩ := hsv g hs
        rw [hu, hid] at hnil
        cases hnil
    refine ⟨⟨hgr.os, hgr.tape, hgr.output, hgr.size, fun k hk => hgr.block k hk (by rw [hno]; simp)⟩, fun k b x hk hx => ?_⟩
    rw [hn] at hk
    cases k with
    | zero =>
      simp only [Nat.add_zero, up_self] at hx
      rcases hnew x.block (by rw [hvv, hx]; rfl) with h | h
      · rw [hno] at h; cases h
      · exact h
    | succ k => simp at hk
  · rw [hv, hvv]
    simp only [SV.conc, AV.conc, Seg.conc, up_self, radr, Nat.sub_zero]
    congr 1
    cases ad <;> simp [Addr.add]
  · have hb0 : ∀ id, old = some id → id ≠ base := fun id hid e => by
      obtain ⟨b, hb, _⟩ := hold id hid
      exact hf (e ▸ (hG.blk id b hb).1)
    have ha : ∀ i b, appl G base r i = some b → (i = base ∧ b = ⟨1, e, c2⟩) ∨ (i ≠ base ∧ G i = some b ∧ old ≠ some i) := fun i b hb => by
      unfold appl at hb
      rw [hu, hn] at hb
      simp only [List.length_cons, List.length_nil] at hb
      cases old with
      | none =>
        simp only [killOf, look] at hb
        by_cases hi : i = base
        · subst hi
          rw [if_pos (by omega)] at hb
          simp at hb
          exact .inl ⟨rfl, hb.symm⟩
        · rw [if_neg (by omega)] at hb
          exact .inr ⟨hi, hb, by simp⟩
      | some id =>
        simp only [killOf, look] at hb
        by_cases hid : id = i
        · subst hid
          have : Nat.beq id id = true := Nat.beq_refl id
          rw [this] at hb
          cases hb
        · have : Nat.beq id i = false := by
            cases hq : Nat.beq id i
            · rfl
            · exact absurd (Nat.eq_of_beq_eq_true hq) hid
          rw [this] at hb
          simp only at hb
          by_cases hi : i = base
          · subst hi
            rw [if_pos (by omega)] at hb
            simp at hb
            exact .inl ⟨rfl, hb.symm⟩
          · rw [if_neg (by omega)] at hb
            exact .inr ⟨hi, hb, fun h => hid (by injection h)⟩
    have hother : ∀ i b x, i ≠ base → G i = some b → old ≠ some i → (ρ i).a = some x → sv.ownBlock ≠ some x.block := fun i b x _ hb ho hx hs => by
      obtain ⟨id, hid, y, hy, hyx⟩ := hsv _ hs
      obtain ⟨bo, hbo, hko⟩ := hold id hid
      exact hG.dist id i bo b y x hbo hb (fun h => ho (h ▸ hid)) hko hy hx hyx
    have hbase : ∀ x, (up ρ base ⟨ad, cap⟩ base).a = some x → v'.ownBlock = some x.block := fun x hx => by
      rw [up_self] at hx
      simp only at hx
      rw [hvv, hx]
      rfl
    have hclash : ∀ i b x y, i ≠ base → G i = some b → old ≠ some i → (ρ i).a = some x → (up ρ base ⟨ad, cap⟩ base).a = some y → x.block ≠ y.block := fun i b x y hi hb ho hx hy hxy => by
      rcases hnew _ (hbase y hy) with h1 | h1
      · exact hother i b x hi hb ho hx (by rw [h1, hxy])
      · have := hG.lt i b x hb hx; omega
    refine hG.step (U := fun i => i = base) hag (fun i h => .inl h) hgr.size (fun i b hb hU => ?_) (fun i b x hb hU hx => ?_) (fun i b hb hU => ?_) (fun i b x hb hU hx => ?_) (fun i b x hb hU hk hx => ?_) (fun i j bi bj x y hi hj hij hU hk hx hy => ?_)
    · rcases ha i b hb with ⟨h, _⟩ | ⟨_, h, _⟩
      · exact absurd h hU
      · exact h
    · rcases ha i b hb with ⟨h, _⟩ | ⟨h0, h, ho⟩
      · exact absurd h hU
      · exact hgr.block _ (hG.lt i b x h hx) (fun e => hother i b x h0 h ho hx e.symm)
    · subst hU
      rcases ha i b hb with ⟨_, rfl⟩ | ⟨h, _⟩
      · refine ⟨.inr ⟨Nat.le_refl _, by rw [hn]; simp⟩, hin.mono fun i h => .inl h, ?_⟩
        unfold BlkOK
        simp only [up_self]
        rw [segsVals_congr hag hin]
        have hl : (segsVals ρ c2).length = n' := by have := hown.1; omega
        rw [hl, ← hvv]
        exact hown
      · exact absurd rfl h
    · subst hU
      exact hown0 _ (hbase x hx)
    · subst hU
      rcases hnew _ (hbase x hx) with h1 | h1
      · exact hoOwn _ h1
      · exact .inl (Nat.le_trans hG.size h1)
    · rcases ha i bi hi with ⟨rfl, _⟩ | ⟨hi0, hgi, hoi⟩
      · rcases ha j bj hj with ⟨rfl, _⟩ | ⟨hj0, hgj, hoj⟩
        · exact absurd rfl hij
        · rw [hag j (hG.blk j bj hgj).1] at hy
          exact fun h => hclash j bj y x hj0 hgj hoj hy hx h.symm
      · rcases ha j bj hj with ⟨rfl, _⟩ | ⟨hj0, hgj, hoj⟩
        · rw [hag i (hG.blk i bi hgi).1] at hx
          exact hclash i bi x y hi0 hgi hoi hx hy
        · rcases hU with h | h
          · exact absurd h hi0
          · exact absurd h hj0
  · refine hgr.block k (by have := hG.size; omega) fun e => ?_
    rcases hoOwn k e.symm with h | h
    · omega
    · exact hm h

end
end Go.Proofs.Ytkoackalpcmhaaa.Am
