/- The abstract machine: every operation comes to what was reckoned. Conditions: none. -/
import Derived.Test.YtkoackalpcmhaaaM12
namespace Go.Proofs.Ytkoackalpcmhaaa.Am
set_option linter.unusedVariables false
set_option linter.unusedSimpArgs false
open Go Go.RowKit
open Rg (gives)

/-- A function's contract, as the machine reckons with it. -/
def EntOK (P : Program) (f : FuncId) (ent : Ent) : Prop :=
  (∃ fn, P.funcs[f]? = some fn ∧ (fn.name == "runtime.NumGoroutine") = false ∧ fn.body.isSome = true) ∧
  ∀ args G base res, ent args G base = some res → res.asm.holds → ∀ ρ D N M w, HR ρ D N M G w → (∀ s ∈ args, s.In D) → (∀ id, base ≤ id → id < base + res.new.length → ¬ D id) →
    Calls P f (args.map (SV.conc ρ)).toArray w fun e w' => ∃ v, e = .returned v ∧ ∃ ρ', Fits ρ D N M G base res w ρ' v w'
def OOK (P : Program) (O : List (Nat × Ent)) : Prop := ∀ f e, look O f = some e → EntOK P f e

section
variable {P : Program} {T : List (Nat × Ty)} {O : List (Nat × Ent)} {ρ : Nat → Loc} {D : Nat → Prop} {N : Nat} {M : List Nat} {G : Nat → Option Blk} {base : Nat} {w : World} {o : Oper} {a : Act} {ev : Operand → Option SV}

theorem s_call (hO : OOK P O) (hG : HR ρ D N M G w) (hev : EvOK a ρ D ev) {f : FuncId} {args : Array Operand} {ts : Array TypeId} (hop : o.op = .call { callee := .value (.func f), args := args, argTypes := ts }) {e : Ent} (he : look O f = some e) {l : List SV} (hl : evs ev args.toList = some l) {r : Res} (hr : e l G base = some r) (ha : r.asm.holds) (hf : ∀ id, base ≤ id → id < base + r.new.length → ¬ D id) : Sn P o a w ρ D N M G base r := by
  obtain ⟨⟨fn, hfn, hname, hbody⟩, h⟩ := hO f e he
  refine Rg.gives_call (P := P) (ts := ts) hfn hname hbody (args.map a.eval) hop rfl ?_
  rw [args_of hev hl]
  exact h l G base r hr ha ρ D N M w hG (evs_spec hev _ _ hl).2 hf

/-- Is it the call of a function? -/
def isCall : Op → Bool
  | .call c => match c.callee with
    | .value _ => true
    | _ => false
  | _ => false

theorem aggB_conc (ρ : Nat → Loc) {b : AV} (h : aggB b = true) : b.conc ρ = .agg (segsVals ρ b.segs).toArray := by
  unfold aggB at h
  split at h
  · rfl
  · simp [AV.conc, Seg.conc, AV.segs, segsVals_one, Seg.vals]
  · simp [AV.conc, Seg.conc, AV.segs, segsVals_one, Seg.vals]
  · simp [AV.conc, Seg.conc, AV.segs, segsVals_one, Seg.vals]
  · cases h
theorem aggB_spec {b : AV} (h : aggB b = true) : ∃ cs, b.conc ρ = .agg cs := by
  unfold aggB at h
  split at h
  · exact ⟨_, rfl⟩
  · exact ⟨_, rfl⟩
  · exact ⟨_, rfl⟩
  · exact ⟨_, rfl⟩
  · cases h
theorem storeAt_spec {ty : Ty} {sym : Bool} {c c' : List Seg} {off : Nat} {v : AV} {p : Asm} (h : storeAt ty sym c off v = some (c', p)) (hp : p.holds) : segsOk v.segs = true ∧ widths v.segs = ty.size ∧ segsVals ρ c' = (segsVals ρ c).take off ++ segsVals ρ v.segs ++ (segsVals ρ c).drop (off + (segsVals ρ v.segs).length) ∧ off + (segsVals ρ v.segs).length ≤ (segsVals ρ c).length := by
  have hset : ∀ (l : List Value) (u : Value), off < l.length → l.set off u = l.take off ++ [u] ++ l.drop (off + 1) := by
    intro l u hl
    rw [List.set_eq_take_append_cons_drop, if_pos hl]
    simp
  unfold storeAt at h
  split at h
  · cases h
  · rename_i hok
    simp only [Bool.and_eq_true] at hok
    refine ⟨hok.2, Nat.eq_of_beq_eq_true hok.1, ?_⟩
    split at h
    · split at h
      · rename_i j zs k z
        split at h
        · rename_i hk
          have := ik_inj hk
          subst this
          simp only [Option.some.injEq, Prod.mk.injEq] at h
          obtain ⟨rfl, rfl⟩ := h
          have hp' : off < zs.length := hp
          have e : segsVals ρ (AV.segs (.one (.v (.int k z)))) = [.int k z] := rfl
          rw [e, segsVals_one, segsVals_one]
          simp only [Seg.vals, List.length_map, List.length_cons, List.length_nil]
          refine ⟨?_, by omega⟩
          rw [List.map_set, hset _ _ (by simpa using hp')]
        · cases h
      · cases h
    · split at h
      · rename_i x
        split at h
        · rename_i c'' hput
          simp only [Option.some.injEq, Prod.mk.injEq] at h
          obtain ⟨rfl, _⟩ := h
          obtain ⟨e1, e2⟩ := putCell_spec ρ (y := .v x) rfl (fun _ => rfl) _ _ _ hput
          have e : segsVals ρ (AV.segs (.one (.v x))) = [x] := rfl
          rw [e, e1]
          refine ⟨hset _ _ e2, by simp; omega⟩
        · cases h
      · split at h
        · rename_i c'' hput
          simp only [Option.some.injEq, Prod.mk.injEq] at h
          obtain ⟨rfl, _⟩ := h
          exact putSegs_spec ρ hput
        · cases h
theorem builtin_sound (hT : TOK P T) (hG : HR ρ D N M G w) (hev : EvOK a ρ D ev) {h : Hint} {b : Builtin} {args : Array Operand} {ts : Array TypeId} (hop : o.op = .call { callee := .builtin b, args := args, argTypes := ts }) {l : List SV} (hl : evs ev args.toList = some l) {r : Res} (hr : builtinOf T G h base b ts.toList l = some r) (ha : r.asm.holds) (hf : ∀ id, base ≤ id → id < base + r.new.length → ¬ D id) (hin : ∀ b ∈ r.new, segsIn D b.c) : Sn P o a w ρ D N M G base r := by
  unfold builtinOf at hr
  split at hr
  · split at hr
    · rename_i x t hts
      split at hr
      · cases hr
      · rename_i ty ht
        split at hr
        · rename_i n e hu
          simp only [Option.some.injEq] at hr
          subst hr
          exact s_len hT hG hev hop hl hts ht (.inl ⟨n, e, hu, rfl⟩)
        · rename_i e hu
          split at hr
          · simp only [Option.some.injEq] at hr
            subst hr
            exact s_len hT hG hev hop hl hts ht (.inr (.inl ⟨e, _, _, _, hu, rfl, rfl⟩))
          · simp only [Option.some.injEq] at hr
            subst hr
            exact s_len hT hG hev hop hl hts ht (.inr (.inl ⟨e, _, _, _, hu, rfl, rfl⟩))
          · simp only [Option.some.injEq] at hr
            subst hr
            exact s_len hT hG hev hop hl hts ht (.inr (.inl ⟨e, _, _, _, hu, rfl, rfl⟩))
          · cases hr
        · rename_i hu
          split at hr
          · simp only [Option.some.injEq] at hr
            subst hr
            exact s_len hT hG hev hop hl hts ht (.inr (.inr ⟨_, hu, rfl, rfl⟩))
          · cases hr
        · cases hr
    · cases hr
  · split at hr
    · rename_i x y t t' hts
      split at hr
      · rename_i ty htt ht
        have := Nat.eq_of_beq_eq_true htt
        subst this
        split at hr
        · rename_i e hu
          split at hr
          · cases hr
          · rename_i te he
            split at hr
            · cases hr
            · rename_i hsz
              have hsz := Nat.eq_of_beq_eq_true hsz
              split at hr
              · rename_i hnil
                split at hr
                · simp only [Option.some.injEq] at hr
                  subst hr
                  exact s_append_nil hT hG hev hop hl hts ht hu he hnil ⟨none, 0, 0, rfl, Nat.le_refl _⟩
                · split at hr
                  · rename_i old c p1 ho
                    simp only [Option.some.injEq] at hr
                    subst hr
                    exact s_append_nil hT hG hev hop hl hts ht hu he hnil (oldRow_sl hG ho ha)
                  · cases hr
              · split at hr
                · rename_i old c p1 id off m b p2 ho hrow
                  split at hr
                  · rename_i news p3 hn
                    split at hr
                    · rename_i p4 hw hok
                      simp only [Option.some.injEq] at hr
                      subst hr
                      refine s_append hT hG hev (hf base (Nat.le_refl _) (by simp)) hop hl hts ht hu he hsz ho ha.1 hrow ha.2.1 hn (within_spec hw ha.2.2.2.1) hok (fun ρ => ?_) (hin _ (List.mem_singleton.2 rfl))
                      cases hc : h.c with
                      | none => simp only; exact join_spec ρ _ _
                      | some l =>
                        simp only
                        have := ha.2.2.2.2
                        rw [hc] at this
                        rw [this ρ]; exact join_spec ρ _ _
                    · cases hr
                  · cases hr
                · cases hr
        · cases hr
      · cases hr
    · cases hr
  · split at hr
    · simp only [Option.some.injEq] at hr
      subst hr
      exact s_min hG hev hop hl
    · cases hr
  · cases hr
theorem aop1_sound (hT : TOK P T) (hO : OOK P O) (hG : HR ρ D N M G w) (hev : EvOK a ρ D ev) {h : Hint} {r : Res} (hr : aop1 T O G ev h base o.op = some r) (ha : r.asm.holds) (hf : ∀ id, base ≤ id → id < base + r.new.length → ¬ D id)
    (hin : isCall o.op = false → (∀ b ∈ r.new, segsIn D b.c) ∧ ∀ x ∈ r.upd, ∀ b, x.2 = some b → segsIn D b.c) : Sn P o a w ρ D N M G base r := by
  have hf1 : ∀ {b : Blk}, r.new = [b] → ¬ D base := fun hb => hf base (Nat.le_refl _) (by rw [hb]; simp)
  have hin1 : isCall o.op = false → ∀ {b : Blk}, r.new = [b] → segsIn D b.c := fun hc b hb => (hin hc).1 b (by rw [hb]; simp)
  have hin2 : isCall o.op = false → ∀ {id : Nat} {b : Blk}, r.upd = [(id, some b)] → segsIn D b.c := fun hc id b hb => (hin hc).2 (id, some b) (by rw [hb]; simp) b rfl
  unfold aop1 at hr
  cases hop : o.op with
  | move x =>
    simp only [hop] at hr
    cases hs : ev x with
    | none => simp [hs, ret] at hr
    | some s =>
      simp only [hs, ret, Option.some.injEq] at hr
      subst hr
      exact s_move hG hev hop hs
  | assign x =>
    simp only [hop] at hr
    cases hs : ev x with
    | none => simp [hs, ret] at hr
    | some s =>
      simp only [hs, ret, Option.some.injEq] at hr
      subst hr
      exact s_assign hG hev hop hs
  | pick c x y =>
    simp only [hop] at hr
    split at hr
    · rename_i hc
      cases hs : ev x with
      | none => simp [hs, ret] at hr
      | some s =>
        simp only [hs, ret, Option.some.injEq] at hr
        subst hr
        exact s_pick hG hev hop (t := true) hc hs
    · rename_i hc
      cases hs : ev y with
      | none => simp [hs, ret] at hr
      | some s =>
        simp only [hs, ret, Option.some.injEq] at hr
        subst hr
        exact s_pick hG hev hop (t := false) hc hs
    · cases hr
  | alloc t =>
    simp only [hop] at hr
    split at hr
    · rename_i ty ht
      simp only [Option.some.injEq] at hr
      subst hr
      exact s_alloc hT hG (hf1 rfl) hop ht
    · cases hr
  | box t x =>
    simp only [hop] at hr
    split at hr
    · rename_i b hx
      split at hr
      · rename_i hok
        simp only [Option.some.injEq] at hr
        subst hr
        exact s_box hG hev (hf1 rfl) hop hx hok
      · cases hr
    · cases hr
  | build t parts =>
    simp only [hop] at hr
    split at hr
    · rename_i ty ht
      split at hr
      · rename_i n e hu
        split at hr
        · rename_i te l he hl
          simp only [Option.some.injEq] at hr
          subst hr
          exact s_build_arr hT hG hev hop ht hu he hl
        · cases hr
      · rename_i fs hu
        split at hr
        · rename_i l hl
          simp only [Option.some.injEq] at hr
          subst hr
          exact s_build_st hT hG hev hop ht hu hl
        · cases hr
      · cases hr
    · cases hr
  | buildSlice t len parts =>
    simp only [hop] at hr
    split at hr
    · rename_i ty ht
      split at hr
      · rename_i e hu
        split at hr
        · rename_i te he
          split at hr
          · rename_i l hle hl
            simp only [Option.some.injEq] at hr
            subst hr
            exact s_buildSlice hT hG hev (hf1 rfl) hop ht hu he (Nat.le_of_ble_eq_true hle) hl (hin1 (by rw [hop]; rfl) rfl)
          · cases hr
        · cases hr
      · cases hr
    · cases hr
  | load t x =>
    simp only [hop] at hr
    split at hr
    · rename_i ty id off ht hx
      split at hr
      · rename_i b hb
        split at hr
        · rename_i v p hv
          simp only [Option.some.injEq] at hr
          subst hr
          obtain ⟨_, h2, h3⟩ := readAt_spec (P := P) (ρ := ρ) (w := w) (hT t ty ht) hv ha
          cases hagg : ty.u.agg with
          | false => exact s_load_one hT hG hev hop ht hagg hx hb (h2 hagg)
          | true =>
            obtain ⟨l, hl, rfl, hle⟩ := h3 hagg
            exact s_load_agg hT hG hev hop ht hagg hx hb hl hle
        · cases hr
      · cases hr
    · cases hr
  | store t x y =>
    simp only [hop] at hr
    split at hr
    · rename_i ty id off v ht hx hy
      split at hr
      · rename_i b hb
        split at hr
        · rename_i hk
          split at hr
          · rename_i c p hs
            simp only [Option.some.injEq] at hr
            subst hr
            obtain ⟨h1, h2, h3, h4⟩ := storeAt_spec (ρ := ρ) hs ha
            exact s_store hT hG hev hop ht hx hb (Nat.eq_of_beq_eq_true hk) hy h1 h2 h3 h4 (hin2 (by rw [hop]; rfl) rfl)
          · cases hr
        · cases hr
      · cases hr
    · cases hr
  | nilCheck x =>
    simp only [hop] at hr
    split at hr
    · rename_i id off hx
      split at hr
      · rename_i hb
        split at hr
        · rename_i hA
          simp only [Option.some.injEq] at hr
          subst hr
          exact s_nilCheck hG hev hop hx hb hA
        · cases hr
      · cases hr
    · cases hr
  | binOp op t x y t' =>
    simp only [hop] at hr
    split at hr
    · rename_i u v hx hy
      split at hr
      · rename_i ty ht
        split at hr
        · rename_i hu
          split at hr
          · simp only [Option.some.injEq] at hr
            subst hr
            exact s_boolEq hT hG hev hop hx hy ht hu _ (.inl ⟨rfl, rfl⟩)
          · simp only [Option.some.injEq] at hr
            subst hr
            exact s_boolEq hT hG hev hop hx hy ht hu _ (.inr ⟨rfl, rfl⟩)
          · cases hr
        · cases hr
      · cases hr
    · rename_i u v hx hy
      split at hr
      · rename_i r' p hb
        simp only [Option.some.injEq] at hr
        subst hr
        exact s_bin hG hev hop hx hy hb ha
      · cases hr
    · rename_i id off hx hy
      split at hr
      · rename_i ty ht
        split at hr
        · rename_i hu hb
          split at hr
          · rename_i hA
            simp only [Option.some.injEq] at hr
            subst hr
            exact s_ptrNil hT hG hev hop hx hy hb hA ht hu _ (.inl ⟨rfl, rfl⟩)
          · rename_i hA
            simp only [Option.some.injEq] at hr
            subst hr
            exact s_ptrNil hT hG hev hop hx hy hb hA ht hu _ (.inr ⟨rfl, rfl⟩)
          · cases hr
        · cases hr
      · cases hr
    · rename_i u v hx hy
      split at hr
      · rename_i ty ht
        split at hr
        · rename_i hu hk
          split at hr
          · simp only [Option.some.injEq] at hr
            subst hr
            exact s_arrEq hT hG hev hop hx hy (u := words u) (v := words v) rfl rfl ht hu hk rfl rfl _ (.inl ⟨rfl, rfl⟩)
          · simp only [Option.some.injEq] at hr
            subst hr
            exact s_arrEq hT hG hev hop hx hy (u := words u) (v := words v) rfl rfl ht hu hk rfl rfl _ (.inr ⟨rfl, rfl⟩)
          · cases hr
        · cases hr
      · cases hr
    · rename_i sa sb _ _ _ _ hx hy
      split at hr
      · rename_i ty ht
        split at hr
        · rename_i n q hu hk
          split at hr
          · rename_i u v hu' hv' hagg
            rw [Bool.and_eq_true] at hagg
            have ca : SV.conc ρ (.av sa) = .agg (u.map (Value.int q)).toArray := by rw [conc_av, aggB_conc ρ hagg.1, intsOf_spec ρ _ _ hu']
            have cb : SV.conc ρ (.av sb) = .agg (v.map (Value.int q)).toArray := by rw [conc_av, aggB_conc ρ hagg.2, intsOf_spec ρ _ _ hv']
            split at hr
            · rename_i hl
              rw [Bool.and_eq_true] at hl
              simp only [Option.some.injEq] at hr
              subst hr
              exact s_arrEq hT hG hev hop hx hy ca cb ht hu hk (Nat.eq_of_beq_eq_true hl.1) (Nat.eq_of_beq_eq_true hl.2) _ (.inl ⟨rfl, rfl⟩)
            · rename_i hl
              rw [Bool.and_eq_true] at hl
              simp only [Option.some.injEq] at hr
              subst hr
              exact s_arrEq hT hG hev hop hx hy ca cb ht hu hk (Nat.eq_of_beq_eq_true hl.1) (Nat.eq_of_beq_eq_true hl.2) _ (.inr ⟨rfl, rfl⟩)
            · cases hr
          · cases hr
        · cases hr
      · cases hr
    · cases hr
  | unOp op t x =>
    simp only [hop] at hr
    split at hr
    · rename_i b hx
      split at hr
      · simp only [Option.some.injEq] at hr
        subst hr
        exact s_not hG hev hop hx
      · cases hr
    · cases hr
  | convert s d x =>
    simp only [hop] at hr
    split at hr
    · rename_i ts ty sv hts ht hx
      split at hr
      · rename_i k hu
        split at hr
        · simp only [Option.some.injEq] at hr
          subst hr
          refine s_convInt hT hG hev hop hx ht hu ?_
          have hus := (hT s ts hts).und
          cases hq : ts.u with
          | oth => rw [hq] at hus; obtain ⟨d, hd, _⟩ := hus; exact ⟨d, hd⟩
          | st fs => rw [hq] at hus; obtain ⟨d, hd, _⟩ := hus; exact ⟨_, hd⟩
          | _ => rw [hq] at hus; exact ⟨_, hus⟩
        · cases hr
      · rename_i hu
        split at hr
        · rename_i e hus
          split at hr
          · rename_i te he
            split at hr
            · rename_i hue
              split at hr
              · rename_i hnil
                simp only [Option.some.injEq] at hr
                subst hr
                exact s_convNil hT hG hev hop hx ht hu hts hus he hue hnil
              · split at hr
                · rename_i id off m b p1 hrow
                  split at hr
                  · rename_i l p2 hl
                    split at hr
                    · rename_i zs hz
                      simp only [Option.some.injEq] at hr
                      subst hr
                      exact s_convStr hT hG hev hop hx ht hu hts hus he hue hrow ha.1 hl hz
                    · cases hr
                  · cases hr
                · cases hr
            · cases hr
          · cases hr
        · cases hr
      · cases hr
    · cases hr
  | sliceToArrayPointer t x =>
    simp only [hop] at hr
    split at hr
    · rename_i ty sv ht hx
      split at hr
      · rename_i n e hu
        split at hr
        · rename_i id off m b p1 hrow
          split at hr
          · rename_i p2 hw hn
            simp only [Option.some.injEq] at hr
            subst hr
            exact s_arrPtr hT hG hev hop ht hu hx hrow ha.1 (within_spec hw ha.2) (Nat.le_of_ble_eq_true hn)
          · cases hr
        · cases hr
      · cases hr
    · cases hr
  | makeSlice t l c =>
    simp only [hop] at hr
    split at hr
    · rename_i ty sl sc ht hl hc
      split at hr
      · rename_i e hu
        split at hr
        · rename_i te he
          split at hr
          · rename_i k z0 hz
            split at hr
            · rename_i n p1 m p2 h1 h2
              split at hr
              · rename_i p3 p4 hw hnm
                simp only [Option.some.injEq] at hr
                subst hr
                refine s_makeSlice hT hG hev (hf1 rfl) hop ht hu he hz hl hc h1 ha.1 h2 ha.2.1 (within_spec hw ha.2.2.1) ?_
                cases hsy : h.sym with
                | true => rw [hsy] at hnm; simp only [Option.some.injEq] at hnm; have := ha.2.2.2; rw [← hnm] at this; exact this
                | false =>
                  rw [hsy] at hnm
                  simp only at hnm
                  split at hnm
                  · rename_i hq; exact Nat.eq_of_beq_eq_true hq
                  · cases hnm
              · cases hr
            · cases hr
          · cases hr
        · cases hr
      · cases hr
    · cases hr
  | slice t x lo hi mx =>
    simp only [hop] at hr
    split at hr
    · rename_i ty sv ht hx
      split at hr
      · rename_i lo' hi' mx' hlo hhi hmx
        have hg : ∀ (y : Option Operand) (z : Option SV), (match y with | none => some none | some q => match ev q with | some v => some (some v) | none => none) = some z → y.map a.eval = z.map (SV.conc ρ) := by
          intro y z hyz
          cases y with
          | none => simp only [Option.some.injEq] at hyz; subst hyz; rfl
          | some q =>
            simp only at hyz
            split at hyz
            · rename_i v hv
              simp only [Option.some.injEq] at hyz
              subst hyz
              simp only [Option.map_some, (hev q v hv).1]
            · cases hyz
        have e1 := hg _ _ hlo
        have e2 := hg _ _ hhi
        have e3 := hg _ _ hmx
        have hty := hT t ty ht
        have fin : ∀ {e : TypeId} {te : Ty} {n : Nat}, look T e = some te → sliceOf h.sym te.size G sv lo' hi' mx' n = some r → ((∃ id off, sv = .av (.one (.p id off)) ∧ P.underlying t = some (.array n e)) ∨ ((∀ id off, sv ≠ .av (.one (.p id off))) ∧ P.underlying t = some (.slice e))) → Sn P o a w ρ D N M G base r := by
          intro e te n he hs hun
          obtain ⟨h1, h2, h3⟩ := sliceOf_spec (t := t) hG (hT e te he) hs ha hun
          refine sn_same hG (slice_exec hop) ?_ h2 h3
          rw [(hev x _ hx).1, e1, e2, e3]
          exact h1
        split at hr
        · rename_i n e hu
          have hun : P.underlying t = some (.array n e) := by have := hty.und; rw [hu] at this; exact this
          split at hr
          · rename_i te id off he
            exact fin he hr (.inl ⟨id, off, rfl, hun⟩)
          · cases hr
        · rename_i e hu
          have hun : P.underlying t = some (.slice e) := by have := hty.und; rw [hu] at this; exact this
          split at hr
          · cases hr
          · rename_i te he hne
            exact fin he hr (.inr ⟨fun id off hh => hne id off hh, hun⟩)
          · cases hr
        · cases hr
      · cases hr
    · cases hr
  | fieldAddr t x f =>
    simp only [hop] at hr
    split at hr
    · rename_i ty id off ht hx
      split at hr
      · rename_i fs o' n hu hpl hb
        split at hr
        · rename_i hn
          simp only [Option.some.injEq] at hr
          subst hr
          rw [hu] at hpl
          rw [Bool.and_eq_true] at hn
          exact s_fieldAddr hT hG hev hop ht hu hx hb hn.2 hpl (Nat.le_of_ble_eq_true hn.1)
        · cases hr
      · cases hr
    · cases hr
  | field t x f =>
    simp only [hop] at hr
    split at hr
    · rename_i ty b ht hx
      split at hr
      · rename_i fs hu
        split at hr
        · rename_i off t' hfs
          split at hr
          · rename_i ty' ht'
            split at hr
            · rename_i v p hok hv
              simp only [Bool.and_eq_true] at hok
              simp only [Option.some.injEq] at hr
              subst hr
              exact s_field hT hG hev hop ht hu hx hok.1 hfs ht' hv ha (aggB_spec hok.2)
            · cases hr
          · cases hr
        · cases hr
      · cases hr
    · cases hr
  | indexAddr t x i =>
    simp only [hop] at hr
    split at hr
    · rename_i ty sx si ht hx hi
      split at hr
      · rename_i n e hu
        split at hr
        · rename_i id off te j p he hj
          split at hr
          · rename_i hb
            split at hr
            · rename_i hn
              simp only [Option.some.injEq] at hr
              subst hr
              rw [Bool.and_eq_true] at hn
              exact s_indexAddr_arr hT hG hev hop ht hu he hx hb hn.2 hi hj ha (Nat.le_of_ble_eq_true hn.1)
            · cases hr
          · cases hr
        · cases hr
      · rename_i e hu
        split at hr
        · rename_i id off m b p1 te hrow he
          split at hr
          · rename_i j p2 hj
            split at hr
            · rename_i p3 hw
              simp only [Option.some.injEq] at hr
              subst hr
              exact s_indexAddr_sl hT hG hev hop ht hu he hx hrow ha.1 hi hj ha.2.1 (within_spec hw ha.2.2)
            · cases hr
          · cases hr
        · cases hr
      · cases hr
    · cases hr
  | index t x i =>
    simp only [hop] at hr
    split at hr
    · rename_i ty b si ht hx hi
      split at hr
      · rename_i n e hu
        split at hr
        · rename_i te j p he hj
          split at hr
          · rename_i v p' hok hv
            simp only [Bool.and_eq_true] at hok
            simp only [Option.some.injEq] at hr
            subst hr
            exact s_index hT hG hev hop ht hu he hx hok.1.1 hi hj ha.1 (Nat.le_of_ble_eq_true hok.2) hv ha.2 (aggB_spec hok.1.2)
          · cases hr
        · cases hr
      · cases hr
    · cases hr
  | extract x i =>
    simp only [hop] at hr
    split at hr
    · rename_i l hx
      split at hr
      · rename_i b hb
        simp only [Option.some.injEq] at hr
        subst hr
        exact s_extract hG hev hop hx hb
      · cases hr
    · cases hr
  | call c =>
    obtain ⟨cal, args, ts⟩ := c
    simp only [hop] at hr
    split at hr
    · rename_i f
      split at hr
      · rename_i e l he hl
        exact s_call hO hG hev hop he hl hr ha hf
      · cases hr
    · rename_i b
      split at hr
      · rename_i l hl
        exact builtin_sound hT hG hev hop hl hr ha hf (hin (by rw [hop]; rfl)).1
      · cases hr
    · cases hr
  | _ => simp [hop] at hr

end
end Go.Proofs.Ytkoackalpcmhaaa.Am
