/- The abstract machine: code, and calls. Conditions: none. -/
import Derived.Test.YtkoackalpcmhaaaM19
namespace Go.Proofs.Ytkoackalpcmhaaa.Am
set_option linter.unusedVariables false
set_option linter.unusedSimpArgs false
open Go Go.RowKit

/-- What is still to do: code; the end of a block; a loop with so many rounds left; a loop at whose head the machine stops. -/
inductive AI where
  | code (c : Code)
  | blk (id : Nat)
  | lp (n : Nat) (c : Code)
  | hd (n : Nat) (c : Code)
  | fin
def Kst (P : Program) (B : Exit → Act → World → Prop) : List AI → Exit → Act → World → Prop
  | [], e, a, w => B e a w
  | .code c :: k, .normal, a, w => c.wp P (Kst P B k) a w
  | .code _ :: k, e, a, w => Kst P B k e a w
  | .blk id :: k, e, a, w => Exit.inBlock id (Kst P B k) e a w
  | .lp n c :: k, .normal, a, w => Code.rounds P c (Kst P B k) n a w
  | .lp _ _ :: k, e, a, w => Kst P B k e a w
  | .hd n c :: k, .normal, a, w => Code.rounds P c (Kst P B k) n a w
  | .hd _ _ :: k, e, a, w => Kst P B k e a w
  | .fin :: _, .normal, a, w => B .ret a w
  | .fin :: k, e, a, w => Kst P B k e a w
def unwindTo (id : Nat) : List AI → Option (List AI)
  | [] => none
  | .blk i :: k => match Nat.beq i id with
    | true => some k
    | false => unwindTo id k
  | _ :: k => unwindTo id k
def firstReg : Code → Nat
  | .region id _ _ => id
  | .seq a _ => firstReg a
  | .block _ b => firstReg b
  | .loop b => firstReg b
  | _ => 0
structure Out where
  todo : List AI
  st : St
  asm : Asm
def andAsm (p : Asm) : Option Out → Option Out
  | some o => some { o with asm := p.and o.asm }
  | none => none
/-- The machine: until the end, a return, or a loop at whose head it is to stop. -/
def arun (T : List (Nat × Ty)) (O : List (Nat × Ent)) (H : Nat → Nat → Hint) (LH : List (Nat × Nat)) : Nat → List AI → St → Option Out
  | 0, _, _ => none
  | f + 1, todo, s =>
    match todo with
    | [] => some ⟨[], s, .tt⟩
    | .blk _ :: k => arun T O H LH f k s
    | .hd n c :: k => some ⟨.hd n c :: k, s, .tt⟩
    | .fin :: k => some ⟨.fin :: k, s, .tt⟩
    | .lp 0 _ :: _ => none
    | .lp (n + 1) c :: k => arun T O H LH f (.code c :: .lp n c :: k) s
    | .code c :: k =>
      match c with
      | .skip => arun T O H LH f k s
      | .seq x y => arun T O H LH f (.code x :: .code y :: k) s
      | .block id x => arun T O H LH f (.code x :: .blk id :: k) s
      | .loop x => match look LH (firstReg x) with
        | some n => arun T O H LH f (.lp n x :: k) s
        | none => some ⟨.code (.loop x) :: k, s, .tt⟩
      | .cond c x y => match evL s.get s.gl c with
        | some (.av (.one (.v (.bool true)))) => arun T O H LH f (.code x :: k) s
        | some (.av (.one (.v (.bool false)))) => arun T O H LH f (.code y :: k) s
        | _ => none
      | .exit id => match unwindTo id k with
        | some k' => arun T O H LH f k' s
        | none => none
      | .ret => some ⟨[.fin], s, .tt⟩
      | .region id ops draw => match (match draw with
          | false => seqOps T O ops (H id) ops.toList 0 s
          | true => drawOps T O ops.toList (H id) s) with
        | some (s', p) => andAsm p (arun T O H LH f k s')
        | none => none
      | _ => none

section
variable {P : Program} {T : List (Nat × Ty)} {O : List (Nat × Ent)} {N : Nat} {M : List Nat} {w0 : Wd} {B : Exit → Act → World → Prop}

/-- From what is still to do, and what is known, the end is met. -/
def Runs (P : Program) (B : Exit → Act → World → Prop) (N : Nat) (M : List Nat) (w0 : Wd) (todo : List AI) (s : St) : Prop :=
  ∀ ρ a w, RelS ρ N M w0 s a w → Kst P B todo .normal a w

theorem kst_then (y : Code) (k : List AI) : Kst P B (.code y :: k) = Exit.then (y.wp P (Kst P B k)) (Kst P B k) := by
  funext e a w
  cases e <;> rfl
theorem kst_lp (n : Nat) (c : Code) (k : List AI) : Kst P B (.lp n c :: k) = Exit.then (Code.rounds P c (Kst P B k) n) (Kst P B k) := by
  funext e a w
  cases e <;> rfl
theorem kst_hd (n : Nat) (c : Code) (k : List AI) : Kst P B (.hd n c :: k) = Exit.then (Code.rounds P c (Kst P B k) n) (Kst P B k) := by
  funext e a w
  cases e <;> rfl
theorem kst_blk (id : Nat) (k : List AI) : Kst P B (.blk id :: k) = Exit.inBlock id (Kst P B k) := by
  funext e a w
  rfl
theorem unwind_spec {id : Nat} {a : Act} {w : World} : ∀ (k k' : List AI), unwindTo id k = some k' → Kst P B k' .normal a w → Kst P B k (.exit id) a w
  | [], _, h, _ => by cases h
  | .blk i :: k, k', h, hk => by
    unfold unwindTo at h
    rw [kst_blk]
    split at h
    · rename_i hi
      have := Nat.eq_of_beq_eq_true hi
      subst this
      simp only [Option.some.injEq] at h
      subst h
      show (if i = i then _ else _)
      rw [if_pos rfl]; exact hk
    · rename_i hi
      have hne : id ≠ i := fun e => by rw [e, Nat.beq_refl] at hi; cases hi
      show (if id = i then _ else _)
      rw [if_neg hne]
      exact unwind_spec k k' h hk
  | .code _ :: k, k', h, hk => unwind_spec k k' h hk
  | .lp _ _ :: k, k', h, hk => unwind_spec k k' h hk
  | .hd _ _ :: k, k', h, hk => unwind_spec k k' h hk
  | .fin :: k, k', h, hk => unwind_spec k k' h hk
theorem kst_ret {a : Act} {w : World} : ∀ (k : List AI), B .ret a w → Kst P B k .ret a w
  | [], h => h
  | .code _ :: k, h => kst_ret k h
  | .blk id :: k, h => by rw [kst_blk]; exact kst_ret k h
  | .lp _ _ :: k, h => kst_ret k h
  | .hd _ _ :: k, h => kst_ret k h
  | .fin :: k, h => kst_ret k h

theorem arun_sound (hT : TOK P T) (hO : OOK P O) (hm : P.follows .mixedOrders = true) {H : Nat → Nat → Hint} {LH : List (Nat × Nat)} : ∀ (f : Nat) (todo : List AI) (s : St) (o : Out), arun T O H LH f todo s = some o → o.asm.holds → Runs P B N M w0 o.todo o.st → Runs P B N M w0 todo s
  | 0, _, _, _, h, _, _ => by cases h
  | f + 1, todo, s, o, h, ha, hR => by
    unfold arun at h
    split at h
    · simp only [Option.some.injEq] at h
      subst h
      exact hR
    · rename_i id k
      have ih := arun_sound hT hO hm f k s o h ha hR
      intro ρ a w hr
      rw [kst_blk]
      exact ih ρ a w hr
    · simp only [Option.some.injEq] at h
      subst h
      exact hR
    · simp only [Option.some.injEq] at h
      subst h
      exact hR
    · cases h
    · rename_i n c k
      have ih := arun_sound hT hO hm f _ s o h ha hR
      intro ρ a w hr
      have := ih ρ a w hr
      show c.wp P (Exit.then (Code.rounds P c (Kst P B k) n) (Kst P B k)) a w
      rw [← kst_lp]
      exact this
    · rename_i c k
      split at h
      · have ih := arun_sound hT hO hm f _ s o h ha hR
        exact fun ρ a w hr => wp_skip (ih ρ a w hr)
      · rename_i x y
        have ih := arun_sound hT hO hm f _ s o h ha hR
        intro ρ a w hr
        refine wp_seq ?_
        rw [← kst_then]
        exact ih ρ a w hr
      · rename_i id x
        have ih := arun_sound hT hO hm f _ s o h ha hR
        intro ρ a w hr
        refine wp_block ?_
        rw [← kst_blk]
        exact ih ρ a w hr
      · rename_i x
        split at h
        · rename_i n hn
          have ih := arun_sound hT hO hm f _ s o h ha hR
          exact fun ρ a w hr => wp_loop_rounds n (ih ρ a w hr)
        · simp only [Option.some.injEq] at h
          subst h
          exact hR
      · rename_i c x y
        split at h
        · rename_i hc
          have ih := arun_sound hT hO hm f _ s o h ha hR
          exact fun ρ a w hr => wp_cond_true (hr.rel.ev c _ hc).1 (ih ρ a w hr)
        · rename_i hc
          have ih := arun_sound hT hO hm f _ s o h ha hR
          exact fun ρ a w hr => wp_cond_false (hr.rel.ev c _ hc).1 (ih ρ a w hr)
        · cases h
      · rename_i id
        split at h
        · rename_i k' hk
          have ih := arun_sound hT hO hm f _ s o h ha hR
          exact fun ρ a w hr => wp_exit (unwind_spec k k' hk (ih ρ a w hr))
        · cases h
      · simp only [Option.some.injEq] at h
        subst h
        exact fun ρ a w hr => wp_ret (kst_ret k (hR ρ a w hr))
      · rename_i id ops draw
        split at h
        · rename_i s' p hs
          cases hrest : arun T O H LH f k s' with
          | none => rw [hrest] at h; cases h
          | some o' =>
            rw [hrest] at h
            simp only [andAsm, Option.some.injEq] at h
            subst h
            have ih := arun_sound hT hO hm f k s' o' hrest ha.2 hR
            intro ρ a w hr
            cases draw with
            | false =>
              simp only at hs
              exact wp_region_list (seq_sound hT hO ops.toList 0 s s' p ρ a w hs ha.1 hr fun ρ' a' w' h' => ih ρ' a' w' h')
            | true =>
              simp only at hs
              have := draw_sound (id := id) (Q := Kst P B k) hT hO hm hs ha.1 hr fun ρ' a' w' h' => NoPanic.normal (ih ρ' a' w' h')
              have e : ops.toList.toArray = ops := by simp
              rw [e] at this
              exact this
        · cases h
      · cases h
/-! ### What a function hands back -/
def resOne (T : List (Nat × Ty)) (s : St) : ResultVar → Option AV
  | .tmp t => match s.get t with
    | some (.av a) => some a
    | _ => none
  | .cell t ty => match s.get t, look T ty with
    | some (.av (.one (.p id off))), some q => match look s.hp id with
      | some b => match readAt q false b.c off with
        | some (.av a, _) => some a
        | _ => none
      | none => none
    | _, _ => none
def resAll (T : List (Nat × Ty)) (s : St) : List ResultVar → Option (List AV)
  | [] => some []
  | r :: l => match resOne T s r, resAll T s l with
    | some a, some q => some (a :: q)
    | _, _ => none
def resVal (T : List (Nat × Ty)) (s : St) (l : List ResultVar) : Option SV :=
  match resAll T s l with
  | some [a] => some (.av a)
  | some l => some (.tup l)
  | none => none

theorem readAt_asm {ty : Ty} {c : List Seg} {off : Nat} {v : SV} {p : Asm} (h : readAt ty false c off = some (v, p)) : p.holds := by
  unfold readAt at h
  cases hagg : ty.u.agg with
  | true =>
    rw [hagg] at h
    simp only at h
    split at h
    · simp only [Option.some.injEq, Prod.mk.injEq] at h; rw [← h.2]; trivial
    · cases h
  | false =>
    rw [hagg] at h
    simp only at h
    split at h
    · simp only [Option.some.injEq, Prod.mk.injEq] at h; rw [← h.2]; trivial
    · cases h
def resF (tmps : Array Value) : ResultVar → Sem Value
  | .tmp t => pure (tmps.getD t undef)
  | .cell a t => do loadVar t (← asAddr (tmps.getD a undef))
theorem resOne_spec (hT : TOK P T) {s : St} {ρ : Nat → Loc} {a : Act} {w : World} (h : RelS ρ N M w0 s a w) {r : ResultVar} {v : AV} (hr : resOne T s r = some v) :
    (resF a.tmps r).run P w = .ok (v.conc ρ) w := by
  cases r with
  | tmp t =>
    simp only [resOne] at hr
    split at hr
    · rename_i x hx
      simp only [Option.some.injEq] at hr
      subst hr
      have := (h.rel.slots t _ hx).1
      simp only [Act.eval, conc_av] at this
      simp only [resF, this]; rfl
    · cases hr
  | cell t ty =>
    simp only [resOne] at hr
    split at hr
    · rename_i id off q hx hq
      split at hr
      · rename_i b hb
        split at hr
        · rename_i x p hread
          simp only [Option.some.injEq] at hr
          subst hr
          have hv := (h.rel.slots t _ hx).1
          have hty := hT ty q hq
          have hp := readAt_asm hread
          obtain ⟨_, h2, h3⟩ := readAt_spec (P := P) (ρ := ρ) (w := w) hty hread hp
          simp only [Act.eval] at hv
          simp only [resF, hv]
          cases hagg : q.u.agg with
          | true =>
            obtain ⟨l, hl, he, hpos⟩ := h3 hagg
            obtain ⟨_, hlen⟩ := getSegs_spec ρ hl
            obtain ⟨y, hy, hc⟩ := cells_at (l := segsVals ρ l) h.rel.hr hb (getSegs_at ρ hl) (by omega)
            have e : x.conc ρ = .agg (segsVals ρ l).toArray := by
              have : SV.conc ρ (.av x) = SV.conc ρ (.av (mkAgg l)) := by rw [he]
              rw [conc_av, conc_av, mkAgg_conc] at this
              exact this
            rw [conc_p, hy, e]
            have hlc := run_loadCells_list (P := P) w (y.add off) (segsVals ρ l) hc
            rw [hlen] at hlc
            simp only [Option.map_some, asAddr, loadVar, Sem.run_bind, Sem.run_pure, Result.andThen_ok, hty.agg, hagg, if_true, hty.run_size, hlc]
          | false =>
            have h4 := h2 hagg
            obtain ⟨y, hy, hc⟩ := cells_at (l := [x.conc ρ]) (off := off) h.rel.hr hb (fun j u hj => by
              cases j with
              | zero => simp only [List.getElem?_cons_zero, Option.some.injEq] at hj; subst hj; exact h4
              | succ j => simp at hj) (by simp)
            rw [conc_p, hy]
            have hc0 := hc 0 _ rfl
            have : (y.add off).add 0 = y.add off := by simp [Addr.add]
            rw [this] at hc0
            simp [asAddr, loadVar, hty.agg, hagg, hc0]
        · cases hr
      · cases hr
    · cases hr
theorem resAll_spec (hT : TOK P T) {s : St} {ρ : Nat → Loc} {a : Act} {w : World} (h : RelS ρ N M w0 s a w) : ∀ (l : List ResultVar) (vs : List AV), resAll T s l = some vs →
    (l.mapM (resF a.tmps)).run P w = Result.ok (vs.map (AV.conc ρ)) w
  | [], vs, hr => by
    simp only [resAll, Option.some.injEq] at hr
    subst hr
    rfl
  | r :: l, vs, hr => by
    unfold resAll at hr
    split at hr
    · rename_i v q hv hq
      simp only [Option.some.injEq] at hr
      subst hr
      rw [List.mapM_cons, Sem.run_bind, resOne_spec hT h hv]
      simp only [Result.andThen_ok]
      rw [Sem.run_bind, resAll_spec hT h l q hq]
      rfl
    · cases hr
theorem resVal_spec (hT : TOK P T) {s : St} {ρ : Nat → Loc} {a : Act} {w : World} (h : RelS ρ N M w0 s a w) {fn : Func} {v : SV} (hr : resVal T s fn.results.toList = some v) : (results fn a.tmps).run P w = .ok (v.conc ρ) w := by
  unfold resVal at hr
  have key : ∀ vs, resAll T s fn.results.toList = some vs → (results fn a.tmps).run P w = .ok (if h : (vs.map (AV.conc ρ)).toArray.size = 1 then (vs.map (AV.conc ρ)).toArray[0] else .tuple (vs.map (AV.conc ρ)).toArray) w := by
    intro vs hvs
    have h1 := resAll_spec hT h _ _ hvs
    have e : results fn a.tmps = (do
      let vs ← fn.results.mapM (resF a.tmps)
      pure (if h : vs.size = 1 then vs[0] else .tuple vs)) := rfl
    rw [e, Sem.run_bind, Array.mapM_eq_mapM_toList]
    have h2 : (List.toArray <$> fn.results.toList.mapM (resF a.tmps)).run P w = .ok (vs.map (AV.conc ρ)).toArray w := by
      rw [← bind_pure_comp, Sem.run_bind, h1]
      rfl
    rw [h2]
    rfl
  split at hr
  · rename_i x hx
    simp only [Option.some.injEq] at hr
    subst hr
    rw [key _ hx]
    rfl
  · rename_i l hl hx
    simp only [Option.some.injEq] at hr
    subst hr
    rw [key _ hx, dif_neg]
    · rfl
    · intro h1
      simp at h1
      match l, h1, hl with
      | [x], _, hl => exact hl x rfl
  · cases hr
end
end Go.Proofs.Ytkoackalpcmhaaa.Am
