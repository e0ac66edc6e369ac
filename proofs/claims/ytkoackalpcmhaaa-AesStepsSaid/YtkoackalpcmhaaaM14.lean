/- The abstract machine: a region in the order of the text. Conditions: none. -/
import Derived.Test.YtkoackalpcmhaaaM13
namespace Go.Proofs.Ytkoackalpcmhaaa.Am
set_option linter.unusedVariables false
set_option linter.unusedSimpArgs false
open Go Go.RowKit
open Rg (gives)

/-- What the machine knows: the slots, the blocks, the next name, the globals' blocks. -/
structure St where
  tm : List (Option SV)
  hp : List (Nat × Blk)
  nx : Nat
  gl : List (Nat × Nat)
def nth {α : Type} : List α → Nat → Option α
  | [], _ => none
  | x :: _, 0 => some x
  | _ :: l, n + 1 => nth l n
def setNth {α : Type} (x : α) : List α → Nat → List α
  | [], _ => []
  | _ :: l, 0 => x :: l
  | y :: l, n + 1 => y :: setNth x l n
theorem nth_set {α : Type} (x : α) : ∀ (l : List α) (n m : Nat), nth (setNth x l n) m = if n = m then (if n < l.length then some x else none) else nth l m
  | [], n, m => by by_cases h : n = m <;> simp [setNth, nth, h]
  | y :: l, 0, 0 => by simp [setNth, nth]
  | y :: l, 0, m + 1 => by simp [setNth, nth]
  | y :: l, n + 1, 0 => by simp [setNth, nth]
  | y :: l, n + 1, m + 1 => by
    simp only [setNth, nth, nth_set x l n m, List.length_cons, Nat.add_right_cancel_iff, Nat.add_lt_add_iff_right]
theorem nth_len {α : Type} : ∀ (l : List α) (n : Nat) (x : α), nth l n = some x → n < l.length
  | [], _, _, h => by cases h
  | _ :: _, 0, _, _ => by simp
  | _ :: l, n + 1, x, h => by have := nth_len l n x h; simp; omega
theorem setNth_len {α : Type} (x : α) : ∀ (l : List α) (n : Nat), (setNth x l n).length = l.length
  | [], _ => rfl
  | _ :: _, 0 => rfl
  | _ :: l, n + 1 => by simp [setNth, setNth_len x l n]
def St.get (s : St) (t : Nat) : Option SV := match nth s.tm t with
  | some (some v) => some v
  | _ => none
def constSV (v : Value) : SV := match v with
  | .agg cs => .av (.agg (cs.toList.map Seg.v))
  | v => ofV v
def evL (get : Nat → Option SV) (gl : List (Nat × Nat)) : Operand → Option SV
  | .tmp t => get t
  | .const v => some (constSV v)
  | .global g => match look gl g with
    | some id => some (.av (.one (.p id 0)))
    | none => none
  | .func f => some (ofV (.func (.func f) #[] #[]))

def segB (f : Nat → Bool) : Seg → Bool
  | .p id _ => f id
  | .s id _ _ _ => f id
  | .r id _ _ _ => f id
  | _ => true
def svB (f : Nat → Bool) : SV → Bool
  | .av a => a.segs.all (segB f)
  | .tup l => l.all fun a => a.segs.all (segB f)
theorem segB_in {f : Nat → Bool} {D : Nat → Prop} (h : ∀ id, f id = true → D id) : ∀ {s : Seg}, segB f s = true → s.In D
  | .v _, _ | .num _, _ | .arr _ _, _ | .ap _ _ _, _ => trivial
  | .p id _, hs | .s id _ _ _, hs | .r id _ _ _, hs => h id hs
theorem segsB_in {f : Nat → Bool} {D : Nat → Prop} (h : ∀ id, f id = true → D id) {l : List Seg} (hl : l.all (segB f) = true) : segsIn D l := fun s hs => segB_in h (List.all_eq_true.1 hl s hs)
theorem svB_in {f : Nat → Bool} {D : Nat → Prop} (h : ∀ id, f id = true → D id) {s : SV} (hl : svB f s = true) : s.In D := by
  cases s with
  | av a => exact segsB_in h hl
  | tup l => exact fun a ha => segsB_in h (List.all_eq_true.1 hl a ha)

inductive Want where
  | yes | no | bad
def wantOf (ops : Array Oper) (get : Nat → Option SV) (o : Oper) : Want :=
  match o.guard with
  | none => .yes
  | some (j, b) => match Rg.dstOf ops j with
    | none => .bad
    | some t => match get t with
      | some (.av (.one (.v (.bool c)))) => match c, b with
        | true, true => .yes
        | false, false => .yes
        | _, _ => .no
      | some (.av (.one (.v (.tuple _)))) => .no
      | _ => .bad
def resB (f : Nat → Bool) (base : Nat) (call : Bool) (r : Res) : Bool :=
  svB (fun id => f id || (Nat.ble base id && Nat.blt id (base + r.new.length))) r.val && (call || (r.new.all (fun b => b.c.all (segB f)) && r.upd.all fun x => match x.2 with
    | some b => b.c.all (segB f)
    | none => true))
def opRes (T : List (Nat × Ty)) (O : List (Nat × Ent)) (ops : Array Oper) (get : Nat → Option SV) (gl : List (Nat × Nat)) (G : Nat → Option Blk) (h : Hint) (base : Nat) (f : Nat → Bool) (o : Oper) : Option Res :=
  match wantOf ops get o with
  | .yes => match aop T O G (evL get gl) h base o.op with
    | some r => match resB f base (isCall o.op) r with
      | true => some r
      | false => none
    | none => none
  | .no => some { val := ofV undef }
  | .bad => none

/-- The world at the beginning, and where blocks are known to lie. -/
structure Wd where
  w : World
  lk : Nat → Option Addr := fun _ => none
def LkOK (gl : List (Nat × Nat)) (lk : Nat → Option Addr) (x : Addr) (id : Nat) : Prop := (∃ g, x = ⟨g, 0, none⟩ ∧ look gl g = some id) ∨ lk id = some x
/-- What an act and a world are to what is known. -/
structure Rel (ρ : Nat → Loc) (D : Nat → Prop) (N : Nat) (M : List Nat) (w0 : Wd) (gl : List (Nat × Nat)) (get : Nat → Option SV) (G : Nat → Option Blk) (a : Act) (w : World) : Prop where
  slots : ∀ t sv, get t = some sv → a.eval (.tmp t) = sv.conc ρ ∧ sv.In D
  globals : ∀ x id, LkOK gl w0.lk x id → (ρ id).a = some x ∧ D id
  hr : HR ρ D N M G w
  kept : Kept N M w0.w w
  defers : a.defers = []

section
variable {P : Program} {T : List (Nat × Ty)} {O : List (Nat × Ent)} {ρ : Nat → Loc} {D : Nat → Prop} {N : Nat} {M : List Nat} {w0 : Wd} {w : World} {gl : List (Nat × Nat)} {get : Nat → Option SV} {G : Nat → Option Blk} {a : Act} {ops : Array Oper} {o : Oper}

theorem Rel.ev (h : Rel ρ D N M w0 gl get G a w) : EvOK a ρ D (evL get gl) := by
  intro x s hs
  cases x with
  | tmp t => exact h.slots t s hs
  | const v =>
    simp only [evL, Option.some.injEq] at hs
    subst hs
    cases v
    case agg cs =>
      refine ⟨?_, fun s hs => ?_⟩
      · simp only [Act.eval, constSV, SV.conc, AV.conc]
        congr 1
        apply Array.toList_inj.1
        simp [segsVals, Seg.vals, Seg.conc, List.flatMap_map]
      · simp only [AV.segs, List.mem_map] at hs
        obtain ⟨u, _, rfl⟩ := hs
        trivial
    all_goals exact ⟨rfl, fun s hs => by simp [AV.segs] at hs; subst hs; trivial⟩
  | global g =>
    simp only [evL] at hs
    split at hs
    · rename_i id hid
      simp only [Option.some.injEq] at hs
      subst hs
      obtain ⟨h1, h2⟩ := h.globals ⟨g, 0, none⟩ id (.inl ⟨g, rfl, hid⟩)
      refine ⟨?_, fun s hs => by simp [AV.segs] at hs; subst hs; exact h2⟩
      rw [conc_p, h1]
      simp [Act.eval, Addr.add]
    · cases hs
  | func f =>
    simp only [evL, Option.some.injEq] at hs
    subst hs
    exact ⟨rfl, fun s hs => by simp [AV.segs] at hs; subst hs; trivial⟩

theorem want_yes (h : Rel ρ D N M w0 gl get G a w) (hw : wantOf ops get o = .yes) : Region.wanted o (yielded ops a.tmps) = true := by
  unfold wantOf at hw
  split at hw
  · rename_i hg; simp [Region.wanted, hg]
  · rename_i j b hg
    split at hw
    · cases hw
    · rename_i t hd
      split at hw
      · rename_i c hc
        have := (h.slots t _ hc).1
        refine Rg.wanted_some (b := b) hg hd ?_
        rw [this]
        split at hw
        · rfl
        · rfl
        · cases hw
      · cases hw
      · cases hw
theorem want_no (h : Rel ρ D N M w0 gl get G a w) (hw : wantOf ops get o = .no) : Region.wanted o (yielded ops a.tmps) = false := by
  unfold wantOf at hw
  split at hw
  · cases hw
  · rename_i j b hg
    split at hw
    · cases hw
    · rename_i t hd
      split at hw
      · rename_i c hc
        have := (h.slots t _ hc).1
        refine Rg.wanted_not (b := b) (c := c) hg hd ?_ ?_
        · rw [this]; rfl
        · cases c <;> cases b <;> first | (simp at hw; done) | simp
      · rename_i vs hc
        have h1 := (h.slots t _ hc).1
        have h2 : a.tmps[t]?.getD undef = .tuple vs := by
          have : a.eval (.tmp t) = .tuple vs := h1
          simpa [Act.eval, Array.getD_eq_getD_getElem?] using this
        unfold Rg.dstOf at hd
        simp only [Region.wanted, hg, yielded, hd]
        cases hx : a.tmps[t]? with
        | none => simp [hx]
        | some v =>
          rw [hx, Option.getD_some] at h2
          subst h2
          simp [hx]
      · cases hw

theorem aop_sound (hT : TOK P T) (hO : OOK P O) (hG : HR ρ D N M G w) {ev : Operand → Option SV} (hev : EvOK a ρ D ev) {h : Hint} {base : Nat} {r : Res} (hr : aop T O G ev h base o.op = some r) (ha : r.asm.holds) (hf : ∀ id, base ≤ id → id < base + r.new.length → ¬ D id)
    (hin : isCall o.op = false → (∀ b ∈ r.new, segsIn D b.c) ∧ ∀ x ∈ r.upd, ∀ b, x.2 = some b → segsIn D b.c) : Sn P o a w ρ D N M G base r := by
  unfold aop at hr
  split at hr
  · cases hr
  · rename_i r1 h1
    split at hr
    · simp only [Option.some.injEq] at hr
      subst hr
      exact aop1_sound hT hO hG hev h1 ha hf hin
    · rename_i s hs
      simp only [Option.some.injEq] at hr
      subst hr
      have := aop1_sound hT hO hG hev h1 ha.1 hf hin
      unfold Sn gives at *
      have key : ∀ v w', (∃ ρ', Fits ρ D N M G base r1 w ρ' v w') → ∃ ρ', Fits ρ D N M G base { r1 with val := s, asm := r1.asm.and (.say (∀ ρ : Nat → Loc, r1.val.conc ρ = s.conc ρ)) } w ρ' v w' := by
        rintro v w' ⟨ρ', hF⟩
        exact ⟨ρ', hF.agree, by rw [hF.val]; exact ha.2 ρ', hF.hr, hF.kept, hF.fresh⟩
      generalize (execOp a.eval o).run P w = q at *
      cases q with
      | ok n w1 =>
        cases n with
        | value v => exact key v w1 this
        | skip => exact key undef w1 this
        | enter f args => exact Calls.mono this fun e w2 ⟨v, he, hF⟩ => ⟨v, he, key v w2 hF⟩
        | _ => exact this.elim
      | halt x w1 => exact this.elim

/-- What an operation comes to, in whatever world is known so far. -/
theorem opRes_sound (hT : TOK P T) (hO : OOK P O) (h : Rel ρ D N M w0 gl get G a w) {hi : Hint} {base : Nat} {f : Nat → Bool} (hfD : ∀ id, f id = true → D id) {r : Res} (hr : opRes T O ops get gl G hi base f o = some r) (ha : r.asm.holds) (hf : ∀ id, base ≤ id → id < base + r.new.length → ¬ D id) :
    (Region.wanted o (yielded ops a.tmps) = true ∧ Sn P o a w ρ D N M G base r ∧ r.val.In (Dn D base r.new.length)) ∨ (Region.wanted o (yielded ops a.tmps) = false ∧ r = { val := ofV undef }) := by
  unfold opRes at hr
  split at hr
  · rename_i hw
    split at hr
    · rename_i r1 h1
      split at hr
      · rename_i hb
        simp only [Option.some.injEq] at hr
        subst hr
        refine .inl ⟨want_yes h hw, aop_sound hT hO h.hr h.ev h1 ha hf ?_, ?_⟩
        · intro hc
          unfold resB at hb
          rw [hc, Bool.false_or, Bool.and_eq_true, Bool.and_eq_true] at hb
          refine ⟨fun b hbm => segsB_in hfD (List.all_eq_true.1 hb.2.1 b hbm), fun x hx b hxb => ?_⟩
          have := List.all_eq_true.1 hb.2.2 x hx
          rw [hxb] at this
          exact segsB_in hfD this
        · unfold resB at hb
          rw [Bool.and_eq_true] at hb
          refine svB_in (fun id hid => ?_) hb.1
          simp only [Bool.or_eq_true, Bool.and_eq_true] at hid
          rcases hid with hid | ⟨h1, h2⟩
          · exact .inl (hfD id hid)
          · exact .inr ⟨Nat.le_of_ble_eq_true h1, Nat.lt_of_succ_le (Nat.le_of_ble_eq_true h2)⟩
      · cases hr
    · cases hr
  · rename_i hw
    simp only [Option.some.injEq] at hr
    exact .inr ⟨want_no h hw, hr.symm⟩
  · cases hr
end
end Go.Proofs.Ytkoackalpcmhaaa.Am
