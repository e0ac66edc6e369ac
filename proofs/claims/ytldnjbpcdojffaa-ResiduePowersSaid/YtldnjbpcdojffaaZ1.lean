/- A region that draws its order: one proof a operation, in whatever state its own inputs hold; what an operation leaves is said by a predicate on its value that later allocations keep (a new block's address hangs on the order, so values are not fixed). Conditions: none. -/
import Derived.Orders
import Derived.Deep.RegionHeld3
import Derived.Below
import Derived.WalkKit
import Derived.WalkSpells
import Derived.WalkLawsBesides
import Derived.KernelRfl
import Derived.Handy
import Derived.Lib.Hide
import Derived.ChangeKeysEq
import Derived.Test.YtldnjbpcdojffaaProg
import Derived.RegionTactic
import Derived.BigRegion
import Derived.Shelf.Spec.BitsCarry
set_option linter.unusedSectionVars false
namespace Go.Proofs.Ytldnjbpcdojffaa.Rg
set_option linter.unusedVariables false
set_option linter.unusedSimpArgs false
open Go Go.RowKit

/-- What an operation hands back. -/
def gives (P : Program) (o : Oper) (a : Act) (w : World) (R : Value → World → Prop) : Prop :=
  match (execOp a.eval o).run P w with
  | .ok (.value v) w' => R v w'
  | .ok .skip w' => R undef w'
  | .ok (.enter f args) w' => Calls P f args w' fun e w'' => ∃ v, e = .returned v ∧ R v w''
  | _ => False

theorem gives_value {P : Program} {o : Oper} {a : Act} {w w' : World} {R : Value → World → Prop} {v : Value} (h : (execOp a.eval o).run P w = .ok (.value v) w') (hR : R v w') : gives P o a w R := by
  unfold gives; rw [h]; exact hR
theorem gives_enter {P : Program} {o : Oper} {a : Act} {w : World} {R : Value → World → Prop} {f : FuncId} {args : Array Value} (h : (execOp a.eval o).run P w = .ok (.enter f args) w)
    (hR : Calls P f args w fun e w'' => ∃ v, e = .returned v ∧ R v w'') : gives P o a w R := by
  unfold gives; rw [h]; exact hR

theorem wp_of_gives {P : Program} {o : Oper} {a : Act} {w : World} {R : Value → World → Prop} {K : Act → World → Prop} {Q : Exit → Act → World → Prop} (h : gives P o a w R) (hK : ∀ v w', R v w' → K (a.put o.dst v) w') : o.wp P a w K Q := by
  unfold gives at h
  unfold Oper.wp
  generalize (execOp a.eval o).run P w = r at *
  cases r with
  | ok n w' =>
    cases n <;> simp only [Oper.upon]
    case value v => exact hK _ _ h
    case skip => exact hK _ _ h
    case enter f args => exact Calls.mono h fun e w'' ⟨v, he, hR⟩ => by subst he; exact hK _ _ hR
    all_goals exact h.elim
  | halt x w' => exact h.elim

def Is (u : Value) : World → Value → Prop := fun _ v => v = u
def Stable (g : World → Value → Prop) : Prop := ∀ w w' v, Below w.heap.size w w' → g w v → g w' v
theorem stable_is (u : Value) : Stable (Is u) := fun _ _ _ _ h => h

/-- The operations that one waits for, as a number's bits. -/
def anc1 (A : Nat → Nat) (o : Oper) : Nat := o.after.toList.foldl (fun m e => if Region.binds .any e then m ||| (2 ^ e.on ||| A e.on) else m) 0

theorem anc_fold (A : Nat → Nat) (i : Nat) : ∀ (l : List Edge) (m : Nat), (l.foldl (fun m e => if Region.binds .any e then m ||| (2 ^ e.on ||| A e.on) else m) m).testBit i = true →
    m.testBit i = true ∨ ∃ e ∈ l, Region.binds .any e = true ∧ (e.on = i ∨ (A e.on).testBit i = true)
  | [], m, h => .inl h
  | e :: l, m, h => by
    rw [List.foldl_cons] at h
    rcases anc_fold A i l _ h with h | ⟨e', he, hb, h⟩
    · by_cases hb : Region.binds .any e = true
      · rw [if_pos hb] at h
        simp only [Nat.testBit_or, Bool.or_eq_true] at h
        rcases h with h | h | h
        · exact .inl h
        · refine .inr ⟨e, by simp, hb, .inl ?_⟩
          by_cases hi : e.on = i
          · exact hi
          · rw [Nat.testBit_two_pow_of_ne hi] at h; cases h
        · exact .inr ⟨e, by simp, hb, .inr h⟩
      · rw [if_neg hb] at h; exact .inl h
    · exact .inr ⟨e', by simp [he], hb, h⟩

def writerOf (ops : Array Oper) (s : Tmp) : Option Nat := (List.range ops.size).find? fun d => (ops[d]?).bind (·.dst) == some s
def at_ (l : List Nat) (i : Nat) : Nat := l.getD i 0

/-- The kinds: 0: yields in whatever world; 1: reads memory, makes memory, calls; 2: behind all others, in the order of the text. -/
structure Check (ops : Array Oper) (A K : List Nat) : Prop where
  anc : ∀ i o, ops[i]? = some o → at_ A i = anc1 (at_ A) o ∧ ∀ e ∈ o.after, Region.binds .any e = true → e.on < i
  sel : Region.noSelect ops = true
  one : ∀ i o s, ops[i]? = some o → o.dst = some s → writerOf ops s = some i
  reads : ∀ i o s, ops[i]? = some o → at_ K i ≠ 2 → s ∈ o.looksAt ops → ∀ d, writerOf ops s = some d → d = i ∨ (at_ A i).testBit d = true ∨ (at_ A d).testBit i = true
  pure_ : ∀ i o, ops[i]? = some o → at_ K i = 0 → ∀ j o', ops[j]? = some o' → j ≠ i → (∃ e ∈ o'.after, Region.binds .any e = true ∧ e.on = i) ∨ (at_ A i).testBit j = true ∨ o.apart ops o' = true
  heads : ∀ i o, ops[i]? = some o → at_ K i ≠ 2 → (∃ s, o.dst = some s) ∧ ∀ e ∈ o.after, Region.binds .any e = true → at_ K e.on ≠ 2
  tails : ∀ i o, ops[i]? = some o → at_ K i = 2 → (∀ j, j < ops.size → at_ K j ≠ 0 → at_ K j ≠ 2 → (at_ A i).testBit j = true) ∧ ∀ j, j < i → at_ K j = 2 → (at_ A i).testBit j = true

def checkB (ops : Array Oper) (A K : List Nat) : Bool :=
  Region.noSelect ops && (List.range ops.size).all fun i => match ops[i]? with
    | none => true
    | some o =>
      (at_ A i == anc1 (at_ A) o) && o.after.toList.all (fun e => !Region.binds .any e || decide (e.on < i)) &&
      (match o.dst with | some s => writerOf ops s == some i | none => true) &&
      (at_ K i == 2 || (o.looksAt ops).all fun s => match writerOf ops s with | some d => d == i || (at_ A i).testBit d || (at_ A d).testBit i | none => true) &&
      (!(at_ K i == 0) || (List.range ops.size).all fun j => j == i || match ops[j]? with
        | some o' => o'.after.toList.any (fun e => Region.binds .any e && e.on == i) || (at_ A i).testBit j || o.apart ops o'
        | none => true) &&
      (at_ K i == 2 || (o.dst.isSome && o.after.toList.all fun e => !Region.binds .any e || !(at_ K e.on == 2))) &&
      (!(at_ K i == 2) || ((List.range ops.size).all (fun j => at_ K j == 0 || at_ K j == 2 || (at_ A i).testBit j) && (List.range i).all fun j => !(at_ K j == 2) || (at_ A i).testBit j))

theorem check_of {ops : Array Oper} {A K : List Nat} (h : checkB ops A K = true) : Check ops A K := by
  simp only [checkB, Bool.and_eq_true, List.all_eq_true, List.mem_range] at h
  obtain ⟨hs, h⟩ := h
  have key : ∀ i o, ops[i]? = some o → i < ops.size := fun i o ho => (Array.getElem?_eq_some_iff.1 ho).1
  refine ⟨fun i o ho => ?_, hs, fun i o s ho hd => ?_, fun i o s ho hk hsl d hd => ?_, fun i o ho hk j o' ho' hne => ?_, fun i o ho hk => ?_, fun i o ho hk => ?_⟩
  all_goals
    have h1 := h i (key i o ho)
    simp only [ho, Bool.and_eq_true] at h1
    obtain ⟨⟨⟨⟨⟨⟨c1, c2⟩, c3⟩, c4⟩, c5⟩, c6⟩, c7⟩ := h1
  · refine ⟨by simpa using c1, fun e he hb => ?_⟩
    have := List.all_eq_true.1 c2 e (by simpa using he)
    simpa [hb] using this
  · simpa [hd] using c3
  · simp only [Bool.or_eq_true, beq_iff_eq, hk, false_or, List.all_eq_true] at c4
    have := c4 s hsl
    simpa [hd, or_assoc] using this
  · simp only [hk, beq_self_eq_true, Bool.not_true, Bool.false_or, List.all_eq_true, List.mem_range] at c5
    have h2 := c5 j (key j o' ho')
    simp only [ho', Bool.or_eq_true, beq_iff_eq, hne, false_or, List.any_eq_true, Bool.and_eq_true] at h2
    rcases h2 with (⟨e, he, hb⟩ | h2) | h2
    · exact .inl ⟨e, by simpa using he, hb⟩
    · exact .inr (.inl h2)
    · exact .inr (.inr h2)
  · simp only [Bool.or_eq_true, beq_iff_eq, hk, false_or, Bool.and_eq_true, List.all_eq_true, Option.isSome_iff_exists] at c6
    refine ⟨c6.1, fun e he hb => ?_⟩
    have := c6.2 e (by simpa using he)
    simpa [hb] using this
  · simp only [hk, beq_self_eq_true, Bool.not_true, Bool.false_or, Bool.and_eq_true, List.all_eq_true, List.mem_range] at c7
    refine ⟨fun j hj hk0 hk1 => ?_, fun j hj hk2 => ?_⟩
    · have := c7.1 j hj
      simpa [hk0, hk1] using this
    · have := c7.2 j hj
      simpa [hk2] using this

section
variable {P : Program} {ops : Array Oper} {A K : List Nat}

/-- What an operation may lean on of the slots that it looks at. -/
def Read (ops : Array Oper) (A : List Nat) (sp : Nat → World → Value → Prop) (a0 : Act) (i : Nat) (a : Act) (w : World) (s : Tmp) : Prop :=
  match writerOf ops s with
  | some d => if (at_ A i).testBit d then sp d w (a.eval (.tmp s)) else a.eval (.tmp s) = a0.eval (.tmp s)
  | none => a.eval (.tmp s) = a0.eval (.tmp s)
def ReadL (ops : Array Oper) (A : List Nat) (sp : Nat → World → Value → Prop) (a0 : Act) (i : Nat) (a : Act) (w : World) : List Tmp → Prop
  | [] => True
  | s :: l => Read ops A sp a0 i a w s ∧ ReadL ops A sp a0 i a w l

theorem readL_of {sp : Nat → World → Value → Prop} {a0 a : Act} {i : Nat} {w : World} : ∀ (l : List Tmp), (∀ s ∈ l, Read ops A sp a0 i a w s) → ReadL ops A sp a0 i a w l
  | [], _ => trivial
  | s :: l, h => ⟨h s (by simp), readL_of l fun x hx => h x (by simp [hx])⟩

def StepOK (P : Program) (ops : Array Oper) (A K : List Nat) (W : World) (a0 : Act) (sp : Nat → World → Value → Prop) (i : Nat) (g : World → Value → Prop) : Prop :=
  match ops[i]? with
  | none => True
  | some o => ∀ a w, Below W.heap.size W w → ReadL ops A sp a0 i a w (o.looksAt ops) →
    if at_ K i = 0 then ∃ v, Yields P ops o v a ∧ g w v
    else (Region.wanted o (yielded ops a.tmps) = true → gives P o a w fun v w' => Below w.heap.size w w' ∧ g w' v) ∧ (Region.wanted o (yielded ops a.tmps) = false → g w undef)

def dstOf (ops : Array Oper) (i : Nat) : Option Tmp := (ops[i]?).bind (·.dst)

/-- What stands behind the head: whatever values meet their predicates. -/
def Fin (ops : Array Oper) (sp : Nat → World → Value → Prop) (T : Act → World → Prop) (w : World) : List Nat → Act → Prop
  | [], b => T b w
  | d :: r, b => ∀ v, sp d w v → Fin ops sp T w r (b.put (dstOf ops d) v)

def Chain (P : Program) (ops : Array Oper) (A K : List Nat) (W : World) (a0 : Act) (hd : List Nat) (T : Act → World → Prop) : List Nat → (Nat → World → Value → Prop) → Prop
  | [], sp => ∀ w, Below W.heap.size W w → Fin ops sp T w hd a0
  | i :: r, sp => ∃ g, Stable g ∧ StepOK P ops A K W a0 sp i g ∧ Chain P ops A K W a0 hd T r fun j => if j = i then g else sp j

theorem anc_lt (hc : Check ops A K) : ∀ (i : Nat) (o : Oper), ops[i]? = some o → ∀ d, (at_ A i).testBit d = true → d < i := by
  intro i
  induction i using Nat.strongRecOn with
  | ind i ih =>
    intro o ho d hd
    obtain ⟨h1, h2⟩ := hc.anc i o ho
    rw [h1] at hd
    rcases anc_fold (at_ A) d _ _ hd with h | ⟨e, he, hb, h⟩
    · simp at h
    · have hlt := h2 e (by simpa using he) hb
      rcases h with h | h
      · omega
      · have hsz := (Array.getElem?_eq_some_iff.1 ho).1
        obtain ⟨o', ho'⟩ : ∃ o', ops[e.on]? = some o' := ⟨ops[e.on]'(by omega), by rw [Array.getElem?_eq_getElem]⟩
        have := ih e.on hlt o' ho' d h
        omega

theorem read_congr {sp sp' : Nat → World → Value → Prop} {a0 a : Act} {i : Nat} {w : World} (h : ∀ d, (at_ A i).testBit d = true → sp' d = sp d) : ∀ (l : List Tmp),
    ReadL ops A sp' a0 i a w l → ReadL ops A sp a0 i a w l
  | [], _ => trivial
  | s :: l, hh => by
    refine ⟨?_, read_congr h l hh.2⟩
    have h1 := hh.1
    unfold Read at *
    split
    · rename_i d hd
      simp only [hd] at h1
      split
      · rename_i hb; rw [if_pos hb] at h1; rw [← h d hb]; exact h1
      · rename_i hb; rw [if_neg hb] at h1; exact h1
    · rename_i hd; simp only [hd] at h1; exact h1

theorem step_congr {W : World} {a0 : Act} {sp sp' : Nat → World → Value → Prop} {i : Nat} {g : World → Value → Prop} (h : ∀ d, (at_ A i).testBit d = true → sp' d = sp d)
    (hs : StepOK P ops A K W a0 sp i g) : StepOK P ops A K W a0 sp' i g := by
  unfold StepOK at *
  split
  · trivial
  · rename_i o ho
    simp only [ho] at hs
    exact fun a w hB hr => hs a w hB (read_congr h _ hr)

theorem chain_all (hc : Check ops A K) {W : World} {a0 : Act} {hd : List Nat} {T : Act → World → Prop} : ∀ (todo : List Nat) (sp : Nat → World → Value → Prop), todo.Pairwise (· < ·) → (∀ i ∈ todo, i < ops.size) →
    Chain P ops A K W a0 hd T todo sp → ∃ sp' : Nat → World → Value → Prop, (∀ j, j ∉ todo → sp' j = sp j) ∧ (∀ i ∈ todo, Stable (sp' i) ∧ StepOK P ops A K W a0 sp' i (sp' i)) ∧ ∀ w, Below W.heap.size W w → Fin ops sp' T w hd a0
  | [], sp, _, _, h => ⟨sp, fun _ _ => rfl, fun _ hi => (nomatch hi), h⟩
  | i :: r, sp, hp, hlt, h => by
    obtain ⟨g, hg, hs, h⟩ := h
    rw [List.pairwise_cons] at hp
    obtain ⟨sp', h1, h2, h3⟩ := chain_all hc r _ hp.2 (fun j hj => hlt j (by simp [hj])) h
    have hir : i ∉ r := fun hi => Nat.lt_irrefl _ (hp.1 i hi)
    have hi : sp' i = g := by rw [h1 i hir, if_pos rfl]
    have hlt' := hlt i (by simp)
    have hk : ∀ d, (at_ A i).testBit d = true → sp' d = sp d := fun d hdd => by
      have hlt := anc_lt hc i ops[i] (by rw [Array.getElem?_eq_getElem hlt']) d hdd
      rw [h1 d (fun hd => by have := hp.1 d hd; omega), if_neg (by omega)]
    refine ⟨sp', fun j hj => ?_, fun j hj => ?_, h3⟩
    · rw [List.mem_cons, not_or] at hj
      rw [h1 j hj.2, if_neg hj.1]
    · rcases List.mem_cons.1 hj with rfl | hj
      · rw [hi]; exact ⟨hg, step_congr hk hs⟩
      · exact h2 j hj

/-- What holds while the head's operations come up. -/
structure Inv (ops : Array Oper) (K : List Nat) (sp : Nat → World → Value → Prop) (W : World) (a0 : Act) (L : Array Bool) (a : Act) (w : World) : Prop where
  size : L.size = ops.size
  closed : ∀ j oj, ops[j]? = some oj → L.getD j false = true → ∀ e ∈ oj.after, Region.binds .any e = true → L.getD e.on false = true
  notail : ∀ j, j < ops.size → at_ K j = 2 → L.getD j false = false
  defers : a.defers = a0.defers
  tmps : a.tmps.size = a0.tmps.size
  below : Below W.heap.size W w
  slot : ∀ s, match writerOf ops s with
    | some d => if L.getD d false = true then sp d w (a.eval (.tmp s)) else a.eval (.tmp s) = a0.eval (.tmp s)
    | none => a.eval (.tmp s) = a0.eval (.tmp s)

theorem closed_anc (hc : Check ops A K) {L : Array Bool} (hcl : ∀ j oj, ops[j]? = some oj → L.getD j false = true → ∀ e ∈ oj.after, Region.binds .any e = true → L.getD e.on false = true) :
    ∀ (i : Nat) (o : Oper), ops[i]? = some o → (∀ e ∈ o.after, Region.binds .any e = true → L.getD e.on false = true) → ∀ d, (at_ A i).testBit d = true → L.getD d false = true := by
  intro i
  induction i using Nat.strongRecOn with
  | ind i ih =>
    intro o ho hl d hd
    obtain ⟨h1, h2⟩ := hc.anc i o ho
    rw [h1] at hd
    rcases anc_fold (at_ A) d _ _ hd with h | ⟨e, he, hb, h⟩
    · simp at h
    · have he' : e ∈ o.after := by simpa using he
      have hlt := h2 e he' hb
      have hle := hl e he' hb
      rcases h with h | h
      · rw [← h]; exact hle
      · have hsz := (Array.getElem?_eq_some_iff.1 ho).1
        obtain ⟨o', ho'⟩ : ∃ o', ops[e.on]? = some o' := ⟨ops[e.on]'(by omega), by rw [Array.getElem?_eq_getElem]⟩
        exact ih e.on hlt o' ho' (hcl _ o' ho' hle) d h

theorem getD_of_ready {L : Array Bool} {i : Nat} (h : i ∈ Region.ready .any ops L) : L.getD i false = false := by
  have h1 := (mem_ready.1 h).1
  rcases Nat.lt_or_ge i L.size with h' | h'
  · simp [h'] at h1 ⊢; exact h1
  · simp [Array.getElem?_eq_none h'] at h1

theorem getD_set {L : Array Bool} {i j : Nat} (hi : i < L.size) : (L.setIfInBounds i true).getD j false = if i = j then true else L.getD j false := by
  by_cases h : i = j
  · subst h; simp [hi]
  · rw [if_neg h, getD_set_ne false h]

theorem eval_put_self {a : Act} {s : Tmp} {v : Value} (h : s < a.tmps.size) : (a.put (some s) v).eval (.tmp s) = v := by
  simp [Act.eval, Act.put, h]

theorem Inv.put (hc : Check ops A K) {sp : Nat → World → Value → Prop} {W : World} {a0 : Act} {L : Array Bool} {a : Act} {w w' : World} (h : Inv ops K sp W a0 L a w) {i : Nat} {o : Oper} {s : Tmp} (ho : ops[i]? = some o)
    (hr : i ∈ Region.ready .any ops L) (hk : at_ K i ≠ 2) (hs : o.dst = some s) (hlt : s < a0.tmps.size) {v : Value} (hst : ∀ j, j < ops.size → at_ K j ≠ 2 → Stable (sp j)) (hb : Below w.heap.size w w') (hb0 : Below W.heap.size W w') (hv : sp i w' v) :
    Inv ops K sp W a0 (L.setIfInBounds i true) (a.put o.dst v) w' := by
  have hsz := (Array.getElem?_eq_some_iff.1 ho).1
  have hL : i < L.size := by rw [h.size]; exact hsz
  obtain ⟨_, o', ho', hall⟩ := mem_ready.1 hr
  have : o' = o := Option.some.inj (ho'.symm.trans ho)
  subst this
  refine ⟨by simp [h.size], fun j oj hj hl e he hbd => ?_, fun j hj hkj => ?_, ?_, ?_, hb0, fun t => ?_⟩
  · rw [getD_set hL] at hl ⊢
    by_cases hij : i = j
    · subst hij
      have : oj = o' := Option.some.inj (hj.symm.trans ho)
      subst this
      split
      · rfl
      · exact hall e he hbd
    · rw [if_neg hij] at hl
      split
      · rfl
      · exact h.closed j oj hj hl e he hbd
  · rw [getD_set hL, if_neg (fun (e : i = j) => hk (e ▸ hkj))]; exact h.notail j hj hkj
  · rw [hs]; exact h.defers
  · rw [hs]; simp [Act.put, h.tmps]
  · have h1 := h.slot t
    have hw := hc.one i o' s ho hs
    by_cases hst' : s = t
    · subst hst'
      rw [hw]
      simp only
      rw [getD_set hL, if_pos rfl, if_pos rfl, hs, eval_put_self (by rw [h.tmps]; exact hlt)]
      exact hv
    · have hev : (a.put o'.dst v).eval (.tmp t) = a.eval (.tmp t) := Act.eval_put (fun d hd he => by rw [hs] at hd; injection hd with hd; injection he with he; exact hst' (hd.trans he.symm))
      rw [hev]
      split
      · rename_i d hd
        simp only [hd] at h1
        rw [getD_set hL]
        have hdlt : d < ops.size := by
          unfold writerOf at hd
          exact List.mem_range.1 (List.mem_of_find?_eq_some hd)
        by_cases hid : i = d
        · subst hid
          exfalso
          unfold writerOf at hd
          have := List.find?_some hd
          simp only [ho, Option.bind_some, hs, beq_iff_eq, Option.some.injEq] at this
          exact hst' this
        · rw [if_neg hid]
          split
          · rename_i hld
            rw [if_pos hld] at h1
            refine hst d hdlt (fun hk2 => ?_) _ _ _ hb h1
            rw [h.notail d hdlt hk2] at hld
            cases hld
          · rename_i hld
            rw [if_neg hld] at h1
            exact h1
      · rename_i hd
        simp only [hd] at h1
        exact h1

theorem Inv.reads (hc : Check ops A K) {sp : Nat → World → Value → Prop} {W : World} {a0 : Act} {L : Array Bool} {a : Act} {w : World} (h : Inv ops K sp W a0 L a w) {i : Nat} {o : Oper} (ho : ops[i]? = some o)
    (hr : i ∈ Region.ready .any ops L) (hk : at_ K i ≠ 2) : ReadL ops A sp a0 i a w (o.looksAt ops) := by
  obtain ⟨_, o', ho', hall⟩ := mem_ready.1 hr
  have : o' = o := Option.some.inj (ho'.symm.trans ho)
  subst this
  refine readL_of _ fun s hs => ?_
  have h1 := h.slot s
  unfold Read
  split
  · rename_i d hd
    simp only [hd] at h1
    rcases hc.reads i o' s ho hk hs d hd with hdi | hdi | hdi
    · subst hdi
      rw [if_neg (by rw [getD_of_ready hr]; exact Bool.false_ne_true)] at h1
      split
      · rename_i hb; exact absurd (anc_lt hc d o' ho d hb) (Nat.lt_irrefl _)
      · exact h1
    · rw [if_pos hdi]
      rw [if_pos (closed_anc hc h.closed i o' ho hall d hdi)] at h1
      exact h1
    · have hdlt : d < ops.size := by
        unfold writerOf at hd
        exact List.mem_range.1 (List.mem_of_find?_eq_some hd)
      have hnd : L.getD d false = false := by
        cases hl : L.getD d false with
        | false => rfl
        | true =>
          have := closed_anc hc h.closed d ops[d] (by rw [Array.getElem?_eq_getElem hdlt]) (h.closed d _ (by rw [Array.getElem?_eq_getElem hdlt]) hl) i hdi
          rw [getD_of_ready hr] at this
          cases this
      rw [if_neg (by rw [hnd]; exact Bool.false_ne_true)] at h1
      have hlt1 := anc_lt hc d ops[d] (by rw [Array.getElem?_eq_getElem hdlt]) i hdi
      split
      · rename_i hb
        have := anc_lt hc i o' ho d hb
        omega
      · exact h1
  · rename_i hd
    simp only [hd] at h1
    exact h1

theorem act_ext {a b : Act} (hd : a.defers = b.defers) (hs : a.tmps.size = b.tmps.size) (he : ∀ s, a.eval (.tmp s) = b.eval (.tmp s)) : a = b := by
  obtain ⟨at_, ad⟩ := a
  obtain ⟨bt, bd⟩ := b
  simp only at hd hs
  subst hd
  congr
  apply Array.ext hs
  intro i h1 h2
  have := he i
  simpa [Act.eval, h1, h2] using this

theorem fin_apply {sp : Nat → World → Value → Prop} {T : Act → World → Prop} {w : World} (vs : Nat → Value) : ∀ (l : List Nat) (b : Act), Fin ops sp T w l b → (∀ d ∈ l, sp d w (vs d)) →
    T (l.foldl (fun b d => b.put (dstOf ops d) (vs d)) b) w
  | [], _, h, _ => h
  | d :: r, b, h, hv => by
    rw [List.foldl_cons]
    exact fin_apply vs r _ (h _ (hv d (by simp))) fun x hx => hv x (by simp [hx])

theorem puts_facts (vs : Nat → Value) : ∀ (l : List Nat) (b : Act), (l.foldl (fun b d => b.put (dstOf ops d) (vs d)) b).defers = b.defers ∧ (l.foldl (fun b d => b.put (dstOf ops d) (vs d)) b).tmps.size = b.tmps.size
  | [], _ => ⟨rfl, rfl⟩
  | d :: r, b => by
    rw [List.foldl_cons]
    obtain ⟨h1, h2⟩ := puts_facts vs r (b.put (dstOf ops d) (vs d))
    rw [h1, h2]
    cases dstOf ops d <;> simp [Act.put]

theorem puts_none (vs : Nat → Value) (s : Tmp) : ∀ (l : List Nat) (b : Act), (∀ d ∈ l, dstOf ops d ≠ some s) → (l.foldl (fun b d => b.put (dstOf ops d) (vs d)) b).eval (.tmp s) = b.eval (.tmp s)
  | [], _, _ => rfl
  | d :: r, b, h => by
    rw [List.foldl_cons, puts_none vs s r _ fun x hx => h x (by simp [hx])]
    exact Act.eval_put fun t ht he => h d (by simp) (by injection he with he; rw [ht, he])

theorem puts_some (vs : Nat → Value) (s : Tmp) (d : Nat) (hd : dstOf ops d = some s) : ∀ (l : List Nat) (b : Act), d ∈ l → (∀ x ∈ l, dstOf ops x = some s → x = d) → s < b.tmps.size →
    (l.foldl (fun b d => b.put (dstOf ops d) (vs d)) b).eval (.tmp s) = vs d
  | [], _, h, _, _ => by cases h
  | x :: r, b, h, hu, hs => by
    rw [List.foldl_cons]
    by_cases hx : x = d
    · subst hx
      by_cases hr : x ∈ r
      · exact puts_some vs s x hd r _ hr (fun y hy => hu y (by simp [hy])) (by rw [hd]; simpa [Act.put] using hs)
      · rw [puts_none vs s r _ fun y hy hys => hr (hu y (by simp [hy]) hys ▸ hy), hd, eval_put_self hs]
    · have hr : d ∈ r := by
        rcases List.mem_cons.1 h with h | h
        · exact absurd h.symm hx
        · exact h
      exact puts_some vs s d hd r _ hr (fun y hy => hu y (by simp [hy])) (by cases dstOf ops x <;> simpa [Act.put] using hs)

theorem countP_set (p q : Nat → Bool) (i : Nat) (hp : p i = true) (hq : q i = false) (hs : ∀ j, j ≠ i → q j = p j) : ∀ (l : List Nat), l.Nodup → i ∈ l → l.countP q + 1 = l.countP p
  | [], _, h => by cases h
  | x :: l, hn, h => by
    rw [List.nodup_cons] at hn
    by_cases hx : x = i
    · subst hx
      have : l.countP q = l.countP p := List.countP_congr fun j hj => by rw [hs j (fun e => hn.1 (e ▸ hj))]
      rw [List.countP_cons_of_pos hp, List.countP_cons_of_neg (by rw [hq]; exact Bool.false_ne_true), this]
    · have hr : i ∈ l := by
        rcases List.mem_cons.1 h with h | h
        · exact absurd h.symm hx
        · exact h
      have ih := countP_set p q i hp hq hs l hn.2 hr
      rw [List.countP_cons, List.countP_cons, hs x hx]
      omega

def unl (ops : Array Oper) (L : Array Bool) : Nat := (List.range ops.size).countP fun i => !L.getD i false

theorem unl_set {L : Array Bool} {i : Nat} (hi : i < ops.size) (hL : i < L.size) (h : L.getD i false = false) : unl ops (L.setIfInBounds i true) + 1 = unl ops L := by
  unfold unl
  refine countP_set _ _ i (by simp only [h, Bool.not_false]) (by rw [getD_set hL, if_pos rfl, Bool.not_true]) (fun j hj => by rw [getD_set hL, if_neg (fun e => hj e.symm)]) _ List.nodup_range (List.mem_range.2 hi)

/-- The tail, in the order of the text. -/
theorem tail_any (hc : Check ops A K) {Q : Exit → Act → World → Prop} : ∀ (tl : List Nat) (L : Array Bool) (a : Act) (w : World), L.size = ops.size → tl.Pairwise (· < ·) → (∀ j, j ∈ tl → j < ops.size ∧ at_ K j = 2) → (∀ j, j < ops.size → (L.getD j false = false ↔ j ∈ tl)) →
    (∀ j oj, ops[j]? = some oj → L.getD j false = true → ∀ e ∈ oj.after, Region.binds .any e = true → L.getD e.on false = true) →
    wpList P ops Q (tl.filterMap (ops[·]?)) a w → wpAny P .any ops Q (unl ops L) L a w
  | [], L, a, w, hsz, _, _, hiff, _, h => by
    refine wpAny_done ?_ h _
    rw [List.eq_nil_iff_forall_not_mem]
    intro i hi
    have hlt : i < ops.size := by
      obtain ⟨_, o, ho, _⟩ := mem_ready.1 hi
      exact (Array.getElem?_eq_some_iff.1 ho).1
    exact absurd ((hiff i hlt).1 (getD_of_ready hi)) (by simp)
  | t :: tl, L, a, w, hsz, hp, hmem, hiff, hcl, h => by
    rw [List.pairwise_cons] at hp
    obtain ⟨htlt, htk⟩ := hmem t (by simp)
    obtain ⟨ot, hot⟩ : ∃ o, ops[t]? = some o := ⟨ops[t], by rw [Array.getElem?_eq_getElem]⟩
    have htl : t < L.size := by rw [hsz]; exact htlt
    have htf : L.getD t false = false := (hiff t htlt).2 (by simp)
    have hrt : t ∈ Region.ready .any ops L := by
      refine mem_ready.2 ⟨by simp [htl] at htf ⊢; exact htf, ot, hot, fun e he hb => ?_⟩
      have hlt := (hc.anc t ot hot).2 e he hb
      cases hl : L.getD e.on false with
      | true => rfl
      | false =>
        have := (hiff e.on (by omega)).1 hl
        rcases List.mem_cons.1 this with h | h
        · omega
        · have := hp.1 _ h; omega
    have honly : ∀ j, j ∈ Region.ready .any ops L → j = t := by
      intro j hj
      obtain ⟨_, oj, hoj, hall⟩ := mem_ready.1 hj
      have hjlt := (Array.getElem?_eq_some_iff.1 hoj).1
      rcases List.mem_cons.1 ((hiff j hjlt).1 (getD_of_ready hj)) with h | h
      · exact h
      · exfalso
        have hjt := hp.1 j h
        have := closed_anc hc hcl j oj hoj hall t ((hc.tails j oj hoj (hmem j (by simp [h])).2).2 t hjt htk)
        rw [htf] at this
        cases this
    have hcount := unl_set (ops := ops) htlt htl htf
    rw [← hcount]
    refine ⟨fun h0 => absurd hrt (by rw [h0]; exact List.not_mem_nil), fun j hj => ?_⟩
    have hjt := honly j hj
    subst hjt
    have hnext : ∀ a' w', wpList P ops Q (tl.filterMap (ops[·]?)) a' w' → wpAny P .any ops Q (unl ops (L.setIfInBounds j true)) (L.setIfInBounds j true) a' w' := fun a' w' h' => by
      refine tail_any hc tl _ a' w' (by simp [hsz]) hp.2 (fun x hx => hmem x (by simp [hx])) (fun x hx => ?_) (fun x ox hox hl e he hb => ?_) h'
      · rw [getD_set htl]
        by_cases hjx : j = x
        · subst hjx
          simp only [if_true, Bool.true_eq_false, false_iff]
          exact fun hx => Nat.lt_irrefl _ (hp.1 _ hx)
        · rw [if_neg hjx, hiff x hx, List.mem_cons]
          exact ⟨fun hh => hh.resolve_left (fun e => hjx e.symm), .inr⟩
      · rw [getD_set htl] at hl ⊢
        by_cases hjx : j = x
        · subst hjx
          obtain ⟨_, o', ho', hall⟩ := mem_ready.1 hj
          have : o' = ox := Option.some.inj (ho'.symm.trans hox)
          subst this
          split
          · rfl
          · exact hall e he hb
        · rw [if_neg hjx] at hl
          split
          · rfl
          · exact hcl x ox hox hl e he hb
    simp only [List.filterMap_cons, hot, wpList] at h
    unfold wpOp
    simp only [hot]
    split
    · rename_i hw
      rw [if_pos hw] at h
      rcases h with h | h
      · exact .inl (Oper.wp_mono hnext h)
      · exact .inr h
    · rename_i hw
      rw [if_neg hw] at h
      exact hnext _ _ h

theorem least_unl {p : Nat → Prop} : ∀ (n : Nat), p n → ∃ m, p m ∧ ∀ k, k < m → ¬ p k := by
  intro n
  induction n using Nat.strongRecOn with
  | ind n ih =>
    intro h
    by_cases hx : ∃ k, k < n ∧ p k
    · obtain ⟨k, hk, hp⟩ := hx; exact ih k hk hp
    · exact ⟨n, h, fun k hk hp => hx ⟨k, hk, hp⟩⟩

def headL (ops : Array Oper) (K : List Nat) : List Nat := (List.range ops.size).filter fun i => !(at_ K i == 2)
def tailL (ops : Array Oper) (K : List Nat) : List Nat := (List.range ops.size).filter fun i => at_ K i == 2

theorem finish (hc : Check ops A K) {Q : Exit → Act → World → Prop} {W : World} {a0 : Act} {sp : Nat → World → Value → Prop}
    (hsl : ∀ (i : Nat) (o : Oper) (s : Tmp), ops[i]? = some o → o.dst = some s → s < a0.tmps.size)
    (hfin : ∀ w, Below W.heap.size W w → Fin ops sp (wpList P ops (NoPanic Q) ((tailL ops K).filterMap (ops[·]?))) w (headL ops K) a0)
    {n : Nat} (L : Array Bool) (a : Act) (w : World) (hn : unl ops L = n) (hI : Inv ops K sp W a0 L a w) (hdone : ∀ j, j < ops.size → at_ K j ≠ 2 → L.getD j false = true) : wpAny P .any ops (NoPanic Q) n L a w := by
  rw [← hn]
  refine tail_any hc (tailL ops K) L a w hI.size (List.Pairwise.sublist List.filter_sublist List.pairwise_lt_range) (fun j hj => ?_) (fun j hj => ?_) hI.closed ?_
  · unfold tailL at hj
    rw [List.mem_filter, List.mem_range] at hj
    exact ⟨hj.1, by simpa using hj.2⟩
  · unfold tailL
    rw [List.mem_filter, List.mem_range]
    constructor
    · intro hl
      refine ⟨hj, ?_⟩
      by_cases hk : at_ K j = 2
      · simp [hk]
      · rw [hdone j hj hk] at hl; cases hl
    · rintro ⟨_, hk⟩
      exact hI.notail j hj (by simpa using hk)
  · have hmemh : ∀ d, d ∈ headL ops K → d < ops.size ∧ at_ K d ≠ 2 := fun d hd => by
      unfold headL at hd
      rw [List.mem_filter, List.mem_range] at hd
      exact ⟨hd.1, by simpa using hd.2⟩
    have hw : ∀ d, d < ops.size → ∀ s, dstOf ops d = some s → writerOf ops s = some d := fun d hd s hs => by
      have ho : ops[d]? = some ops[d] := by rw [Array.getElem?_eq_getElem]
      refine hc.one d ops[d] s ho ?_
      unfold dstOf at hs
      rw [ho] at hs
      exact hs
    have hf := fin_apply (fun d => match dstOf ops d with | some s => a.eval (.tmp s) | none => undef) (headL ops K) a0 (hfin w hI.below) (fun d hd => by
      obtain ⟨hlt, hk⟩ := hmemh d hd
      have ho : ops[d]? = some ops[d] := by rw [Array.getElem?_eq_getElem]
      obtain ⟨s, hs⟩ := (hc.heads d ops[d] ho hk).1
      have hds : dstOf ops d = some s := by unfold dstOf; rw [ho]; exact hs
      simp only [hds]
      have h1 := hI.slot s
      rw [hw d hlt s hds] at h1
      simp only at h1
      rw [if_pos (hdone d hlt hk)] at h1
      exact h1)
    have hpf := puts_facts (ops := ops) (fun d => match dstOf ops d with | some s => a.eval (.tmp s) | none => undef) (headL ops K) a0
    have e : (headL ops K).foldl (fun b d => b.put (dstOf ops d) (match dstOf ops d with | some s => a.eval (.tmp s) | none => undef)) a0 = a := by
      refine act_ext (hpf.1.trans hI.defers.symm) (hpf.2.trans hI.tmps.symm) fun s => ?_
      have h1 := hI.slot s
      by_cases hx : ∃ d, d ∈ headL ops K ∧ dstOf ops d = some s
      · obtain ⟨d, hd, hds⟩ := hx
        obtain ⟨hlt, hk⟩ := hmemh d hd
        have hu : ∀ x ∈ headL ops K, dstOf ops x = some s → x = d := fun x hx hxs => by
          have h2 := hw x (hmemh x hx).1 s hxs
          rw [hw d hlt s hds] at h2
          injection h2 with h2
          exact h2.symm
        have hlts : s < a0.tmps.size := hsl d ops[d] s (by rw [Array.getElem?_eq_getElem]) (by unfold dstOf at hds; rw [Array.getElem?_eq_getElem hlt] at hds; exact hds)
        rw [puts_some _ s d hds _ _ hd hu hlts]
        simp only [hds]
      · rw [puts_none _ s _ _ fun d hd hds => hx ⟨d, hd, hds⟩]
        split at h1
        · rename_i d hd
          have hdlt : d < ops.size := by
            unfold writerOf at hd
            exact List.mem_range.1 (List.mem_of_find?_eq_some hd)
          have hds : dstOf ops d = some s := by
            unfold writerOf at hd
            have := List.find?_some hd
            unfold dstOf
            simpa using this
          have hnl : L.getD d false = false := by
            by_cases hk : at_ K d = 2
            · exact hI.notail d hdlt hk
            · exact absurd ⟨d, by unfold headL; rw [List.mem_filter, List.mem_range]; exact ⟨hdlt, by simpa using hk⟩, hds⟩ hx
          rw [if_neg (by rw [hnl]; exact Bool.false_ne_true)] at h1
          exact h1.symm
        · exact h1.symm
    rw [e] at hf
    exact hf

theorem inv_any (hc : Check ops A K) {Q : Exit → Act → World → Prop} {W : World} {a0 : Act} {sp : Nat → World → Value → Prop}
    (hsl : ∀ (i : Nat) (o : Oper) (s : Tmp), ops[i]? = some o → o.dst = some s → s < a0.tmps.size)
    (hst : ∀ i, i < ops.size → at_ K i ≠ 2 → Stable (sp i) ∧ StepOK P ops A K W a0 sp i (sp i))
    (hfin : ∀ w, Below W.heap.size W w → Fin ops sp (wpList P ops (NoPanic Q) ((tailL ops K).filterMap (ops[·]?))) w (headL ops K) a0) :
    ∀ (n : Nat) (L : Array Bool) (a : Act) (w : World), unl ops L = n → Inv ops K sp W a0 L a w → wpAny P .any ops (NoPanic Q) n L a w := by
  intro n
  induction n with
  | zero =>
    intro L a w hn hI
    have hall : ∀ j, j < ops.size → L.getD j false = true := fun j hj => by
      unfold unl at hn
      rw [List.countP_eq_zero] at hn
      simpa using hn j (List.mem_range.2 hj)
    have htail : tailL ops K = [] := by
      unfold tailL
      rw [List.filter_eq_nil_iff]
      intro j hj hk
      have hk' : at_ K j = 2 := by simpa using hk
      have := hI.notail j (List.mem_range.1 hj) hk'
      rw [hall j (List.mem_range.1 hj)] at this
      cases this
    exact finish hc hsl hfin L a w hn hI (fun j hj _ => hall j hj)
  | succ n ih =>
    intro L a w hn hI
    by_cases hdone : ∀ j, j < ops.size → at_ K j ≠ 2 → L.getD j false = true
    · exact finish hc hsl hfin L a w hn hI hdone
    · -- a head is left: the least one may come up
      have hex : ∃ j, j < ops.size ∧ at_ K j ≠ 2 ∧ L.getD j false = false := by
        apply Classical.byContradiction
        intro hno
        exact hdone fun j hj hk => by
          cases hl : L.getD j false with
          | true => rfl
          | false => exact absurd ⟨j, hj, hk, hl⟩ hno
      obtain ⟨j0, hj0⟩ := hex
      obtain ⟨h, ⟨hh1, hh2, hh3⟩, hmin⟩ := least_unl (p := fun j => j < ops.size ∧ at_ K j ≠ 2 ∧ L.getD j false = false) j0 hj0
      obtain ⟨oh, hoh⟩ : ∃ o, ops[h]? = some o := ⟨ops[h], by rw [Array.getElem?_eq_getElem]⟩
      have hhr : h ∈ Region.ready .any ops L := by
        have hL : h < L.size := by rw [hI.size]; exact hh1
        refine mem_ready.2 ⟨by simp [hL] at hh3 ⊢; exact hh3, oh, hoh, fun e he hb => ?_⟩
        have hlt := (hc.anc h oh hoh).2 e he hb
        have hk := (hc.heads h oh hoh hh2).2 e he hb
        cases hl : L.getD e.on false with
        | true => rfl
        | false => exact absurd ⟨by omega, hk, hl⟩ (hmin e.on hlt)
      by_cases hpure : ∃ i, i ∈ Region.ready .any ops L ∧ at_ K i = 0
      · obtain ⟨i, hi, hk0⟩ := hpure
        obtain ⟨_, o, ho, hall⟩ := mem_ready.1 hi
        have hlt := (Array.getElem?_eq_some_iff.1 ho).1
        have hk : at_ K i ≠ 2 := by omega
        obtain ⟨s, hs⟩ := (hc.heads i o ho hk).1
        have hstep := (hst i hlt hk).2
        unfold StepOK at hstep
        simp only [ho] at hstep
        have h1 := hstep a w hI.below (hI.reads hc ho hi hk)
        rw [if_pos hk0] at h1
        obtain ⟨v, hy, hv⟩ := h1
        have hcount := unl_set (ops := ops) (i := i) hlt (by rw [hI.size]; exact hlt) (getD_of_ready hi)
        refine wpAny_first ho (fun j o cs b hj => Region.noSelect_spec hc.sel j o cs b hj) (fun c a w hq => hq.elim) n L a w (fun j oj hj hne hun hno => ?_) hi hy ?_
        · rcases hc.pure_ i o ho hk0 j oj hj hne with ⟨e, he, hb, hon⟩ | hb | hap
          · exact absurd hon (hno e he hb)
          · have := closed_anc hc hI.closed i o ho hall j hb
            have hjl : j < L.size := by rw [hI.size]; exact (Array.getElem?_eq_some_iff.1 hj).1
            simp [hjl] at this hun
            rw [this] at hun
            cases hun
          · exact hap
        · exact ih _ _ _ (by omega) (hI.put hc ho hi hk hs (hsl i o s ho hs) (fun j hj hkj => (hst j hj hkj).1) (Below.refl _ _) hI.below hv)
      · refine ⟨fun h0 => absurd hhr (by rw [h0]; exact List.not_mem_nil), fun i hi => ?_⟩
        obtain ⟨_, o, ho, hall⟩ := mem_ready.1 hi
        have hlt := (Array.getElem?_eq_some_iff.1 ho).1
        have hk0 : at_ K i ≠ 0 := fun e => hpure ⟨i, hi, e⟩
        have hk : at_ K i ≠ 2 := by
          intro hk2
          have hkh : at_ K h ≠ 0 := fun e => hpure ⟨h, hhr, e⟩
          have := closed_anc hc hI.closed i o ho hall h ((hc.tails i o ho hk2).1 h hh1 hkh hh2)
          rw [hh3] at this
          cases this
        obtain ⟨s, hs⟩ := (hc.heads i o ho hk).1
        have hstep := (hst i hlt hk).2
        unfold StepOK at hstep
        simp only [ho] at hstep
        have h1 := hstep a w hI.below (hI.reads hc ho hi hk)
        rw [if_neg hk0] at h1
        have hcount := unl_set (ops := ops) (i := i) hlt (by rw [hI.size]; exact hlt) (getD_of_ready hi)
        unfold wpOp
        simp only [ho]
        split
        · rename_i hw
          exact .inl (wp_of_gives (h1.1 hw) fun v w' ⟨hb, hv⟩ => ih _ _ _ (by omega) (hI.put hc ho hi hk hs (hsl i o s ho hs) (fun j hj hkj => (hst j hj hkj).1) hb (hI.below.trans (hb.mono hI.below.size)) hv))
        · rename_i hw
          exact ih _ _ _ (by omega) (hI.put hc ho hi hk hs (hsl i o s ho hs) (fun j hj hkj => (hst j hj hkj).1) (Below.refl _ _) hI.below (h1.2 (by simpa using hw)))

def dstB (ops : Array Oper) (n : Nat) : Bool := ops.toList.all fun o => match o.dst with | some s => decide (s < n) | none => true

/-- A REGION THAT DRAWS ITS ORDER, an operation at a time. -/
theorem region {id n : Nat} {Q : Exit → Act → World → Prop} {a : Act} {w : World} (A K : List Nat) (hm : P.follows .mixedOrders = true) (hB : checkB ops A K = true) (hd : dstB ops n = true) (hn : a.tmps.size = n)
    (h : Chain P ops A K w.drew a (headL ops K) (wpList P ops (NoPanic Q) ((tailL ops K).filterMap (ops[·]?))) (headL ops K) (fun _ _ _ => True)) : (Code.region id ops true).wp P Q a w := by
  have hc := check_of hB
  refine wp_region_noPanic (wp_region_any hm ?_)
  have hsl : ∀ (i : Nat) (o : Oper) (s : Tmp), ops[i]? = some o → o.dst = some s → s < a.tmps.size := fun i o s ho hs => by
    have hmem : o ∈ ops.toList := by simpa using Array.mem_of_getElem? ho
    have := List.all_eq_true.1 hd o hmem
    simp only [hs, decide_eq_true_eq] at this
    rw [hn]; exact this
  have hmem : ∀ i, i < ops.size → at_ K i ≠ 2 → i ∈ headL ops K := fun i hi hk => by
    unfold headL
    rw [List.mem_filter, List.mem_range]
    exact ⟨hi, by simpa using hk⟩
  obtain ⟨sp, _, h2, h3⟩ := chain_all hc (headL ops K) _ (List.Pairwise.sublist List.filter_sublist List.pairwise_lt_range) (fun i hi => by
    unfold headL at hi
    rw [List.mem_filter, List.mem_range] at hi
    exact hi.1) h
  have hrep : ∀ j, (Array.replicate ops.size false).getD j false = false := fun j => by
    rcases Nat.lt_or_ge j ops.size with hj | hj <;> simp [hj]
  have hunl : unl ops (Array.replicate ops.size false) = ops.size := by
    unfold unl
    rw [List.countP_eq_length.2 fun i _ => by rw [hrep i, Bool.not_false], List.length_range]
  exact inv_any hc hsl (fun i hi hk => h2 i (hmem i hi hk)) h3 _ _ _ _ hunl ⟨by simp, fun j oj _ hl => absurd hl (by rw [hrep j]; exact Bool.false_ne_true), fun j _ _ => hrep j, rfl, rfl, Below.refl _ _, fun s => (by
    split
    · rename_i d _
      rw [hrep d]
      exact if_neg Bool.false_ne_true ▸ rfl
    · rfl)⟩

/-! ### The same with what is read written out -/
def readsOf (ops : Array Oper) (A : List Nat) (i : Nat) : List (Tmp × Option Nat) :=
  match ops[i]? with
  | none => []
  | some o => (o.looksAt ops).map fun s => (s, match writerOf ops s with | some d => if (at_ A i).testBit d then some d else none | none => none)

def RdL (sp : Nat → World → Value → Prop) (a0 : Act) (a : Act) (w : World) : List (Tmp × Option Nat) → Prop
  | [] => True
  | (s, some d) :: l => sp d w (a.eval (.tmp s)) ∧ RdL sp a0 a w l
  | (s, none) :: l => a.eval (.tmp s) = a0.eval (.tmp s) ∧ RdL sp a0 a w l

def readsB (ops : Array Oper) (A : List Nat) (R : List (List (Tmp × Option Nat))) : Bool := (List.range ops.size).all fun i => readsOf ops A i == R.getD i []

theorem rdL_of {sp : Nat → World → Value → Prop} {a0 a : Act} {i : Nat} {w : World} : ∀ (l : List Tmp), ReadL ops A sp a0 i a w l →
    RdL sp a0 a w (l.map fun s => (s, match writerOf ops s with | some d => if (at_ A i).testBit d then some d else none | none => none))
  | [], _ => trivial
  | s :: l, h => by
    have h2 := rdL_of l h.2
    have h1 := h.1
    rw [List.map_cons]
    unfold Read at h1
    cases hw : writerOf ops s with
    | none => simp only [hw] at h1; exact ⟨h1, h2⟩
    | some d =>
      simp only [hw] at h1
      by_cases hb : (at_ A i).testBit d = true
      · rw [if_pos hb] at h1; simp only [if_pos hb]; exact ⟨h1, h2⟩
      · rw [if_neg hb] at h1; simp only [if_neg hb]; exact ⟨h1, h2⟩

def Step (P : Program) (ops : Array Oper) (W : World) (a0 : Act) (sp : Nat → World → Value → Prop) (k : Nat) (rd : List (Tmp × Option Nat)) (o : Oper) (g : World → Value → Prop) : Prop :=
  ∀ a w, Below W.heap.size W w → RdL sp a0 a w rd →
    if k = 0 then ∃ v, Yields P ops o v a ∧ g w v
    else (Region.wanted o (yielded ops a.tmps) = true → gives P o a w fun v w' => Below w.heap.size w w' ∧ g w' v) ∧ (Region.wanted o (yielded ops a.tmps) = false → g w undef)

/-- What stands behind the head, the destinations written out. -/
def FinD (sp : Nat → World → Value → Prop) (T : Act → World → Prop) (w : World) : List (Nat × Nat × Tmp × List (Tmp × Option Nat)) → Act → Prop
  | [], b => T b w
  | (d, _, t, _) :: r, b => ∀ v, sp d w v → FinD sp T w r (b.put (some t) v)

theorem fin_of {sp : Nat → World → Value → Prop} {T : Act → World → Prop} {w : World} {R : List (List (Tmp × Option Nat))} {D : List Tmp} : ∀ (l : List Nat) (b : Act), (∀ i ∈ l, dstOf ops i = some (D.getD i 0)) →
    FinD sp T w (l.map fun i => (i, at_ K i, D.getD i 0, R.getD i [])) b → Fin ops sp T w l b
  | [], _, _, h => h
  | d :: r, b, hd, h => fun v hv => by
    have h1 := h v hv
    rw [hd d (by simp)]
    exact fin_of r _ (fun i hi => hd i (by simp [hi])) h1

def Chain' (P : Program) (ops : Array Oper) (W : World) (a0 : Act) (T : Act → World → Prop) (hd : List (Nat × Nat × Tmp × List (Tmp × Option Nat))) : List (Nat × Nat × Tmp × List (Tmp × Option Nat)) → (Nat → World → Value → Prop) → Prop
  | [], sp => ∀ w, Below W.heap.size W w → FinD sp T w hd a0
  | (i, k, _, rd) :: r, sp => ∃ g, Stable g ∧ (∀ o, ops[i]? = some o → Step P ops W a0 sp k rd o g) ∧ Chain' P ops W a0 T hd r fun j => if j = i then g else sp j

theorem chain_of {W : World} {a0 : Act} {hd : List Nat} {T : Act → World → Prop} {R : List (List (Tmp × Option Nat))} {D : List Tmp} (hR : readsB ops A R = true) (hD : ∀ i ∈ hd, dstOf ops i = some (D.getD i 0)) : ∀ (todo : List Nat) (sp : Nat → World → Value → Prop), (∀ i ∈ todo, i < ops.size) →
    Chain' P ops W a0 T (hd.map fun i => (i, at_ K i, D.getD i 0, R.getD i [])) (todo.map fun i => (i, at_ K i, D.getD i 0, R.getD i [])) sp → Chain P ops A K W a0 hd T todo sp
  | [], _, _, h => fun w hb => fin_of hd a0 hD (h w hb)
  | i :: r, sp, hlt, h => by
    obtain ⟨g, hg, hs, h⟩ := h
    refine ⟨g, hg, ?_, chain_of hR hD r _ (fun j hj => hlt j (by simp [hj])) h⟩
    have hi := hlt i (by simp)
    have ho : ops[i]? = some ops[i] := by rw [Array.getElem?_eq_getElem]
    have h1 := hs _ ho
    unfold StepOK
    simp only [ho]
    intro a w hB hr
    refine h1 a w hB ?_
    have h2 := List.all_eq_true.1 hR i (List.mem_range.2 hi)
    rw [beq_iff_eq] at h2
    rw [← h2]
    unfold readsOf
    simp only [ho]
    exact rdL_of _ hr

theorem drop_range (l : List Oper) : ∀ (m : Nat), ((List.range l.length).drop m).filterMap (l.toArray[·]?) = l.drop m := by
  intro m
  apply List.ext_getElem?
  intro i
  have h1 : ∀ (ks : List Nat), (∀ k ∈ ks, k < l.length) → ∀ (i : Nat), (ks.filterMap (l.toArray[·]?))[i]? = (ks[i]?).bind fun (k : Nat) => l[k]? := by
    intro ks
    induction ks with
    | nil => intro _ i; simp
    | cons k ks ih =>
      intro hk i
      have hkl := hk k (by simp)
      rw [List.filterMap_cons]
      have : l.toArray[k]? = some l[k] := by simp [hkl]
      simp only [this]
      cases i with
      | zero => simp [hkl]
      | succ i => simp only [List.getElem?_cons_succ]; exact ih (fun x hx => hk x (by simp [hx])) i
  rw [h1 _ (fun k hk => by have := List.mem_of_mem_drop hk; exact List.mem_range.1 this)]
  rw [List.getElem?_drop, List.getElem?_drop]
  by_cases h : m + i < l.length
  · rw [List.getElem?_range h]; rfl
  · rw [List.getElem?_eq_none (by simp; omega), Option.bind_none]
    exact (List.getElem?_eq_none (by omega)).symm

/-- What the kernel is asked of a region. -/
def allB (ops : Array Oper) (n : Nat) (A K : List Nat) (D : List Tmp) (R : List (List (Tmp × Option Nat))) (m : Nat) : Bool :=
  checkB ops A K && dstB ops n && readsB ops A R && (headL ops K).all (fun i => dstOf ops i == some (D.getD i 0)) && (tailL ops K == (List.range ops.size).drop m)

/-- A REGION THAT DRAWS ITS ORDER, an operation at a time: its head's operations (kinds, destinations, reads) written out; from operation m on stands the tail. -/
theorem region_ {l : List Oper} {id n : Nat} {Q : Exit → Act → World → Prop} {a : Act} {w : World} (A K : List Nat) (D : List Tmp) (R : List (List (Tmp × Option Nat))) (m : Nat) (hm : P.follows .mixedOrders = true)
    (hB : allB l.toArray n A K D R m = true) (hn : a.tmps.size = n)
    (h : ∀ W, W = w.drew → Chain' P l.toArray W a (wpList P l.toArray (NoPanic Q) (l.drop m)) ((headL l.toArray K).map fun i => (i, at_ K i, D.getD i 0, R.getD i [])) ((headL l.toArray K).map fun i => (i, at_ K i, D.getD i 0, R.getD i [])) (fun _ _ _ => True)) : (Code.region id l.toArray true).wp P Q a w := by
  simp only [allB, Bool.and_eq_true] at hB
  obtain ⟨⟨⟨⟨h1, h2⟩, h3⟩, h4⟩, h5⟩ := hB
  refine region A K hm h1 h2 hn (chain_of (D := D) h3 (fun i hi => ?_) _ _ (fun i hi => ?_) ?_)
  · have := List.all_eq_true.1 h4 i hi
    simpa using this
  · unfold headL at hi
    rw [List.mem_filter, List.mem_range] at hi
    exact hi.1
  · rw [beq_iff_eq] at h5
    rw [h5]
    have := drop_range l m
    rw [show l.toArray.size = l.length from rfl, this]
    exact h _ rfl

section
variable {W : World} {a0 : Act} {T : Act → World → Prop} {hd r : List (Nat × Nat × Tmp × List (Tmp × Option Nat))} {t : Tmp} {sp : Nat → World → Value → Prop} {i : Nat} {rd : List (Tmp × Option Nat)} {o : Oper} {u : Value}

/-- One that yields u in whatever world. -/
theorem ch_pure (ho : ops[i]? = some o) (h : ∀ a w, RdL sp a0 a w rd → Yields P ops o u a) (h2 : Chain' P ops W a0 T hd r fun j => if j = i then Is u else sp j) : Chain' P ops W a0 T hd ((i, 0, t, rd) :: r) sp :=
  ⟨Is u, stable_is u, fun o' ho' a w _ hr => by
    have : o' = o := Option.some.inj (ho'.symm.trans ho)
    subst this
    rw [if_pos rfl]
    exact ⟨u, h a w hr, rfl⟩, h2⟩

/-- A move of a slot whose value is said by a predicate. -/
theorem ch_move {s : Tmp} {d : Nat} (g : World → Value → Prop) (hg : Stable g) (ho : ops[i]? = some o) (hgd : o.guard = none) (hop : o.op = .move (.tmp s) ∨ o.op = .assign (.tmp s)) (hsp : sp d = g) (h2 : Chain' P ops W a0 T hd r fun j => if j = i then g else sp j) : Chain' P ops W a0 T hd ((i, 0, t, (s, some d) :: rd) :: r) sp :=
  ⟨g, hg, fun o' ho' a w _ hr => by
    have : o' = o := Option.some.inj (ho'.symm.trans ho)
    subst this
    rw [if_pos rfl]
    refine ⟨a.eval (.tmp s), .inl ⟨by simp [Region.wanted, hgd], fun w => ?_⟩, hsp ▸ hr.1⟩
    rcases hop with hop | hop <;> simp [execOp, hop], h2⟩

/-- One that comes to u, whatever it makes. -/
theorem ch_def (ho : ops[i]? = some o) (hw : ∀ a w, RdL sp a0 a w rd → Region.wanted o (yielded ops a.tmps) = true) (h : ∀ a w, Below W.heap.size W w → RdL sp a0 a w rd → gives P o a w fun v w' => v = u ∧ Below w.heap.size w w')
    (h2 : Chain' P ops W a0 T hd r fun j => if j = i then Is u else sp j) : Chain' P ops W a0 T hd ((i, 1, t, rd) :: r) sp :=
  ⟨Is u, stable_is u, fun o' ho' a w hB hr => by
    have : o' = o := Option.some.inj (ho'.symm.trans ho)
    subst this
    rw [if_neg (by decide)]
    refine ⟨fun _ => ?_, fun h0 => absurd h0 (by rw [hw a w hr]; decide)⟩
    have := h a w hB hr
    unfold gives at *
    generalize (execOp a.eval o').run P w = r at *
    cases r with
    | ok n w' =>
      cases n with
      | value v => exact ⟨this.2, this.1⟩
      | skip => exact ⟨this.2, this.1⟩
      | enter f args => exact Calls.mono this fun e w'' ⟨v, he, hv, hb⟩ => ⟨v, he, hb, hv⟩
      | _ => exact this.elim
    | halt x w' => exact this.elim, h2⟩

/-- One whose value meets g. -/
theorem ch_rel (g : World → Value → Prop) (hg : Stable g) (ho : ops[i]? = some o) (hw : ∀ a w, RdL sp a0 a w rd → Region.wanted o (yielded ops a.tmps) = true) (h : ∀ a w, Below W.heap.size W w → RdL sp a0 a w rd → gives P o a w fun v w' => g w' v ∧ Below w.heap.size w w')
    (h2 : Chain' P ops W a0 T hd r fun j => if j = i then g else sp j) : Chain' P ops W a0 T hd ((i, 1, t, rd) :: r) sp :=
  ⟨g, hg, fun o' ho' a w hB hr => by
    have : o' = o := Option.some.inj (ho'.symm.trans ho)
    subst this
    rw [if_neg (by decide)]
    refine ⟨fun _ => ?_, fun h0 => absurd h0 (by rw [hw a w hr]; decide)⟩
    have := h a w hB hr
    unfold gives at *
    generalize (execOp a.eval o').run P w = r at *
    cases r with
    | ok n w' =>
      cases n with
      | value v => exact ⟨this.2, this.1⟩
      | skip => exact ⟨this.2, this.1⟩
      | enter f args => exact Calls.mono this fun e w'' ⟨v, he, hv, hb⟩ => ⟨v, he, hb, hv⟩
      | _ => exact this.elim
    | halt x w' => exact this.elim, h2⟩
end

/-- A slice over a new block, from N on. -/
def Row (N : Nat) (t : TypeId) (n : Nat) (cs : Array Value) : World → Value → Prop := fun w v => ∃ b, v = .slice (some ⟨b, 0, none⟩) n n ∧ N ≤ b ∧ w.heap[b]? = some (.cells cs t (0, 0))
theorem stable_row (N : Nat) (t : TypeId) (n : Nat) (cs : Array Value) : Stable (Row N t n cs) := fun _ _ _ hb ⟨b, hv, hn, hh⟩ => ⟨b, hv, hn, (hb.block b (Array.getElem?_eq_some_iff.1 hh).1).trans hh⟩
/-- A pointer to a new block, from N on. -/
def Box (N : Nat) (t : TypeId) (cs : Array Value) : World → Value → Prop := fun w v => ∃ b, v = .pointer (some ⟨b, 0, none⟩) ∧ N ≤ b ∧ w.heap[b]? = some (.cells cs t (0, 0))
theorem stable_box (N : Nat) (t : TypeId) (cs : Array Value) : Stable (Box N t cs) := fun _ _ _ hb ⟨b, hv, hn, hh⟩ => ⟨b, hv, hn, (hb.block b (Array.getElem?_eq_some_iff.1 hh).1).trans hh⟩

theorem wanted_none {o : Oper} {y : Nat → Option Bool} (h : o.guard = none) : Region.wanted o y = true := by simp [Region.wanted, h]
theorem wanted_some {o : Oper} {a : Act} {j s : Nat} {b : Bool} (h : o.guard = some (j, b)) (hd : dstOf ops j = some s) (he : a.eval (.tmp s) = .bool b) : Region.wanted o (yielded ops a.tmps) = true := by
  have h1 : a.tmps[s]? = some (.bool b) := by
    simp only [Act.eval, Array.getD_eq_getD_getElem?] at he
    cases hx : a.tmps[s]? with
    | none => rw [hx] at he; cases he
    | some v => rw [hx] at he; rw [Option.getD_some] at he; rw [he]
  unfold dstOf at hd
  simp [Region.wanted, h, yielded, hd, h1]
theorem wanted_not {o : Oper} {a : Act} {j s : Nat} {b c : Bool} (h : o.guard = some (j, b)) (hd : dstOf ops j = some s) (he : a.eval (.tmp s) = .bool c) (hc : c ≠ b) : Region.wanted o (yielded ops a.tmps) = false := by
  have h1 : a.tmps[s]? = some (.bool c) := by
    simp only [Act.eval, Array.getD_eq_getD_getElem?] at he
    cases hx : a.tmps[s]? with
    | none => rw [hx] at he; cases he
    | some v => rw [hx] at he; rw [Option.getD_some] at he; rw [he]
  unfold dstOf at hd
  simp [Region.wanted, h, yielded, hd, h1, hc]
theorem yields_run {o : Oper} {a : Act} {u : Value} (hw : Region.wanted o (yielded ops a.tmps) = true) (h : ∀ w, (execOp a.eval o).run P w = .ok (.value u) w) : Yields P ops o u a := .inl ⟨hw, h⟩
theorem yields_skip {o : Oper} {a : Act} (hw : Region.wanted o (yielded ops a.tmps) = false) : Yields P ops o undef a := .inr ⟨hw, rfl⟩
end
end Go.Proofs.Ytldnjbpcdojffaa.Rg
/- Small laws for the walks: a call by its contract, what lies below a block number, a new block's facts. Conditions: none. -/
namespace Go.Proofs.Ytldnjbpcdojffaa
set_option linter.unusedVariables false
set_option linter.unusedSimpArgs false
open Go Go.RowKit

theorem bcell {W w1 : World} (hb : Below W.heap.size W w1) : (∀ b o, b < W.heap.size → w1.cell? ⟨b, o, none⟩ = W.cell? ⟨b, o, none⟩) ∧ (∀ b o, b < W.heap.size → w1.frozen? ⟨b, o, none⟩ = W.frozen? ⟨b, o, none⟩) :=
  ⟨fun b o h => hb.cell (p := ⟨b, o, none⟩) h, fun b o h => hb.frozen (p := ⟨b, o, none⟩) h⟩

theorem enters {P : Program} {f : FuncId} {fn : Func} (hf : P.funcs[f]? = some fn) (hname : (fn.name == "runtime.NumGoroutine") = false) (hb : fn.body.isSome = true) (args : Array Value) (w : World) : (callFunc f args).run P w = .ok (.enter f args) w := by
  have h1 : fn.name ≠ "runtime.NumGoroutine" := by simpa using hname
  obtain ⟨c, hc⟩ := Option.isSome_iff_exists.1 hb
  simp [callFunc, hf, h1, hc]

theorem run_call {P : Program} {oi : Oper} {a : Act} {w : World} {f : FuncId} {fn : Func} {ags : Array Operand} {ts : Array TypeId} (hf : P.funcs[f]? = some fn) (hname : (fn.name == "runtime.NumGoroutine") = false) (hb : fn.body.isSome = true) (args : Array Value)
    (hop : oi.op = .call { callee := .value (.func f), args := ags, argTypes := ts }) (hargs : ags.map a.eval = args) : (execOp a.eval oi).run P w = .ok (.enter f args) w := by
  have he := enters hf hname hb args w
  unfold execOp
  simp [hop, resolve, Deferred.ofValue, invoke, Act.eval, hargs, he]

/-- A call in a region that draws, by its contract. -/
theorem Rg.gives_call {P : Program} {o : Oper} {a : Act} {w : World} {R : Value → World → Prop} {f : FuncId} {fn : Func} {ags : Array Operand} {ts : Array TypeId} (hf : P.funcs[f]? = some fn) (hname : (fn.name == "runtime.NumGoroutine") = false) (hb : fn.body.isSome = true) (args : Array Value)
    (hop : o.op = .call { callee := .value (.func f), args := ags, argTypes := ts }) (hargs : ags.map a.eval = args)
    (h : Calls P f args w fun e w' => ∃ v, e = .returned v ∧ R v w') : Rg.gives P o a w R :=
  Rg.gives_enter (run_call hf hname hb args hop hargs) h

/-- A call in a plain region, by its contract: an arm of go_wp2_with. -/
theorem list_call {P : Program} {ops : Array Oper} {Q : Exit → Act → World → Prop} {rest : List Oper} {oi : Oper} {a : Act} {w : World} (N : Option Tmp) (hd : oi.dst = N) (hg : oi.guard = none) {f : FuncId} {fn : Func} {ags : Array Operand} {ts : Array TypeId} (hf : P.funcs[f]? = some fn) (hname : (fn.name == "runtime.NumGoroutine") = false) (hb : fn.body.isSome = true) (args : Array Value)
    (hop : oi.op = .call { callee := .value (.func f), args := ags, argTypes := ts }) (hargs : ags.map a.eval = args)
    (h : Calls P f args w fun e w' => ∃ v, e = .returned v ∧ wpList P ops Q rest (a.put N v) w') : wpList P ops Q (oi :: rest) a w := by
  refine wpList_plain hg fun K hK => ?_
  have hrun : (execOp a.eval oi).run P w = .ok (.enter f args) w := run_call hf hname hb args hop hargs
  unfold Oper.wp
  rw [hrun, Oper.upon_enter]
  refine h.mono fun e w'' hh => ?_
  obtain ⟨v, rfl, hk⟩ := hh
  subst hd
  exact hK _ _ hk

theorem eval_const_ (a : Act) (v : Value) : a.eval (.const v) = v := rfl
theorem eval_global_ (a : Act) (g : Nat) : a.eval (.global g) = .pointer (some ⟨g, 0, none⟩) := rfl

/-- Four cells of a block. -/
theorem cells4 {w : World} {b : Nat} {c0 c1 c2 c3 : Value} {t : TypeId} {mk : Nat × Nat} (h : w.heap[b]? = some (.cells #[c0, c1, c2, c3] t mk)) :
    w.cell? ⟨b, 0, none⟩ = some c0 ∧ w.cell? ⟨b, 1, none⟩ = some c1 ∧ w.cell? ⟨b, 2, none⟩ = some c2 ∧ w.cell? ⟨b, 3, none⟩ = some c3 := by
  simp [World.cell?, h]
theorem heap_set {w : World} {b i : Nat} {cs : Array Value} {t : TypeId} {mk : Nat × Nat} (h : w.heap[b]? = some (.cells cs t mk)) (u : Value) : (w.setCell ⟨b, i, none⟩ u).heap[b]? = some (.cells (cs.setIfInBounds i u) t mk) := by
  simp [World.setCell, Array.getElem?_modify, h]
theorem heap_set_ne {w : World} {b : Nat} {a : Addr} {o : Obj} (h : w.heap[b]? = some o) (hne : b ≠ a.block) (u : Value) : (w.setCell a u).heap[b]? = some o := (Below.heap_setCell w a u b hne).trans h
theorem set4 {w : World} {b : Nat} {c0 c1 c2 c3 : Value} {t : TypeId} {mk : Nat × Nat} (h : w.heap[b]? = some (.cells #[c0, c1, c2, c3] t mk)) (u0 u1 u2 u3 : Value) :
    ((((w.setCell ⟨b, 0, none⟩ u0).setCell ⟨b, 1, none⟩ u1).setCell ⟨b, 2, none⟩ u2).setCell ⟨b, 3, none⟩ u3).heap[b]? = some (.cells #[u0, u1, u2, u3] t mk) := by
  have := heap_set (i := 3) (heap_set (i := 2) (heap_set (i := 1) (heap_set (i := 0) h u0) u1) u2) u3
  simpa using this
theorem cells8 {w : World} {b : Nat} {c0 c1 c2 c3 c4 c5 c6 c7 : Value} {t : TypeId} {mk : Nat × Nat} (h : w.heap[b]? = some (.cells #[c0, c1, c2, c3, c4, c5, c6, c7] t mk)) :
    w.cell? ⟨b, 0, none⟩ = some c0 ∧ w.cell? ⟨b, 1, none⟩ = some c1 ∧ w.cell? ⟨b, 2, none⟩ = some c2 ∧ w.cell? ⟨b, 3, none⟩ = some c3 ∧ w.cell? ⟨b, 4, none⟩ = some c4 ∧ w.cell? ⟨b, 5, none⟩ = some c5 ∧ w.cell? ⟨b, 6, none⟩ = some c6 ∧ w.cell? ⟨b, 7, none⟩ = some c7 := by
  simp [World.cell?, h]
theorem heap_five {w : World} {b i0 i1 i2 i3 i4 : Nat} {cs : Array Value} {t : TypeId} {mk : Nat × Nat} (h : w.heap[b]? = some (.cells cs t mk)) (u0 u1 u2 u3 u4 : Value) :
    (((((w.setCell ⟨b, i0, none⟩ u0).setCell ⟨b, i1, none⟩ u1).setCell ⟨b, i2, none⟩ u2).setCell ⟨b, i3, none⟩ u3).setCell ⟨b, i4, none⟩ u4).heap[b]? = some (.cells (((((cs.setIfInBounds i0 u0).setIfInBounds i1 u1).setIfInBounds i2 u2).setIfInBounds i3 u3).setIfInBounds i4 u4) t mk) :=
  heap_set (heap_set (heap_set (heap_set (heap_set h u0) u1) u2) u3) u4
theorem heap_five' {w : World} {b i0 i1 i2 i3 i4 : Nat} {cs cs' : Array Value} {t : TypeId} {mk : Nat × Nat} {u0 u1 u2 u3 u4 : Value} (h : w.heap[b]? = some (.cells cs t mk)) (hc : ((((cs.setIfInBounds i0 u0).setIfInBounds i1 u1).setIfInBounds i2 u2).setIfInBounds i3 u3).setIfInBounds i4 u4 = cs') :
    (((((w.setCell ⟨b, i0, none⟩ u0).setCell ⟨b, i1, none⟩ u1).setCell ⟨b, i2, none⟩ u2).setCell ⟨b, i3, none⟩ u3).setCell ⟨b, i4, none⟩ u4).heap[b]? = some (.cells cs' t mk) := by
  subst hc; exact heap_five h u0 u1 u2 u3 u4
theorem heap_eight {w : World} {b : Nat} {c0 c1 c2 c3 c4 c5 c6 c7 : Value} {t : TypeId} {mk : Nat × Nat} (h : w.heap[b]? = some (.cells #[c0, c1, c2, c3, c4, c5, c6, c7] t mk)) (u0 u1 u2 u3 u4 u5 u6 u7 : Value) :
    ((((((((w.setCell ⟨b, 0, none⟩ u0).setCell ⟨b, 1, none⟩ u1).setCell ⟨b, 2, none⟩ u2).setCell ⟨b, 3, none⟩ u3).setCell ⟨b, 4, none⟩ u4).setCell ⟨b, 5, none⟩ u5).setCell ⟨b, 6, none⟩ u6).setCell ⟨b, 7, none⟩ u7).heap[b]? = some (.cells #[u0, u1, u2, u3, u4, u5, u6, u7] t mk) := by
  have := heap_set (i := 7) (heap_set (i := 6) (heap_set (i := 5) (heap_set (i := 4) (heap_set (i := 3) (heap_set (i := 2) (heap_set (i := 1) (heap_set (i := 0) h u0) u1) u2) u3) u4) u5) u6) u7
  simpa using this
theorem keep4 {w : World} {b b' : Nat} {o : Obj} (h : w.heap[b]? = some o) (hne : b ≠ b') (u0 u1 u2 u3 : Value) :
    ((((w.setCell ⟨b', 0, none⟩ u0).setCell ⟨b', 1, none⟩ u1).setCell ⟨b', 2, none⟩ u2).setCell ⟨b', 3, none⟩ u3).heap[b]? = some o :=
  heap_set_ne (heap_set_ne (heap_set_ne (heap_set_ne h hne _) hne _) hne _) hne _
theorem set4_below {N : Nat} {a w : World} {b : Nat} (h : Below N a w) (hb : N ≤ b) (u0 u1 u2 u3 : Value) :
    Below N a ((((w.setCell ⟨b, 0, none⟩ u0).setCell ⟨b, 1, none⟩ u1).setCell ⟨b, 2, none⟩ u2).setCell ⟨b, 3, none⟩ u3) :=
  (((h.setCell hb _).setCell hb _).setCell hb _).setCell hb _
theorem size4 {w : World} {b : Nat} {u0 u1 u2 u3 : Value} : ((((w.setCell ⟨b, 0, none⟩ u0).setCell ⟨b, 1, none⟩ u1).setCell ⟨b, 2, none⟩ u2).setCell ⟨b, 3, none⟩ u3).heap.size = w.heap.size := by simp [World.setCell]
theorem frozen_of {w : World} {b : Nat} {cs : Array Value} {t : TypeId} (h : w.heap[b]? = some (.cells cs t (0, 0))) : ∀ i, w.frozen? ⟨b, i, none⟩ = false := by
  intro i; simp [World.frozen?, h]
theorem lt_of_heap {w : World} {b : Nat} {o : Obj} (h : w.heap[b]? = some o) : b < w.heap.size := (Array.getElem?_eq_some_iff.1 h).1
theorem heap_keep {N : Nat} {w w1 : World} {b : Nat} {o : Obj} (hb : Below N w w1) (hlt : b < N) (h : w.heap[b]? = some o) : w1.heap[b]? = some o := (hb.block b hlt).trans h
theorem heap_keep' {w w1 : World} {b : Nat} {o : Obj} (hb : Below w.heap.size w w1) (h : w.heap[b]? = some o) : w1.heap[b]? = some o := heap_keep hb (lt_of_heap h) h
theorem heap_drew {w : World} {b : Nat} {o : Obj} (h : w.heap[b]? = some o) : w.drew.heap[b]? = some o := h
theorem heap_new (w : World) (o : Obj) : (w.alloc o).heap[w.heap.size]? = some o := heap_alloc_new w o
theorem heap_new' {w : World} {n : Nat} (h : w.heap.size = n) (o : Obj) : (w.alloc o).heap[n]? = some o := h ▸ heap_new w o
theorem heap_old {w : World} {b : Nat} {o : Obj} (h : w.heap[b]? = some o) (o' : Obj) : (w.alloc o').heap[b]? = some o := (Below.heap_alloc w o' b (lt_of_heap h)).trans h
theorem below_drew' {N : Nat} {w w1 : World} (h : Below N w.drew w1) : Below N w w1 := ⟨h.os, h.tape, h.output, h.size, h.block⟩

theorem eq_loop {P : Program} (w : World) (d : Nat) (e : TypeId) (k : IntKind) (xs ys : List Int) (he : P.underlying e = some (.int k)) (hpk : P.plainKey e = true) (hxy : xs.length = ys.length) :
    ∀ (m s : Nat), s + m = xs.length → (forIn (List.range' s m) ((none, ()) : Option Bool × Unit) fun i __s => (do
              let __do_lift ← part e (List.map (Value.int k) xs).toArray (i * 1)
              let __do_lift_1 ← part e (List.map (Value.int k) ys).toArray (i * 1)
              let __do_lift ← Op.equalIn (d + 1) e __do_lift __do_lift_1
              if (!__do_lift) = true then pure (ForInStep.done (some false, ())) else pure (ForInStep.yield (none, ())) : Sem (ForInStep (Option Bool × Unit)))).run P w = .ok (if xs.drop s == ys.drop s then none else some false, ()) w := by
  intro m
  induction m with
  | zero =>
    intro s hs
    have h1 : xs.drop s = [] := List.drop_eq_nil_of_le (by omega)
    have h2 : ys.drop s = [] := List.drop_eq_nil_of_le (by omega)
    simp [h1, h2]
  | succ m ih =>
    intro s hs
    have hx : (List.map (Value.int k) xs).toArray[s * 1]? = some (.int k (xs[s]'(by omega))) := by simp [show s < xs.length by omega]
    have hy : (List.map (Value.int k) ys).toArray[s * 1]? = some (.int k (ys[s]'(by omega))) := by simp [show s < ys.length by omega]
    have hih := ih (s + 1) (by omega)
    rw [List.range'_succ, List.forIn_cons]
    simp only [Sem.run_bind, run_part_plain w hpk hx, run_part_plain w hpk hy, Result.andThen_ok, run_equalIn_int w d e k k _ _ he]
    rw [show xs.drop s = xs[s]'(by omega) :: xs.drop (s + 1) from (List.drop_eq_getElem_cons (by omega)), show ys.drop s = ys[s]'(by omega) :: ys.drop (s + 1) from (List.drop_eq_getElem_cons (by omega))]
    by_cases h : xs[s]'(by omega) = ys[s]'(by omega)
    · simp only [h, beq_self_eq_true, Bool.not_true, Bool.false_eq_true, if_false, Sem.run_pure, Result.andThen_ok, List.cons_beq_cons, Bool.true_and]
      exact hih
    · have hb : (xs[s]'(by omega) == ys[s]'(by omega)) = false := by simpa using h
      simp only [hb, Bool.not_false, if_true, Sem.run_pure, Result.andThen_ok, List.cons_beq_cons, Bool.false_and]
      rfl
theorem eq_arr {P : Program} (w : World) (d : Nat) (t e : TypeId) (n : Nat) (k : IntKind) (xs ys : List Int) (ht : P.underlying t = some (.array n e)) (he : P.underlying e = some (.int k)) (hpk : P.plainKey e = true) {i : TypeInfo} (hi : P.info? e = some i) (hs : i.size = 1)
   (hx : xs.length = n) (hy : ys.length = n) : (Op.equalIn (d + 2) t (.agg (xs.map (Value.int k)).toArray) (.agg (ys.map (Value.int k)).toArray)).run P w = .ok (xs == ys) w := by
  have hl := eq_loop w d e k xs ys he hpk (hx.trans hy.symm) n 0 (by omega)
  unfold Op.equalIn
  simp only [Sem.run_bind, run_underlying ht, Result.andThen_ok]
  simp only [sizeOf, typeInfo, Sem.run_bind, run_program, Result.andThen_ok, hi, Sem.run_pure, hs]
  simp only [Std.Legacy.Range.forIn_eq_forIn_range']
  have hsz : ([:n] : Std.Legacy.Range).size = n := by simp [Std.Legacy.Range.size]
  have e0 : ([:n] : Std.Legacy.Range).start = 0 := rfl
  have e1 : ([:n] : Std.Legacy.Range).step = 1 := rfl
  rw [hsz]
  erw [hl]
  simp only [Result.andThen_ok, List.drop_zero]
  by_cases h : xs = ys
  · simp [h]
  · have hb : (xs == ys) = false := by simpa using h
    simp [hb]

/-- Two lists of numbers, held against each other: behind a name, so that no walk opens it. -/
def eqL (xs ys : List Int) : Bool := xs == ys
theorem eqL_iff {xs ys : List Int} : eqL xs ys = true ↔ xs = ys := by unfold eqL; exact beq_iff_eq
theorem eqL_refl (xs : List Int) : eqL xs xs = true := eqL_iff.2 rfl
theorem run_eql_arr {P : Program} (w : World) (t e : TypeId) (n : Nat) (k : IntKind) (xs ys : List Int) (ht : P.underlying t = some (.array n e)) (he : P.underlying e = some (.int k)) (hpk : P.plainKey e = true) {i : TypeInfo} (hi : P.info? e = some i) (hs : i.size = 1)
   (hx : xs.length = n) (hy : ys.length = n) : (binOp .eql t (.agg (xs.map (Value.int k)).toArray) (.agg (ys.map (Value.int k)).toArray)).run P w = .ok (.bool (eqL xs ys)) w := by
  rw [run_eql_struct, eq_arr w 9998 t e n k xs ys ht he hpk hi hs hx hy]
  rfl
theorem run_neq_arr {P : Program} (w : World) (t e : TypeId) (n : Nat) (k : IntKind) (xs ys : List Int) (ht : P.underlying t = some (.array n e)) (he : P.underlying e = some (.int k)) (hpk : P.plainKey e = true) {i : TypeInfo} (hi : P.info? e = some i) (hs : i.size = 1)
   (hx : xs.length = n) (hy : ys.length = n) : (binOp .neq t (.agg (xs.map (Value.int k)).toArray) (.agg (ys.map (Value.int k)).toArray)).run P w = .ok (.bool (!eqL xs ys)) w := by
  rw [run_neq_struct, eq_arr w 9998 t e n k xs ys ht he hpk hi hs hx hy]
  rfl
theorem below_wdrew {N : Nat} {w wr W : World} (h : Below N w wr) (hW : W = wr.drew) : Below N w W := by subst hW; exact h.drew
theorem below_call {N : Nat} {w W w1 : World} (h : Below N w W) (hN : N ≤ W.heap.size) (hb : Below W.heap.size W w1) : Below N w w1 := h.trans (hb.mono hN)

end Go.Proofs.Ytldnjbpcdojffaa
/- Plain law: a number out of four words: sums, differences, products, word by word. Conditions: words are below 2^64. -/
namespace Go.Proofs.Ytldnjbpcdojffaa
set_option linter.unusedVariables false
set_option linter.unusedSimpArgs false
namespace Pl
def V (a0 a1 a2 a3 : Nat) : Nat := a0 + 18446744073709551616 * a1 + 340282366920938463463374607431768211456 * a2 + 6277101735386680763835789423207666416102355444464034512896 * a3
def W4 (a0 a1 a2 a3 : Nat) : Prop := a0 < 18446744073709551616 ∧ a1 < 18446744073709551616 ∧ a2 < 18446744073709551616 ∧ a3 < 18446744073709551616
/-- 2^256 -/
def T256 : Nat := 115792089237316195423570985008687907853269984665640564039457584007913129639936
def T64 : Nat := 18446744073709551616

theorem V_lt {a0 a1 a2 a3 : Nat} (h : W4 a0 a1 a2 a3) : V a0 a1 a2 a3 < T256 := by unfold W4 at h; unfold V T256; omega
theorem V_inj {a0 a1 a2 a3 b0 b1 b2 b3 : Nat} (ha : W4 a0 a1 a2 a3) (hb : W4 b0 b1 b2 b3) (h : V a0 a1 a2 a3 = V b0 b1 b2 b3) : a0 = b0 ∧ a1 = b1 ∧ a2 = b2 ∧ a3 = b3 := by
  unfold W4 at ha hb; unfold V at h
  refine ⟨?_, ?_, ?_, ?_⟩ <;> omega
theorem V_zero {a0 a1 a2 a3 : Nat} : V a0 a1 a2 a3 = 0 ↔ a0 = 0 ∧ a1 = 0 ∧ a2 = 0 ∧ a3 = 0 := by unfold V; omega
/-- The words of a number. -/
theorem words (n : Nat) (h : n < T256) : ∃ a0 a1 a2 a3, W4 a0 a1 a2 a3 ∧ V a0 a1 a2 a3 = n := by
  unfold T256 at h
  refine ⟨n % 18446744073709551616, n / 18446744073709551616 % 18446744073709551616, n / 340282366920938463463374607431768211456 % 18446744073709551616, n / 6277101735386680763835789423207666416102355444464034512896, ?_, ?_⟩
  · unfold W4; omega
  · unfold V; omega

def sbl (x y b : Nat) : Nat := (x + 18446744073709551616 - y - b) % 18446744073709551616
def sbb (x y b : Nat) : Nat := if x < y + b then 1 else 0
theorem sbb_le (x y b : Nat) : sbb x y b ≤ 1 := by unfold sbb; split <;> omega
theorem sb_spec {x y b r c : Nat} (hx : x < 18446744073709551616) (hy : y < 18446744073709551616) (hb : b ≤ 1) (h : sbl x y b = r ∧ sbb x y b = c) : r < 18446744073709551616 ∧ c ≤ 1 ∧ r + y + b = x + 18446744073709551616 * c := by
  obtain ⟨rfl, rfl⟩ := h
  unfold sbl sbb
  split <;> omega
theorem minus_spec {a0 a1 a2 a3 b0 b1 b2 b3 r0 r1 r2 r3 c0 c1 c2 c3 : Nat} (ha : W4 a0 a1 a2 a3) (hb : W4 b0 b1 b2 b3) (h0 : sbl a0 b0 0 = r0 ∧ sbb a0 b0 0 = c0) (h1 : sbl a1 b1 c0 = r1 ∧ sbb a1 b1 c0 = c1) (h2 : sbl a2 b2 c1 = r2 ∧ sbb a2 b2 c1 = c2) (h3 : sbl a3 b3 c2 = r3 ∧ sbb a3 b3 c2 = c3) :
    W4 r0 r1 r2 r3 ∧ c3 ≤ 1 ∧ V r0 r1 r2 r3 + V b0 b1 b2 b3 = V a0 a1 a2 a3 + T256 * c3 := by
  unfold W4 at *
  have e0 := sb_spec ha.1 hb.1 (by omega) h0
  have e1 := sb_spec ha.2.1 hb.2.1 e0.2.1 h1
  have e2 := sb_spec ha.2.2.1 hb.2.2.1 e1.2.1 h2
  have e3 := sb_spec ha.2.2.2 hb.2.2.2 e2.2.1 h3
  unfold V T256
  omega

def adl (x y c : Nat) : Nat := (x + y + c) % 18446744073709551616
def adc (x y c : Nat) : Nat := (x + y + c) / 18446744073709551616
theorem ad_spec {x y b r c : Nat} (hx : x < 18446744073709551616) (hy : y < 18446744073709551616) (hb : b ≤ 1) (h : adl x y b = r ∧ adc x y b = c) : r < 18446744073709551616 ∧ c ≤ 1 ∧ r + 18446744073709551616 * c = x + y + b := by
  obtain ⟨rfl, rfl⟩ := h
  unfold adl adc
  omega
theorem plus_spec {a0 a1 a2 a3 b0 b1 b2 b3 r0 r1 r2 r3 c0 c1 c2 c3 : Nat} (ha : W4 a0 a1 a2 a3) (hb : W4 b0 b1 b2 b3) (h0 : adl a0 b0 0 = r0 ∧ adc a0 b0 0 = c0) (h1 : adl a1 b1 c0 = r1 ∧ adc a1 b1 c0 = c1) (h2 : adl a2 b2 c1 = r2 ∧ adc a2 b2 c1 = c2) (h3 : adl a3 b3 c2 = r3 ∧ adc a3 b3 c2 = c3) :
    W4 r0 r1 r2 r3 ∧ c3 ≤ 1 ∧ V r0 r1 r2 r3 + T256 * c3 = V a0 a1 a2 a3 + V b0 b1 b2 b3 := by
  unfold W4 at *
  have e0 := ad_spec ha.1 hb.1 (by omega) h0
  have e1 := ad_spec ha.2.1 hb.2.1 e0.2.1 h1
  have e2 := ad_spec ha.2.2.1 hb.2.2.1 e1.2.1 h2
  have e3 := ad_spec ha.2.2.2 hb.2.2.2 e2.2.1 h3
  unfold V T256
  omega
theorem adc_le {x y b : Nat} (hx : x < 18446744073709551616) (hy : y < 18446744073709551616) (hb : b ≤ 1) : adc x y b ≤ 1 := by unfold adc; omega


theorem mulw_le {x y : Nat} (hx : x < 18446744073709551616) (hy : y < 18446744073709551616) : x * y ≤ 340282366920938463426481119284349108225 := Nat.mul_le_mul (Nat.le_sub_one_of_lt hx) (Nat.le_sub_one_of_lt hy)
/-- One word of a product with a word. -/
theorem times_word {a w k h l s c : Nat} (ha : a < 18446744073709551616) (hw : w < 18446744073709551616) (hk : k < 18446744073709551616) (h1 : l + 18446744073709551616 * h = a * w) (hl : l < 18446744073709551616) (h2 : adl l k 0 = s ∧ adc l k 0 = c) :
    s < 18446744073709551616 ∧ c ≤ 1 ∧ h + c < 18446744073709551616 ∧ s + 18446744073709551616 * (h + c) = a * w + k := by
  have e := ad_spec hl hk (by omega) h2
  have := mulw_le ha hw
  omega
theorem times_spec {a0 a1 a2 a3 w s0 s1 s2 s3 k1 k2 k3 k4 : Nat} (e0 : s0 + 18446744073709551616 * k1 = a0 * w + 0) (e1 : s1 + 18446744073709551616 * k2 = a1 * w + k1) (e2 : s2 + 18446744073709551616 * k3 = a2 * w + k2) (e3 : s3 + 18446744073709551616 * k4 = a3 * w + k3) :
    V s0 s1 s2 s3 + T256 * k4 = V a0 a1 a2 a3 * w := by
  unfold V T256
  have : (a0 + 18446744073709551616 * a1 + 340282366920938463463374607431768211456 * a2 + 6277101735386680763835789423207666416102355444464034512896 * a3) * w = a0 * w + 18446744073709551616 * (a1 * w) + 340282366920938463463374607431768211456 * (a2 * w) + 6277101735386680763835789423207666416102355444464034512896 * (a3 * w) := by
    simp only [Nat.add_mul, Nat.mul_assoc]
  rw [this]
  omega

/-- A number of eight words. -/
def V8 (x0 x1 x2 x3 x4 x5 x6 x7 : Nat) : Nat := V x0 x1 x2 x3 + T256 * V x4 x5 x6 x7
/-- The first words of a number. -/
def lowW (b0 b1 b2 b3 : Nat) : Nat → Nat
  | 0 => 0
  | 1 => b0
  | 2 => b0 + 18446744073709551616 * b1
  | 3 => b0 + 18446744073709551616 * b1 + 340282366920938463463374607431768211456 * b2
  | _ => V b0 b1 b2 b3
theorem mulV_le {a0 a1 a2 a3 w : Nat} (ha : W4 a0 a1 a2 a3) (hw : w < 18446744073709551616) : V a0 a1 a2 a3 * w ≤ 2135987035920910082279229616932235919179133537347964862093771623156579161741164519270975247745025 :=
  Nat.le_trans (Nat.mul_le_mul (Nat.le_sub_one_of_lt (V_lt ha)) (Nat.le_sub_one_of_lt hw)) (by decide +kernel)
theorem row_top {a0 a1 a2 a3 w o0 o1 o2 o3 r0 r1 r2 r3 ov s0 s1 s2 s3 c : Nat} (ha : W4 a0 a1 a2 a3) (hw : w < 18446744073709551616) (ho : W4 o0 o1 o2 o3) (hr : V r0 r1 r2 r3 + T256 * ov = V a0 a1 a2 a3 * w)
    (hs : W4 s0 s1 s2 s3 ∧ c ≤ 1 ∧ V s0 s1 s2 s3 + T256 * c = V o0 o1 o2 o3 + V r0 r1 r2 r3) : ov + c < 18446744073709551616 ∧ V s0 s1 s2 s3 + T256 * (ov + c) = V o0 o1 o2 o3 + V a0 a1 a2 a3 * w := by
  have h1 := mulV_le ha hw
  have h2 := V_lt ho
  have h3 := V_lt hs.1
  refine ⟨?_, by rw [← hr, Nat.mul_add]; omega⟩
  have h4 := hs.2.2
  rw [← hr] at h1
  unfold T256 at *
  omega
theorem prod0 {A b0 b1 b2 b3 x0 x1 x2 x3 s0 s1 s2 s3 t : Nat} (h0 : V8 x0 x1 x2 x3 0 0 0 0 = A * lowW b0 b1 b2 b3 0) (h : V s0 s1 s2 s3 + T256 * t = V x0 x1 x2 x3 + A * b0) : V8 s0 s1 s2 s3 t 0 0 0 = A * lowW b0 b1 b2 b3 1 := by
  have : lowW b0 b1 b2 b3 1 = b0 := rfl
  rw [this]
  have e : lowW b0 b1 b2 b3 0 = 0 := rfl
  rw [e, Nat.mul_zero] at h0
  unfold V8 T256 at *
  unfold V at *
  omega
theorem prod1 {A b0 b1 b2 b3 x0 x1 x2 x3 x4 s0 s1 s2 s3 t : Nat} (h0 : V8 x0 x1 x2 x3 x4 0 0 0 = A * lowW b0 b1 b2 b3 1) (h : V s0 s1 s2 s3 + T256 * t = V x1 x2 x3 x4 + A * b1) : V8 x0 s0 s1 s2 s3 t 0 0 = A * lowW b0 b1 b2 b3 2 := by
  have e : lowW b0 b1 b2 b3 2 = lowW b0 b1 b2 b3 1 + 18446744073709551616 * b1 := rfl
  rw [e, Nat.mul_add, ← h0, Nat.mul_left_comm]
  unfold V8 T256 at *
  unfold V at *
  omega
theorem prod2 {A b0 b1 b2 b3 x0 x1 x2 x3 x4 x5 s0 s1 s2 s3 t : Nat} (h0 : V8 x0 x1 x2 x3 x4 x5 0 0 = A * lowW b0 b1 b2 b3 2) (h : V s0 s1 s2 s3 + T256 * t = V x2 x3 x4 x5 + A * b2) : V8 x0 x1 s0 s1 s2 s3 t 0 = A * lowW b0 b1 b2 b3 3 := by
  have e : lowW b0 b1 b2 b3 3 = lowW b0 b1 b2 b3 2 + 340282366920938463463374607431768211456 * b2 := rfl
  rw [e, Nat.mul_add, ← h0, Nat.mul_left_comm]
  unfold V8 T256 at *
  unfold V at *
  omega
theorem prod3 {A b0 b1 b2 b3 x0 x1 x2 x3 x4 x5 x6 s0 s1 s2 s3 t : Nat} (h0 : V8 x0 x1 x2 x3 x4 x5 x6 0 = A * lowW b0 b1 b2 b3 3) (h : V s0 s1 s2 s3 + T256 * t = V x3 x4 x5 x6 + A * b3) : V8 x0 x1 x2 s0 s1 s2 s3 t = A * lowW b0 b1 b2 b3 4 := by
  have e : lowW b0 b1 b2 b3 4 = lowW b0 b1 b2 b3 3 + 6277101735386680763835789423207666416102355444464034512896 * b3 := rfl
  rw [e, Nat.mul_add, ← h0, Nat.mul_left_comm]
  unfold V8 T256 at *
  unfold V at *
  omega
theorem lowW_lt {b0 b1 b2 b3 : Nat} : lowW b0 b1 b2 b3 4 = V b0 b1 b2 b3 := rfl
theorem word_lt_of_V8 {x0 x1 x2 x3 x4 x5 x6 x7 : Nat} (h : W4 x0 x1 x2 x3) (h' : W4 x4 x5 x6 x7) : V8 x0 x1 x2 x3 x4 x5 x6 x7 < T256 * T256 := by
  have h1 := V_lt h
  have h2 := V_lt h'
  unfold V8
  unfold T256 at *
  omega
end Pl
end Go.Proofs.Ytldnjbpcdojffaa
/- Plain law: powers modulo a number by a short computation; a number with an element of full order is prime (Lucas), every residue but 0 is a power of that element. -/
namespace Go.Proofs.Ytldnjbpcdojffaa
set_option linter.unusedVariables false
set_option linter.unusedSimpArgs false
namespace Pl

/-- b^e modulo n by halving e. -/
def powm (n : Nat) : Nat → Nat → Nat → Nat
  | 0, _, _ => 1 % n
  | f + 1, b, e => if e % 2 = 1 then powm n f (b * b % n) (e / 2) * b % n else powm n f (b * b % n) (e / 2)

theorem pow_mod_congr (a b k n : Nat) (h : a % n = b % n) : a ^ k % n = b ^ k % n := by
  rw [Nat.pow_mod, h, ← Nat.pow_mod]

theorem powm_eq (n : Nat) : ∀ (f b e : Nat), e < 2 ^ f → powm n f b e = b ^ e % n
  | 0, b, e, h => by
    have : e = 0 := by simpa using h
    subst this; simp [powm]
  | f + 1, b, e, h => by
    have h2 : e / 2 < 2 ^ f := by rw [Nat.pow_succ] at h; omega
    have ih := powm_eq n f (b * b % n) (e / 2) h2
    have e1 : (b * b % n) ^ (e / 2) % n = b ^ (2 * (e / 2)) % n := by
      rw [pow_mod_congr (b * b % n) (b * b) (e / 2) n (Nat.mod_mod _ _), Nat.pow_mul, Nat.pow_two]
    unfold powm
    rw [ih, e1]
    split
    · rename_i h1
      have : e = 2 * (e / 2) + 1 := by omega
      conv => rhs; rw [this, Nat.pow_succ]
      rw [Nat.mod_mul_mod]
    · rename_i h1
      have : e = 2 * (e / 2) := by omega
      conv => rhs; rw [this]

theorem inj_surj : ∀ (N : Nat) (f : Nat → Nat), (∀ i, i < N → f i < N) → (∀ i j, i < N → j < N → f i = f j → i = j) → ∀ y, y < N → ∃ i, i < N ∧ f i = y
  | 0, _, _, _, y, h => absurd h (Nat.not_lt_zero y)
  | N + 1, f, hr, hi, y, hy => by
    have hv := hr N (Nat.lt_succ_self N)
    have key := inj_surj N (fun i => if f i = N then f N else f i)
      (fun i h => by
        have h1 := hr i (by omega)
        try dsimp only
        split
        · rename_i e
          have : f N ≠ N := fun e2 => by have := hi i N (by omega) (by omega) (e.trans e2.symm); omega
          omega
        · omega)
      (fun i j h k e => by
        try dsimp only at e
        split at e <;> split at e
        · rename_i a b; exact hi i j (by omega) (by omega) (a.trans b.symm)
        · have := hi N j (by omega) (by omega) e; omega
        · have := hi i N (by omega) (by omega) e; omega
        · exact hi i j (by omega) (by omega) e)
    by_cases e1 : y = f N
    · exact ⟨N, by omega, e1.symm⟩
    · by_cases e2 : y = N
      · have hlt : f N < N := by omega
        obtain ⟨i, hi1, hi2⟩ := key (f N) hlt
        try dsimp only at hi2
        split at hi2
        · rename_i e; exact ⟨i, by omega, by omega⟩
        · have := hi i N (by omega) (by omega) hi2; omega
      · obtain ⟨i, hi1, hi2⟩ := key y (by omega)
        try dsimp only at hi2
        split at hi2
        · exact absurd hi2.symm e1
        · exact ⟨i, by omega, hi2⟩

/-- A map into fewer places meets one twice. -/
theorem pigeon (N M : Nat) (f : Nat → Nat) (hr : ∀ i, i < N → f i < M) (hi : ∀ i j, i < N → j < N → f i = f j → i = j) : N ≤ M := by
  by_cases h : N ≤ M
  · exact h
  · exfalso
    obtain ⟨i, hi1, hi2⟩ := inj_surj (M + 1) f (fun i h' => by have := hr i (by omega); omega) (fun i j a b => hi i j (by omega) (by omega)) M (by omega)
    have := hr i (by omega)
    omega

def Prm (q : Nat) : Prop := 1 < q ∧ ∀ m, m ∣ q → m = 1 ∨ m = q

theorem Prm.coprime {q m : Nat} (h : Prm q) (hn : ¬ q ∣ m) : Nat.Coprime q m := by
  rcases h.2 (Nat.gcd q m) (Nat.gcd_dvd_left q m) with e | e
  · exact e
  · exact absurd (e ▸ Nat.gcd_dvd_right q m) hn

theorem Prm.dvd_mul {q a b : Nat} (h : Prm q) (hd : q ∣ a * b) : q ∣ a ∨ q ∣ b := by
  by_cases ha : q ∣ a
  · exact .inl ha
  · exact .inr ((h.coprime ha).dvd_of_dvd_mul_left hd)

def prod : List Nat → Nat
  | [] => 1
  | q :: l => q * prod l

theorem prime_factor (m : Nat) (hm : 1 < m) : ∀ (l : List Nat), (∀ q, q ∈ l → Prm q) → m ∣ prod l → ∃ q, q ∈ l ∧ q ∣ m := by
  intro l hl hd
  apply Classical.byContradiction
  intro hno
  have hc : ∀ (l : List Nat), (∀ q, q ∈ l → Prm q ∧ ¬ q ∣ m) → Nat.Coprime (prod l) m := by
    intro l
    induction l with
    | nil => intro _; simp [prod, Nat.Coprime]
    | cons q l ih =>
      intro h
      exact Nat.Coprime.mul_left ((h q (by simp)).1.coprime (h q (by simp)).2) (ih fun x hx => h x (by simp [hx]))
  have := hc l fun q hq => ⟨hl q hq, fun hd => hno ⟨q, hq, hd⟩⟩
  have h1 : Nat.gcd (prod l) m = m := Nat.gcd_eq_right hd
  unfold Nat.Coprime at this
  omega

theorem prod_div {l : List Nat} {q : Nat} (h : q ∈ l) : q ∣ prod l := by
  induction l with
  | nil => simp at h
  | cons x l ih =>
    rcases List.mem_cons.1 h with e | e
    · subst e; exact ⟨_, rfl⟩
    · exact Nat.dvd_trans (ih e) ⟨x, by simp [prod, Nat.mul_comm]⟩

theorem least (p : Nat → Prop) (n : Nat) (h : p n) : ∃ d, p d ∧ ∀ j, j < d → ¬ p j := by
  induction n using Nat.strongRecOn with
  | ind n ih =>
    by_cases hx : ∃ j, j < n ∧ p j
    · obtain ⟨j, hj, hp⟩ := hx
      exact ih j hj hp
    · exact ⟨n, h, fun j hj hp => hx ⟨j, hj, hp⟩⟩

theorem pow_mul_one {n g a : Nat} (h1 : 1 < n) (h : g ^ a % n = 1) (k : Nat) : g ^ (a * k) % n = 1 := by
  rw [Nat.pow_mul, Nat.pow_mod, h, Nat.one_pow, Nat.mod_eq_of_lt h1]

/-- If g has order n - 1 modulo n, each residue but 0 is a power of g. -/
theorem lucas_gen (n g : Nat) (fs : List Nat) (h1 : 1 < n) (hp : ∀ q, q ∈ fs → Prm q) (hprod : prod fs = n - 1) (hg : g ^ (n - 1) % n = 1)
    (hq : ∀ q, q ∈ fs → g ^ ((n - 1) / q) % n ≠ 1) : (∀ i j, i < n - 1 → j < n - 1 → g ^ i % n = g ^ j % n → i = j) ∧ ∀ a, 0 < a → a < n → ∃ k, k < n - 1 ∧ g ^ k % n = a := by
  obtain ⟨d, ⟨hd0, hd1⟩, hmin⟩ := least (fun d => 0 < d ∧ g ^ d % n = 1) (n - 1) ⟨by omega, hg⟩
  have hdiv : d ∣ n - 1 := by
    apply Nat.dvd_of_mod_eq_zero
    have e : g ^ (n - 1) % n = g ^ ((n - 1) % d) % n := by
      conv => lhs; rw [← Nat.div_add_mod (n - 1) d, Nat.pow_add, Nat.mul_mod, pow_mul_one h1 hd1, Nat.one_mul, Nat.mod_mod]
    rw [hg] at e
    have hlt := Nat.mod_lt (n - 1) hd0
    by_cases h0 : (n - 1) % d = 0
    · exact h0
    · exact absurd ⟨by omega, e.symm⟩ (hmin _ hlt)
  have hfull : d = n - 1 := by
    apply Classical.byContradiction
    intro hne
    obtain ⟨m, hm⟩ := hdiv
    have hm1 : 1 < m := by
      rcases m with _ | _ | m
      · simp at hm; omega
      · simp at hm; omega
      · omega
    obtain ⟨q, hqm, hqd⟩ := prime_factor m hm1 fs hp (by rw [hprod, hm]; exact ⟨d, Nat.mul_comm _ _⟩)
    obtain ⟨t, ht⟩ := hqd
    have hq0 : 0 < q := by have := (hp q hqm).1; omega
    have e : (n - 1) / q = d * t := by
      rw [hm, ht, Nat.mul_comm q t, ← Nat.mul_assoc, Nat.mul_div_cancel _ hq0]
    apply hq q hqm
    rw [e]
    exact pow_mul_one h1 hd1 t
  subst hfull
  have hinj : ∀ i j, i < n - 1 → j < n - 1 → i < j → g ^ i % n ≠ g ^ j % n := by
    intro i j hi hj hij e
    have e2 : (g ^ (n - 1 - i) * g ^ i) % n = (g ^ (n - 1 - i) * g ^ j) % n := by rw [Nat.mul_mod, e, ← Nat.mul_mod]
    rw [← Nat.pow_add, ← Nat.pow_add, show n - 1 - i + i = n - 1 from by omega, show n - 1 - i + j = (n - 1) + (j - i) from by omega, Nat.pow_add, Nat.mul_mod, hg, Nat.one_mul, Nat.mod_mod] at e2
    exact hmin (j - i) (by omega) ⟨by omega, e2.symm⟩
  have hne : ∀ i, i < n - 1 → g ^ i % n ≠ 0 := by
    intro i hi e
    have : g ^ (n - 1) % n = 0 := by
      rw [show n - 1 = i + (n - 1 - i) from by omega, Nat.pow_add, Nat.mul_mod, e, Nat.zero_mul, Nat.zero_mod]
    omega
  have hinj' : ∀ i j, i < n - 1 → j < n - 1 → g ^ i % n = g ^ j % n → i = j := by
    intro i j a b e
    rcases Nat.lt_trichotomy i j with h | h | h
    · exact absurd e (hinj i j a b h)
    · exact h
    · exact absurd e.symm (hinj j i b a h)
  refine ⟨hinj', fun a ha0 ha => ?_⟩
  obtain ⟨i, hi, he⟩ := inj_surj (n - 1) (fun i => g ^ i % n - 1)
    (fun i h => by have := hne i h; have := Nat.mod_lt (g ^ i) (show 0 < n by omega); omega)
    (fun i j h k e => by
      try dsimp only at e
      have := hne i h; have := hne j k
      exact hinj' i j h k (by omega))
    (a - 1) (by omega)
  try dsimp only at he
  have := hne i hi
  exact ⟨i, hi, by omega⟩

theorem lucas (n g : Nat) (fs : List Nat) (h1 : 1 < n) (hp : ∀ q, q ∈ fs → Prm q) (hprod : prod fs = n - 1) (hg : g ^ (n - 1) % n = 1)
    (hq : ∀ q, q ∈ fs → g ^ ((n - 1) / q) % n ≠ 1) : Prm n := by
  refine ⟨h1, fun m hm => ?_⟩
  have hle := Nat.le_of_dvd (by omega) hm
  by_cases e : m = n
  · exact .inr e
  · left
    have hm0 : 0 < m := Nat.pos_of_dvd_of_pos hm (by omega)
    obtain ⟨k, hk, hk2⟩ := (lucas_gen n g fs h1 hp hprod hg hq).2 m hm0 (by omega)
    have e1 : (m * g ^ (n - 1 - k)) % n = 1 := by
      rw [← hk2, Nat.mod_mul_mod, ← Nat.pow_add, show k + (n - 1 - k) = n - 1 from by omega, hg]
    have : m ∣ 1 := by
      rw [← e1]
      exact (Nat.dvd_mod_iff hm).2 ⟨_, rfl⟩
    exact Nat.dvd_one.1 this

/-- What the kernel is asked of a number: the powers of g. -/
def certOk (n g : Nat) (fs : List Nat) : Bool := decide (1 < n) && decide (prod fs = n - 1) && decide (n < 2 ^ 260) && (powm n 260 g (n - 1) == 1) && fs.all fun q => !(powm n 260 g ((n - 1) / q) == 1)

theorem cert_gen {n g : Nat} {fs : List Nat} (h : certOk n g fs = true) (hp : ∀ q, q ∈ fs → Prm q) :
    Prm n ∧ ((∀ i j, i < n - 1 → j < n - 1 → g ^ i % n = g ^ j % n → i = j) ∧ ∀ a, 0 < a → a < n → ∃ k, k < n - 1 ∧ g ^ k % n = a) ∧ g ^ (n - 1) % n = 1 := by
  simp only [certOk, Bool.and_eq_true, decide_eq_true_eq, beq_iff_eq, List.all_eq_true, Bool.not_eq_true', beq_eq_false_iff_ne] at h
  obtain ⟨⟨⟨⟨h1, h2⟩, h3⟩, h4⟩, h5⟩ := h
  have e : g ^ (n - 1) % n = 1 := by rw [← powm_eq n 260 g (n - 1) (by omega)]; exact h4
  have e2 : ∀ q, q ∈ fs → g ^ ((n - 1) / q) % n ≠ 1 := by
    intro q hq
    rw [← powm_eq n 260 g ((n - 1) / q) (Nat.lt_of_le_of_lt (Nat.div_le_self _ _) (by omega))]
    exact h5 q hq
  exact ⟨lucas n g fs h1 hp h2 e e2, lucas_gen n g fs h1 hp h2 e e2, e⟩

/-- Small primes by trial. -/
def smallOk (n : Nat) : Bool := decide (1 < n) && (List.range 300).all fun d => decide (d < 2) || decide (n ≤ d) || !(n % d == 0)

theorem small_prime {n : Nat} (hn : n < 90000) (h : smallOk n = true) : Prm n := by
  simp only [smallOk, Bool.and_eq_true, decide_eq_true_eq, List.all_eq_true, List.mem_range, Bool.or_eq_true, Bool.not_eq_true', beq_eq_false_iff_ne] at h
  obtain ⟨h1, h2⟩ := h
  refine ⟨h1, fun m ⟨t, ht⟩ => ?_⟩
  have hm0 : 0 < m := by rcases m with _ | m; simp at ht; omega; omega
  have ht0 : 0 < t := by rcases t with _ | t; simp at ht; omega; omega
  by_cases hm : m < 300
  · rcases h2 m hm with (h | h) | h
    · left; omega
    · right
      have : m ≤ n := by rw [ht]; exact Nat.le_mul_of_pos_right m ht0
      omega
    · exact absurd (by rw [ht]; exact Nat.mul_mod_right m t) h
  · have hs : t < 300 := by
      apply Classical.byContradiction
      intro hge
      have : 300 * 300 ≤ m * t := Nat.mul_le_mul (by omega) (by omega)
      omega
    rcases h2 t hs with (h | h) | h
    · right
      have : t = 1 := by omega
      subst this; omega
    · left
      have : m * t = t * m := Nat.mul_comm _ _
      have h3 : t ≤ n := by rw [ht]; exact Nat.le_mul_of_pos_left t hm0
      have h4 : n = t := by omega
      have h5 : m * t = 1 * t := by omega
      exact Nat.eq_of_mul_eq_mul_right ht0 h5
    · exact absurd (by rw [ht, Nat.mul_comm]; exact Nat.mul_mod_right t m) h

theorem prm_2 : Prm 2 := small_prime (by decide) (by decide +kernel)
theorem prm_3 : Prm 3 := small_prime (by decide) (by decide +kernel)
theorem prm_65147 : Prm 65147 := small_prime (by decide) (by decide +kernel)
theorem prm_353 : Prm 353 := small_prime (by decide) (by decide +kernel)
theorem prm_57467 : Prm 57467 := small_prime (by decide) (by decide +kernel)
theorem prm_7 : Prm 7 := small_prime (by decide) (by decide +kernel)
theorem prm_131 : Prm 131 := small_prime (by decide) (by decide +kernel)
theorem cert_132049 : certOk 132049 26 [2, 2, 2, 2, 3, 3, 7, 131] = true := by decide +kernel
theorem fac_132049 : ∀ q, q ∈ [2, 2, 2, 2, 3, 3, 7, 131] → Prm q := by
  intro q hq
  simp only [List.mem_cons, List.not_mem_nil, or_false] at hq
  rcases hq with rfl | rfl | rfl | rfl | rfl | rfl | rfl | rfl
  · exact prm_2
  · exact prm_2
  · exact prm_2
  · exact prm_2
  · exact prm_3
  · exact prm_3
  · exact prm_7
  · exact prm_131
theorem prm_132049 : Prm 132049 := (cert_gen cert_132049 fac_132049).1
theorem prm_43 : Prm 43 := small_prime (by decide) (by decide +kernel)
theorem prm_3727 : Prm 3727 := small_prime (by decide) (by decide +kernel)
theorem cert_1923133 : certOk 1923133 2 [2, 2, 3, 43, 3727] = true := by decide +kernel
theorem fac_1923133 : ∀ q, q ∈ [2, 2, 3, 43, 3727] → Prm q := by
  intro q hq
  simp only [List.mem_cons, List.not_mem_nil, or_false] at hq
  rcases hq with rfl | rfl | rfl | rfl | rfl
  · exact prm_2
  · exact prm_2
  · exact prm_3
  · exact prm_43
  · exact prm_3727
theorem prm_1923133 : Prm 1923133 := (cert_gen cert_1923133 fac_1923133).1
theorem prm_31 : Prm 31 := small_prime (by decide) (by decide +kernel)
theorem prm_107 : Prm 107 := small_prime (by decide) (by decide +kernel)
theorem prm_223 : Prm 223 := small_prime (by decide) (by decide +kernel)
theorem prm_4153 : Prm 4153 := small_prime (by decide) (by decide +kernel)
theorem prm_5 : Prm 5 := small_prime (by decide) (by decide +kernel)
theorem prm_1723 : Prm 1723 := small_prime (by decide) (by decide +kernel)
theorem cert_430751 : certOk 430751 17 [2, 5, 5, 5, 1723] = true := by decide +kernel
theorem fac_430751 : ∀ q, q ∈ [2, 5, 5, 5, 1723] → Prm q := by
  intro q hq
  simp only [List.mem_cons, List.not_mem_nil, or_false] at hq
  rcases hq with rfl | rfl | rfl | rfl | rfl
  · exact prm_2
  · exact prm_5
  · exact prm_5
  · exact prm_5
  · exact prm_1723
theorem prm_430751 : Prm 430751 := (cert_gen cert_430751 fac_430751).1
theorem cert_17d_855353 : certOk 31757755568855353 10 [2, 2, 2, 3, 31, 107, 223, 4153, 430751] = true := by decide +kernel
theorem fac_17d_855353 : ∀ q, q ∈ [2, 2, 2, 3, 31, 107, 223, 4153, 430751] → Prm q := by
  intro q hq
  simp only [List.mem_cons, List.not_mem_nil, or_false] at hq
  rcases hq with rfl | rfl | rfl | rfl | rfl | rfl | rfl | rfl | rfl
  · exact prm_2
  · exact prm_2
  · exact prm_2
  · exact prm_3
  · exact prm_31
  · exact prm_107
  · exact prm_223
  · exact prm_4153
  · exact prm_430751
theorem prm_17d_855353 : Prm 31757755568855353 := (cert_gen cert_17d_855353 fac_17d_855353).1
theorem prm_37853 : Prm 37853 := small_prime (by decide) (by decide +kernel)
theorem cert_75707 : certOk 75707 2 [2, 37853] = true := by decide +kernel
theorem fac_75707 : ∀ q, q ∈ [2, 37853] → Prm q := by
  intro q hq
  simp only [List.mem_cons, List.not_mem_nil, or_false] at hq
  rcases hq with rfl | rfl
  · exact prm_2
  · exact prm_37853
theorem prm_75707 : Prm 75707 := (cert_gen cert_75707 fac_75707).1
theorem prm_13 : Prm 13 := small_prime (by decide) (by decide +kernel)
theorem prm_2437 : Prm 2437 := small_prime (by decide) (by decide +kernel)
theorem prm_97 : Prm 97 := small_prime (by decide) (by decide +kernel)
theorem prm_419 : Prm 419 := small_prime (by decide) (by decide +kernel)
theorem cert_569003 : certOk 569003 2 [2, 7, 97, 419] = true := by decide +kernel
theorem fac_569003 : ∀ q, q ∈ [2, 7, 97, 419] → Prm q := by
  intro q hq
  simp only [List.mem_cons, List.not_mem_nil, or_false] at hq
  rcases hq with rfl | rfl | rfl | rfl
  · exact prm_2
  · exact prm_7
  · exact prm_97
  · exact prm_419
theorem prm_569003 : Prm 569003 := (cert_gen cert_569003 fac_569003).1
theorem cert_2773320623 : certOk 2773320623 5 [2, 2437, 569003] = true := by decide +kernel
theorem fac_2773320623 : ∀ q, q ∈ [2, 2437, 569003] → Prm q := by
  intro q hq
  simp only [List.mem_cons, List.not_mem_nil, or_false] at hq
  rcases hq with rfl | rfl | rfl
  · exact prm_2
  · exact prm_2437
  · exact prm_569003
theorem prm_2773320623 : Prm 2773320623 := (cert_gen cert_2773320623 fac_2773320623).1
theorem cert_72106336199 : certOk 72106336199 7 [2, 13, 2773320623] = true := by decide +kernel
theorem fac_72106336199 : ∀ q, q ∈ [2, 13, 2773320623] → Prm q := by
  intro q hq
  simp only [List.mem_cons, List.not_mem_nil, or_false] at hq
  rcases hq with rfl | rfl | rfl
  · exact prm_2
  · exact prm_13
  · exact prm_2773320623
theorem prm_72106336199 : Prm 72106336199 := (cert_gen cert_72106336199 fac_72106336199).1
theorem prm_19 : Prm 19 := small_prime (by decide) (by decide +kernel)
theorem prm_47 : Prm 47 := small_prime (by decide) (by decide +kernel)
theorem prm_127 : Prm 127 := small_prime (by decide) (by decide +kernel)
theorem prm_103 : Prm 103 := small_prime (by decide) (by decide +kernel)
theorem prm_991 : Prm 991 := small_prime (by decide) (by decide +kernel)
theorem cert_8574133 : certOk 8574133 2 [2, 2, 3, 7, 103, 991] = true := by decide +kernel
theorem fac_8574133 : ∀ q, q ∈ [2, 2, 3, 7, 103, 991] → Prm q := by
  intro q hq
  simp only [List.mem_cons, List.not_mem_nil, or_false] at hq
  rcases hq with rfl | rfl | rfl | rfl | rfl | rfl
  · exact prm_2
  · exact prm_2
  · exact prm_3
  · exact prm_7
  · exact prm_103
  · exact prm_991
theorem prm_8574133 : Prm 8574133 := (cert_gen cert_8574133 fac_8574133).1
theorem cert_16d_386763 : certOk 1919519569386763 2 [2, 3, 7, 19, 47, 47, 127, 8574133] = true := by decide +kernel
theorem fac_16d_386763 : ∀ q, q ∈ [2, 3, 7, 19, 47, 47, 127, 8574133] → Prm q := by
  intro q hq
  simp only [List.mem_cons, List.not_mem_nil, or_false] at hq
  rcases hq with rfl | rfl | rfl | rfl | rfl | rfl | rfl | rfl
  · exact prm_2
  · exact prm_3
  · exact prm_7
  · exact prm_19
  · exact prm_47
  · exact prm_47
  · exact prm_127
  · exact prm_8574133
theorem prm_16d_386763 : Prm 1919519569386763 := (cert_gen cert_16d_386763 fac_16d_386763).1
theorem cert_35d_864801 : certOk 75445702479781427272750846543864801 7 [2, 2, 2, 2, 2, 3, 3, 5, 5, 75707, 72106336199, 1919519569386763] = true := by decide +kernel
theorem fac_35d_864801 : ∀ q, q ∈ [2, 2, 2, 2, 2, 3, 3, 5, 5, 75707, 72106336199, 1919519569386763] → Prm q := by
  intro q hq
  simp only [List.mem_cons, List.not_mem_nil, or_false] at hq
  rcases hq with rfl | rfl | rfl | rfl | rfl | rfl | rfl | rfl | rfl | rfl | rfl | rfl
  · exact prm_2
  · exact prm_2
  · exact prm_2
  · exact prm_2
  · exact prm_2
  · exact prm_3
  · exact prm_3
  · exact prm_5
  · exact prm_5
  · exact prm_75707
  · exact prm_72106336199
  · exact prm_16d_386763
theorem prm_35d_864801 : Prm 75445702479781427272750846543864801 := (cert_gen cert_35d_864801 fac_35d_864801).1
theorem cert_71d_340907 : certOk 74058212732561358302231226437062788676166966415465897661863160754340907 2 [2, 3, 353, 57467, 132049, 1923133, 31757755568855353, 75445702479781427272750846543864801] = true := by decide +kernel
theorem fac_71d_340907 : ∀ q, q ∈ [2, 3, 353, 57467, 132049, 1923133, 31757755568855353, 75445702479781427272750846543864801] → Prm q := by
  intro q hq
  simp only [List.mem_cons, List.not_mem_nil, or_false] at hq
  rcases hq with rfl | rfl | rfl | rfl | rfl | rfl | rfl | rfl
  · exact prm_2
  · exact prm_3
  · exact prm_353
  · exact prm_57467
  · exact prm_132049
  · exact prm_1923133
  · exact prm_17d_855353
  · exact prm_35d_864801
theorem prm_71d_340907 : Prm 74058212732561358302231226437062788676166966415465897661863160754340907 := (cert_gen cert_71d_340907 fac_71d_340907).1
theorem cert_77d_819949 : certOk 57896044618658097711785492504343953926634992332820282019728792003956564819949 2 [2, 2, 3, 65147, 74058212732561358302231226437062788676166966415465897661863160754340907] = true := by decide +kernel
theorem fac_77d_819949 : ∀ q, q ∈ [2, 2, 3, 65147, 74058212732561358302231226437062788676166966415465897661863160754340907] → Prm q := by
  intro q hq
  simp only [List.mem_cons, List.not_mem_nil, or_false] at hq
  rcases hq with rfl | rfl | rfl | rfl | rfl
  · exact prm_2
  · exact prm_2
  · exact prm_3
  · exact prm_65147
  · exact prm_71d_340907
theorem prm_77d_819949 : Prm 57896044618658097711785492504343953926634992332820282019728792003956564819949 := (cert_gen cert_77d_819949 fac_77d_819949).1

end Pl
end Go.Proofs.Ytldnjbpcdojffaa
/- Plain law: the numbers modulo 2^255 - 19 are a field: powers, inverses, roots. -/
namespace Go.Proofs.Ytldnjbpcdojffaa
set_option linter.unusedVariables false
set_option linter.unusedSimpArgs false
namespace Pl

def pP : Nat := 57896044618658097711785492504343953926634992332820282019728792003956564819949

theorem pP_prm : Prm pP := prm_77d_819949
theorem pP_gt : 1000 < pP := by decide +kernel
theorem pP_lt : pP < 2 ^ 255 := by decide +kernel
theorem pP_gt' : 2 ^ 254 < pP := by decide +kernel
theorem pP_pow : 2 ^ 255 = pP + 19 := by decide +kernel

def pFacs : List Nat := [2, 2, 3, 65147, 74058212732561358302231226437062788676166966415465897661863160754340907]
theorem pP_cert : certOk pP 2 pFacs = true := cert_77d_819949
theorem pP_gen : ∀ a, 0 < a → a < pP → ∃ k, k < pP - 1 ∧ 2 ^ k % pP = a := (cert_gen (n := pP) (g := 2) (fs := pFacs) pP_cert fac_77d_819949).2.1.2
theorem two_pow : 2 ^ (pP - 1) % pP = 1 := (cert_gen (n := pP) (g := 2) (fs := pFacs) pP_cert fac_77d_819949).2.2

theorem gen_of {a : Nat} (h : a % pP ≠ 0) : ∃ k, 2 ^ k % pP = a % pP := by
  obtain ⟨k, _, hk⟩ := pP_gen (a % pP) (by omega) (Nat.mod_lt _ (by have := pP_gt; omega))
  exact ⟨k, hk⟩

theorem fermat {a : Nat} (h : a % pP ≠ 0) : a ^ (pP - 1) % pP = 1 := by
  obtain ⟨k, hk⟩ := gen_of h
  have e : a ^ (pP - 1) % pP = (2 ^ k) ^ (pP - 1) % pP := pow_mod_congr a (2 ^ k) (pP - 1) pP hk.symm
  rw [e, ← Nat.pow_mul, Nat.mul_comm]
  exact pow_mul_one (by have := pP_gt; omega) two_pow k

theorem mul_zero_mod {a b : Nat} (h : a * b % pP = 0) : a % pP = 0 ∨ b % pP = 0 := by
  rcases pP_prm.dvd_mul (Nat.dvd_of_mod_eq_zero h) with h | h
  · exact .inl (Nat.mod_eq_zero_of_dvd h)
  · exact .inr (Nat.mod_eq_zero_of_dvd h)

theorem pow_zero_mod {a : Nat} (h : a % pP = 0) {n : Nat} (hn : n ≠ 0) : a ^ n % pP = 0 := by
  rw [Nat.pow_mod, h, Nat.zero_pow (Nat.pos_of_ne_zero hn), Nat.zero_mod]

theorem pow_ne_mod {a : Nat} (h : a % pP ≠ 0) (n : Nat) : a ^ n % pP ≠ 0 := by
  induction n with
  | zero => rw [Nat.pow_zero, Nat.mod_eq_of_lt (by have := pP_gt; omega)]; omega
  | succ n ih =>
    intro e
    rw [Nat.pow_succ] at e
    rcases mul_zero_mod e with e | e
    · exact ih e
    · exact h e

/-- The inverse. -/
theorem inv_mod {a : Nat} (h : a % pP ≠ 0) : a * (a ^ (pP - 2) % pP) % pP = 1 := by
  rw [Nat.mul_mod_mod, Nat.mul_comm, ← Nat.pow_succ, show (pP - 2).succ = pP - 1 from by have := pP_gt; omega]
  exact fermat h

abbrev F := Fin pP
instance : NeZero pP := ⟨by decide +kernel⟩

/-- A number as a residue. -/
def toF (n : Nat) : F := Fin.ofNat pP n

theorem toF_val (n : Nat) : (toF n).val = n % pP := rfl
theorem toF_eq {a b : Nat} : toF a = toF b ↔ a % pP = b % pP := by
  constructor
  · intro h
    have := congrArg Fin.val h
    simpa only [toF_val] using this
  · intro h
    exact Fin.ext h
theorem toF_mod (a : Nat) : toF (a % pP) = toF a := toF_eq.2 (Nat.mod_mod _ _)
theorem toF_self (a : F) : toF a.val = a := Fin.ext (by rw [toF_val]; exact Nat.mod_eq_of_lt a.isLt)
theorem toF_add (a b : Nat) : toF (a + b) = toF a + toF b := Fin.ext (by rw [toF_val, Fin.val_add, toF_val, toF_val, ← Nat.add_mod])
theorem toF_mul (a b : Nat) : toF (a * b) = toF a * toF b := Fin.ext (by rw [toF_val, Fin.val_mul, toF_val, toF_val, ← Nat.mul_mod])
theorem toF_zero : toF 0 = 0 := rfl
theorem toF_one : toF 1 = 1 := rfl
theorem toF_p : toF pP = 0 := toF_eq.2 (by rw [Nat.mod_self, Nat.zero_mod])
theorem toF_eq_zero {a : Nat} : toF a = 0 ↔ a % pP = 0 := by
  rw [← toF_zero, toF_eq, Nat.zero_mod]
theorem toF_pow (a n : Nat) : toF (a ^ n) = toF a ^ n := by
  induction n with
  | zero => rw [Nat.pow_zero, toF_one]; grind
  | succ n ih => rw [Nat.pow_succ, toF_mul, ih]; grind
theorem toF_sub {a b : Nat} (h : b ≤ a) : toF (a - b) = toF a - toF b := by
  have e : toF (a - b) + toF b = toF a := by rw [← toF_add, Nat.sub_add_cancel h]
  grind

/-- The inverse of a residue; 0's is 0. -/
def inv (a : F) : F := a ^ (pP - 2)
theorem inv_zero : inv 0 = 0 := by
  unfold inv
  rw [show (0 : F) = toF 0 from rfl, ← toF_pow, Nat.zero_pow (by have := pP_gt; omega)]
theorem F_mul_inv {a : F} (h : a ≠ 0) : a * inv a = 1 := by
  unfold inv
  rw [← toF_self a, ← toF_pow, ← toF_mul, ← toF_one]
  refine toF_eq.2 ?_
  have h1 : a.val % pP ≠ 0 := by
    rw [Nat.mod_eq_of_lt a.isLt]
    intro e
    exact h (Fin.ext e)
  have := inv_mod h1
  rw [Nat.mul_mod_mod] at this
  rw [this, Nat.mod_eq_of_lt (by have := pP_gt; omega)]
theorem F_mul_eq_zero {a b : F} (h : a * b = 0) : a = 0 ∨ b = 0 := by
  by_cases ha : a = 0
  · exact .inl ha
  · right
    have := F_mul_inv ha
    grind
theorem F_inv_unique {a b : F} (h : a * b = 1) : b = inv a := by
  have ha : a ≠ 0 := by
    intro e
    rw [e] at h
    have : (0 : F) = 1 := by grind
    exact absurd (congrArg Fin.val this) (by decide +kernel)
  have := F_mul_inv ha
  grind
theorem F_one_ne : (1 : F) ≠ 0 := fun e => absurd (congrArg Fin.val e) (by decide +kernel)
theorem F_two_ne : (2 : F) ≠ 0 := fun e => absurd (congrArg Fin.val e) (by decide +kernel)

end Pl
end Go.Proofs.Ytldnjbpcdojffaa
/- @@NUM 25 The walks of residue's first functions: the prime, differences, sums, the lesser one, the small one. Conditions: words are below 2^64. -/
namespace Go.Proofs.Ytldnjbpcdojffaa
set_option linter.unusedVariables false
set_option linter.unusedSimpArgs false
open Go Go.RowKit
open Pl (V W4 T256 pP sbl sbb adl adc)

theorem x_sub64 (x y b : Nat) (hb : b ≤ 1) (w : World) :
    (callFunc 55 #[.int .u64 x, .int .u64 y, .int .u64 b]).run Try.prog w = .ok (.value (.tuple #[.int .u64 (sbl x y b), .int .u64 (sbb x y b)])) w := by
  rw [run_callFunc_extern Try.func55 (by kernel_rfl) (by kernel_rfl) (by kernel_rfl) (e := sub64Entry) (by kernel_rfl), run_sub64 x y b hb]
  rfl
theorem sub_fact (x y b : Nat) (hb : b ≤ 1) : ∃ r c : Nat, (sbl x y b = r ∧ sbb x y b = c) ∧ c ≤ 1 ∧ ∀ w : World, (callFunc 55 #[.int .u64 x, .int .u64 y, .int .u64 b]).run Try.prog w = .ok (.value (.tuple #[.int .u64 r, .int .u64 c])) w := ⟨_, _, ⟨rfl, rfl⟩, Pl.sbb_le _ _ _, fun w => x_sub64 x y b hb w⟩
theorem sub_factz (x y : Nat) : ∃ r c : Nat, (sbl x y 0 = r ∧ sbb x y 0 = c) ∧ c ≤ 1 ∧ ∀ w : World, (callFunc 55 #[.int .u64 x, .int .u64 y, .int .u64 0]).run Try.prog w = .ok (.value (.tuple #[.int .u64 r, .int .u64 c])) w := ⟨_, _, ⟨rfl, rfl⟩, Pl.sbb_le _ _ _, fun w => x_sub64 x y 0 (by omega) w⟩
theorem x_add64 (x y b : Nat) (hb : b ≤ 1) (w : World) :
    (callFunc 58 #[.int .u64 x, .int .u64 y, .int .u64 b]).run Try.prog w = .ok (.value (.tuple #[.int .u64 (adl x y b), .int .u64 (adc x y b)])) w := by
  rw [run_callFunc_extern Try.func58 (by kernel_rfl) (by kernel_rfl) (by kernel_rfl) (e := add64Entry) (by kernel_rfl), run_add64 x y b (by omega) (by omega) (by omega) (by omega)]
  rfl
theorem adw_fact (x y b : Nat) (hx : x < 18446744073709551616) (hy : y < 18446744073709551616) (hb : b ≤ 1) : ∃ r c : Nat, (adl x y b = r ∧ adc x y b = c) ∧ c ≤ 1 ∧ ∀ w : World, (callFunc 58 #[.int .u64 x, .int .u64 y, .int .u64 b]).run Try.prog w = .ok (.value (.tuple #[.int .u64 r, .int .u64 c])) w := ⟨_, _, ⟨rfl, rfl⟩, Pl.adc_le hx hy hb, fun w => x_add64 x y b hb w⟩
theorem add_factz (x y : Nat) (hx : x < 18446744073709551616) (hy : y < 18446744073709551616) : ∃ r c : Nat, (adl x y 0 = r ∧ adc x y 0 = c) ∧ c ≤ 1 ∧ ∀ w : World, (callFunc 58 #[.int .u64 x, .int .u64 y, .int .u64 0]).run Try.prog w = .ok (.value (.tuple #[.int .u64 r, .int .u64 c])) w := ⟨_, _, ⟨rfl, rfl⟩, Pl.adc_le hx hy (by omega), fun w => x_add64 x y 0 (by omega) w⟩

set_option maxHeartbeats 1000000 in
theorem minus_fact (a0 a1 a2 a3 b0 b1 b2 b3 : Nat) (ha : W4 a0 a1 a2 a3) (hb : W4 b0 b1 b2 b3) : ∃ r0 r1 r2 r3 c : Nat, (W4 r0 r1 r2 r3 ∧ c ≤ 1 ∧ V r0 r1 r2 r3 + V b0 b1 b2 b3 = V a0 a1 a2 a3 + T256 * c) ∧ ∀ w : World,
    Calls Try.prog 45 #[.agg #[.int .u64 a0, .int .u64 a1, .int .u64 a2, .int .u64 a3], .agg #[.int .u64 b0, .int .u64 b1, .int .u64 b2, .int .u64 b3]] w fun e w' => e = .returned (.tuple #[.agg #[.int .u64 r0, .int .u64 r1, .int .u64 r2, .int .u64 r3], .int .u64 c]) ∧ Below w.heap.size w w' := by
  obtain ⟨r0, c0, h0, hc0, f0⟩ := sub_factz a0 b0
  obtain ⟨r1, c1, h1, hc1, f1⟩ := sub_fact a1 b1 c0 hc0
  obtain ⟨r2, c2, h2, hc2, f2⟩ := sub_fact a2 b2 c1 hc1
  obtain ⟨r3, c3, h3, hc3, f3⟩ := sub_fact a3 b3 c2 hc2
  refine ⟨r0, r1, r2, r3, c3, Pl.minus_spec ha hb h0 h1 h2 h3, fun w => ?_⟩
  clear h0 h1 h2 h3 ha hb hc0 hc1 hc2 hc3
  go_enter Try.func45, Try.ntmps45
  go_wp2
  refine wp_loop_rounds 5 ?_
  rw [rounds_succ]
  go_wp2
  go_region
  go_wp2
  rw [rounds_succ]
  go_wp2
  go_region
  go_wp2
  rw [rounds_succ]
  go_wp2
  go_region
  go_wp2
  rw [rounds_succ]
  go_wp2
  go_region
  go_wp2
  rw [rounds_succ]
  go_wp2
  refine bodyPost_ret (v := .tuple #[.agg #[.int .u64 r0, .int .u64 r1, .int .u64 r2, .int .u64 r3], .int .u64 c3]) (by simp [results, Try.results45, go_sem]) rfl ⟨rfl, ?_⟩
  go_grown

set_option maxHeartbeats 1000000 in
theorem plus_fact (a0 a1 a2 a3 b0 b1 b2 b3 : Nat) (ha : W4 a0 a1 a2 a3) (hb : W4 b0 b1 b2 b3) : ∃ r0 r1 r2 r3 c : Nat, (W4 r0 r1 r2 r3 ∧ c ≤ 1 ∧ V r0 r1 r2 r3 + T256 * c = V a0 a1 a2 a3 + V b0 b1 b2 b3) ∧ ∀ w : World,
    Calls Try.prog 53 #[.agg #[.int .u64 a0, .int .u64 a1, .int .u64 a2, .int .u64 a3], .agg #[.int .u64 b0, .int .u64 b1, .int .u64 b2, .int .u64 b3]] w fun e w' => e = .returned (.tuple #[.agg #[.int .u64 r0, .int .u64 r1, .int .u64 r2, .int .u64 r3], .int .u64 c]) ∧ Below w.heap.size w w' := by
  obtain ⟨r0, c0, h0, hc0, f0⟩ := add_factz a0 b0 ha.1 hb.1
  obtain ⟨r1, c1, h1, hc1, f1⟩ := adw_fact a1 b1 c0 ha.2.1 hb.2.1 hc0
  obtain ⟨r2, c2, h2, hc2, f2⟩ := adw_fact a2 b2 c1 ha.2.2.1 hb.2.2.1 hc1
  obtain ⟨r3, c3, h3, hc3, f3⟩ := adw_fact a3 b3 c2 ha.2.2.2 hb.2.2.2 hc2
  refine ⟨r0, r1, r2, r3, c3, Pl.plus_spec ha hb h0 h1 h2 h3, fun w => ?_⟩
  clear h0 h1 h2 h3 ha hb hc0 hc1 hc2 hc3
  go_enter Try.func53, Try.ntmps53
  go_wp2
  refine wp_loop_rounds 5 ?_
  rw [rounds_succ]
  go_wp2
  go_region
  go_wp2
  rw [rounds_succ]
  go_wp2
  go_region
  go_wp2
  rw [rounds_succ]
  go_wp2
  go_region
  go_wp2
  rw [rounds_succ]
  go_wp2
  go_region
  go_wp2
  rw [rounds_succ]
  go_wp2
  refine bodyPost_ret (v := .tuple #[.agg #[.int .u64 r0, .int .u64 r1, .int .u64 r2, .int .u64 r3], .int .u64 c3]) (by simp [results, Try.results53, go_sem]) rfl ⟨rfl, ?_⟩
  go_grown

theorem prime_fact : ∃ p0 p1 p2 p3 : Nat, (W4 p0 p1 p2 p3 ∧ V p0 p1 p2 p3 = pP) ∧ ∀ w : World, Calls Try.prog 24 #[] w fun e w' => e = .returned (.agg #[.int .u64 p0, .int .u64 p1, .int .u64 p2, .int .u64 p3]) ∧ Below w.heap.size w w' := by
  refine ⟨18446744073709551597, 18446744073709551615, 18446744073709551615, 9223372036854775807, ⟨by unfold W4; decide, by decide +kernel⟩, fun w => ?_⟩
  go_enter Try.func24, Try.ntmps24
  go_wp2
  refine bodyPost_ret (v := .agg #[.int .u64 18446744073709551597, .int .u64 18446744073709551615, .int .u64 18446744073709551615, .int .u64 9223372036854775807]) (by simp [results, Try.results24, go_sem]) rfl ⟨rfl, ?_⟩
  go_grown

theorem info_u64 : (Try.prog.info? 23).map (·.size) = some 1 := by kernel_rfl
theorem key_u64 : Try.prog.plainKey 23 = true := by kernel_rfl
theorem eql_num (a0 a1 a2 a3 b0 b1 b2 b3 : Int) (w : World) : (binOp .eql 25 (.agg #[.int .u64 a0, .int .u64 a1, .int .u64 a2, .int .u64 a3]) (.agg #[.int .u64 b0, .int .u64 b1, .int .u64 b2, .int .u64 b3])).run Try.prog w = .ok (.bool (eqL [a0, a1, a2, a3] [b0, b1, b2, b3])) w := by
  obtain ⟨i, hi, hs⟩ := Option.map_eq_some_iff.1 info_u64
  exact run_eql_arr w 25 23 4 .u64 [a0, a1, a2, a3] [b0, b1, b2, b3] Try.underlying25 Try.underlying23 key_u64 hi hs rfl rfl
theorem neq_num (a0 a1 a2 a3 b0 b1 b2 b3 : Int) (w : World) : (binOp .neq 25 (.agg #[.int .u64 a0, .int .u64 a1, .int .u64 a2, .int .u64 a3]) (.agg #[.int .u64 b0, .int .u64 b1, .int .u64 b2, .int .u64 b3])).run Try.prog w = .ok (.bool (!eqL [a0, a1, a2, a3] [b0, b1, b2, b3])) w := by
  obtain ⟨i, hi, hs⟩ := Option.map_eq_some_iff.1 info_u64
  exact run_neq_arr w 25 23 4 .u64 [a0, a1, a2, a3] [b0, b1, b2, b3] Try.underlying25 Try.underlying23 key_u64 hi hs rfl rfl
attribute [local go_sem ↓] eql_num neq_num
theorem eqL_V {a0 a1 a2 a3 b0 b1 b2 b3 : Nat} (ha : W4 a0 a1 a2 a3) (hb : W4 b0 b1 b2 b3) : eqL [(a0 : Int), a1, a2, a3] [(b0 : Int), b1, b2, b3] = true ↔ V a0 a1 a2 a3 = V b0 b1 b2 b3 := by
  rw [eqL_iff]
  constructor
  · intro h
    simp only [List.cons.injEq, Int.natCast_inj, and_true] at h
    obtain ⟨rfl, rfl, rfl, rfl⟩ := h
    rfl
  · intro h
    obtain ⟨rfl, rfl, rfl, rfl⟩ := Pl.V_inj ha hb h
    rfl
theorem eqL_zero {a0 a1 a2 a3 : Nat} : eqL [(a0 : Int), a1, a2, a3] [(0 : Int), 0, 0, 0] = true ↔ V a0 a1 a2 a3 = 0 := by
  rw [eqL_iff, Pl.V_zero]
  simp only [List.cons.injEq, and_true]
  omega

/-- Whether all words are 0. -/
theorem zero_fact (a0 a1 a2 a3 : Nat) : ∃ z : Bool, (z = true ↔ V a0 a1 a2 a3 = 0) ∧ ∀ w : World, Calls Try.prog 15 #[.agg #[.int .u64 a0, .int .u64 a1, .int .u64 a2, .int .u64 a3]] w fun e w' => e = .returned (.bool z) ∧ Below w.heap.size w w' := by
  refine ⟨eqL [(a0 : Int), a1, a2, a3] [(0 : Int), 0, 0, 0], eqL_zero, fun w => ?_⟩
  go_enter Try.func15, Try.ntmps15
  go_wp2
  go_ret
  refine ⟨rfl, ?_⟩
  go_grown

set_option maxHeartbeats 1000000 in
theorem less_fact (a0 a1 a2 a3 b0 b1 b2 b3 : Nat) (ha : W4 a0 a1 a2 a3) (hb : W4 b0 b1 b2 b3) : ∃ z : Bool, (z = true ↔ V a0 a1 a2 a3 < V b0 b1 b2 b3) ∧ ∀ w : World, Calls Try.prog 21 #[.agg #[.int .u64 a0, .int .u64 a1, .int .u64 a2, .int .u64 a3], .agg #[.int .u64 b0, .int .u64 b1, .int .u64 b2, .int .u64 b3]] w fun e w' => e = .returned (.bool z) ∧ Below w.heap.size w w' := by
  obtain ⟨r0, r1, r2, r3, c, ⟨hr, hc1, hv⟩, F⟩ := minus_fact a0 a1 a2 a3 b0 b1 b2 b3 ha hb
  have hlt := Pl.V_lt hr
  obtain ⟨z, hz⟩ : ∃ z : Bool, ((c : Int) == 1) = z := ⟨_, rfl⟩
  have hzc : z = true ↔ c = 1 := by rw [← hz, beq_iff_eq]; omega
  refine ⟨z, ?_, fun w => ?_⟩
  · rw [hzc]
    have hla := Pl.V_lt ha
    have hlb := Pl.V_lt hb
    rcases (show c = 0 ∨ c = 1 by omega) with rfl | rfl
    · omega
    · omega
  have HF := Lib.hid F
  clear F hzc hlt hv hc1 hr ha hb
  go_enter Try.func21, Try.ntmps21
  go_wp2_with (first | (go_at_call 45; refine (HF.out _).mono ?_; rintro e w1 ⟨rfl, hb⟩; have HB : Below w.heap.size w w1 := below_call (by go_grown) (by simp; omega) hb; obtain ⟨hc, hf⟩ := bcell hb; have hz := hb.size; clear hb))
  go_returns
  refine ⟨rfl, ?_⟩
  have hz' := HB.size
  go_grown

end Go.Proofs.Ytldnjbpcdojffaa
