/- A region that draws its order: one proof a operation, in whatever state its own inputs hold; what an operation leaves is said by a predicate on its value that later allocations keep (a new block's address hangs on the order, so values are not fixed). Conditions: none. -/
import Derived.Orders
import Derived.Deep.RegionHeld3
import Derived.Below
import Derived.WalkKit
import Derived.WalkSpells
import Derived.WalkLawsBesides
import Derived.KernelRfl
import Derived.Handy
import Derived.Lib.Hide
import Derived.ChangeKeysEq
import Derived.LoopN
import Derived.Laws.CopyRow
set_option linter.unusedSectionVars false
namespace Go.Proofs.YtpefomdegbmecaaDoor.Rg
set_option linter.unusedVariables false
set_option linter.unusedSimpArgs false
open Go Go.RowKit

/-- What an operation hands back. -/
def gives (P : Program) (o : Oper) (a : Act) (w : World) (R : Value → World → Prop) : Prop :=
  match (execOp a.eval o).run P w with
  | .ok (.value v) w' => R v w'
  | .ok .skip w' => R undef w'
  | .ok (.enter f args) w' => Calls P f args w' fun e w'' => ∃ v, e = .returned v ∧ R v w''
  | _ => False

theorem gives_value {P : Program} {o : Oper} {a : Act} {w w' : World} {R : Value → World → Prop} {v : Value} (h : (execOp a.eval o).run P w = .ok (.value v) w') (hR : R v w') : gives P o a w R := by
  unfold gives; rw [h]; exact hR
theorem gives_enter {P : Program} {o : Oper} {a : Act} {w : World} {R : Value → World → Prop} {f : FuncId} {args : Array Value} (h : (execOp a.eval o).run P w = .ok (.enter f args) w)
    (hR : Calls P f args w fun e w'' => ∃ v, e = .returned v ∧ R v w'') : gives P o a w R := by
  unfold gives; rw [h]; exact hR

theorem wp_of_gives {P : Program} {o : Oper} {a : Act} {w : World} {R : Value → World → Prop} {K : Act → World → Prop} {Q : Exit → Act → World → Prop} (h : gives P o a w R) (hK : ∀ v w', R v w' → K (a.put o.dst v) w') : o.wp P a w K Q := by
  unfold gives at h
  unfold Oper.wp
  generalize (execOp a.eval o).run P w = r at *
  cases r with
  | ok n w' =>
    cases n <;> simp only [Oper.upon]
    case value v => exact hK _ _ h
    case skip => exact hK _ _ h
    case enter f args => exact Calls.mono h fun e w'' ⟨v, he, hR⟩ => by subst he; exact hK _ _ hR
    all_goals exact h.elim
  | halt x w' => exact h.elim

def Is (u : Value) : World → Value → Prop := fun _ v => v = u
def Stable (g : World → Value → Prop) : Prop := ∀ w w' v, Below w.heap.size w w' → g w v → g w' v
theorem stable_is (u : Value) : Stable (Is u) := fun _ _ _ _ h => h

/-- The operations that one waits for, as a number's bits. -/
def anc1 (A : Nat → Nat) (o : Oper) : Nat := o.after.toList.foldl (fun m e => if Region.binds .any e then m ||| (2 ^ e.on ||| A e.on) else m) 0

theorem anc_fold (A : Nat → Nat) (i : Nat) : ∀ (l : List Edge) (m : Nat), (l.foldl (fun m e => if Region.binds .any e then m ||| (2 ^ e.on ||| A e.on) else m) m).testBit i = true →
    m.testBit i = true ∨ ∃ e ∈ l, Region.binds .any e = true ∧ (e.on = i ∨ (A e.on).testBit i = true)
  | [], m, h => .inl h
  | e :: l, m, h => by
    rw [List.foldl_cons] at h
    rcases anc_fold A i l _ h with h | ⟨e', he, hb, h⟩
    · by_cases hb : Region.binds .any e = true
      · rw [if_pos hb] at h
        simp only [Nat.testBit_or, Bool.or_eq_true] at h
        rcases h with h | h | h
        · exact .inl h
        · refine .inr ⟨e, by simp, hb, .inl ?_⟩
          by_cases hi : e.on = i
          · exact hi
          · rw [Nat.testBit_two_pow_of_ne hi] at h; cases h
        · exact .inr ⟨e, by simp, hb, .inr h⟩
      · rw [if_neg hb] at h; exact .inl h
    · exact .inr ⟨e', by simp [he], hb, h⟩

def writerOf (ops : Array Oper) (s : Tmp) : Option Nat := (List.range ops.size).find? fun d => (ops[d]?).bind (·.dst) == some s
def at_ (l : List Nat) (i : Nat) : Nat := l.getD i 0

/-- The kinds: 0: yields in whatever world; 1: reads memory, makes memory, calls; 2: behind all others, in the order of the text. -/
structure Check (ops : Array Oper) (A K : List Nat) : Prop where
  anc : ∀ i o, ops[i]? = some o → at_ A i = anc1 (at_ A) o ∧ ∀ e ∈ o.after, Region.binds .any e = true → e.on < i
  sel : Region.noSelect ops = true
  one : ∀ i o s, ops[i]? = some o → o.dst = some s → writerOf ops s = some i
  reads : ∀ i o s, ops[i]? = some o → at_ K i ≠ 2 → s ∈ o.looksAt ops → ∀ d, writerOf ops s = some d → d = i ∨ (at_ A i).testBit d = true ∨ (at_ A d).testBit i = true
  pure_ : ∀ i o, ops[i]? = some o → at_ K i = 0 → ∀ j o', ops[j]? = some o' → j ≠ i → (∃ e ∈ o'.after, Region.binds .any e = true ∧ e.on = i) ∨ (at_ A i).testBit j = true ∨ o.apart ops o' = true
  heads : ∀ i o, ops[i]? = some o → at_ K i ≠ 2 → (∃ s, o.dst = some s) ∧ ∀ e ∈ o.after, Region.binds .any e = true → at_ K e.on ≠ 2
  tails : ∀ i o, ops[i]? = some o → at_ K i = 2 → (∀ j, j < ops.size → at_ K j ≠ 0 → at_ K j ≠ 2 → (at_ A i).testBit j = true) ∧ ∀ j, j < i → at_ K j = 2 → (at_ A i).testBit j = true

def checkB (ops : Array Oper) (A K : List Nat) : Bool :=
  Region.noSelect ops && (List.range ops.size).all fun i => match ops[i]? with
    | none => true
    | some o =>
      (at_ A i == anc1 (at_ A) o) && o.after.toList.all (fun e => !Region.binds .any e || decide (e.on < i)) &&
      (match o.dst with | some s => writerOf ops s == some i | none => true) &&
      (at_ K i == 2 || (o.looksAt ops).all fun s => match writerOf ops s with | some d => d == i || (at_ A i).testBit d || (at_ A d).testBit i | none => true) &&
      (!(at_ K i == 0) || (List.range ops.size).all fun j => j == i || match ops[j]? with
        | some o' => o'.after.toList.any (fun e => Region.binds .any e && e.on == i) || (at_ A i).testBit j || o.apart ops o'
        | none => true) &&
      (at_ K i == 2 || (o.dst.isSome && o.after.toList.all fun e => !Region.binds .any e || !(at_ K e.on == 2))) &&
      (!(at_ K i == 2) || ((List.range ops.size).all (fun j => at_ K j == 0 || at_ K j == 2 || (at_ A i).testBit j) && (List.range i).all fun j => !(at_ K j == 2) || (at_ A i).testBit j))

theorem check_of {ops : Array Oper} {A K : List Nat} (h : checkB ops A K = true) : Check ops A K := by
  simp only [checkB, Bool.and_eq_true, List.all_eq_true, List.mem_range] at h
  obtain ⟨hs, h⟩ := h
  have key : ∀ i o, ops[i]? = some o → i < ops.size := fun i o ho => (Array.getElem?_eq_some_iff.1 ho).1
  refine ⟨fun i o ho => ?_, hs, fun i o s ho hd => ?_, fun i o s ho hk hsl d hd => ?_, fun i o ho hk j o' ho' hne => ?_, fun i o ho hk => ?_, fun i o ho hk => ?_⟩
  all_goals
    have h1 := h i (key i o ho)
    simp only [ho, Bool.and_eq_true] at h1
    obtain ⟨⟨⟨⟨⟨⟨c1, c2⟩, c3⟩, c4⟩, c5⟩, c6⟩, c7⟩ := h1
  · refine ⟨by simpa using c1, fun e he hb => ?_⟩
    have := List.all_eq_true.1 c2 e (by simpa using he)
    simpa [hb] using this
  · simpa [hd] using c3
  · simp only [Bool.or_eq_true, beq_iff_eq, hk, false_or, List.all_eq_true] at c4
    have := c4 s hsl
    simpa [hd, or_assoc] using this
  · simp only [hk, beq_self_eq_true, Bool.not_true, Bool.false_or, List.all_eq_true, List.mem_range] at c5
    have h2 := c5 j (key j o' ho')
    simp only [ho', Bool.or_eq_true, beq_iff_eq, hne, false_or, List.any_eq_true, Bool.and_eq_true] at h2
    rcases h2 with (⟨e, he, hb⟩ | h2) | h2
    · exact .inl ⟨e, by simpa using he, hb⟩
    · exact .inr (.inl h2)
    · exact .inr (.inr h2)
  · simp only [Bool.or_eq_true, beq_iff_eq, hk, false_or, Bool.and_eq_true, List.all_eq_true, Option.isSome_iff_exists] at c6
    refine ⟨c6.1, fun e he hb => ?_⟩
    have := c6.2 e (by simpa using he)
    simpa [hb] using this
  · simp only [hk, beq_self_eq_true, Bool.not_true, Bool.false_or, Bool.and_eq_true, List.all_eq_true, List.mem_range] at c7
    refine ⟨fun j hj hk0 hk1 => ?_, fun j hj hk2 => ?_⟩
    · have := c7.1 j hj
      simpa [hk0, hk1] using this
    · have := c7.2 j hj
      simpa [hk2] using this

section
variable {P : Program} {ops : Array Oper} {A K : List Nat}

/-- What an operation may lean on of the slots that it looks at. -/
def Read (ops : Array Oper) (A : List Nat) (sp : Nat → World → Value → Prop) (a0 : Act) (i : Nat) (a : Act) (w : World) (s : Tmp) : Prop :=
  match writerOf ops s with
  | some d => if (at_ A i).testBit d then sp d w (a.eval (.tmp s)) else a.eval (.tmp s) = a0.eval (.tmp s)
  | none => a.eval (.tmp s) = a0.eval (.tmp s)
def ReadL (ops : Array Oper) (A : List Nat) (sp : Nat → World → Value → Prop) (a0 : Act) (i : Nat) (a : Act) (w : World) : List Tmp → Prop
  | [] => True
  | s :: l => Read ops A sp a0 i a w s ∧ ReadL ops A sp a0 i a w l

theorem readL_of {sp : Nat → World → Value → Prop} {a0 a : Act} {i : Nat} {w : World} : ∀ (l : List Tmp), (∀ s ∈ l, Read ops A sp a0 i a w s) → ReadL ops A sp a0 i a w l
  | [], _ => trivial
  | s :: l, h => ⟨h s (by simp), readL_of l fun x hx => h x (by simp [hx])⟩

def StepOK (P : Program) (ops : Array Oper) (A K : List Nat) (W : World) (a0 : Act) (sp : Nat → World → Value → Prop) (i : Nat) (g : World → Value → Prop) : Prop :=
  match ops[i]? with
  | none => True
  | some o => ∀ a w, Below W.heap.size W w → ReadL ops A sp a0 i a w (o.looksAt ops) →
    if at_ K i = 0 then ∃ v, Yields P ops o v a ∧ g w v
    else (Region.wanted o (yielded ops a.tmps) = true → gives P o a w fun v w' => Below w.heap.size w w' ∧ g w' v) ∧ (Region.wanted o (yielded ops a.tmps) = false → g w undef)

def dstOf (ops : Array Oper) (i : Nat) : Option Tmp := (ops[i]?).bind (·.dst)

/-- What stands behind the head: whatever values meet their predicates. -/
def Fin (ops : Array Oper) (sp : Nat → World → Value → Prop) (T : Act → World → Prop) (w : World) : List Nat → Act → Prop
  | [], b => T b w
  | d :: r, b => ∀ v, sp d w v → Fin ops sp T w r (b.put (dstOf ops d) v)

def Chain (P : Program) (ops : Array Oper) (A K : List Nat) (W : World) (a0 : Act) (hd : List Nat) (T : Act → World → Prop) : List Nat → (Nat → World → Value → Prop) → Prop
  | [], sp => ∀ w, Below W.heap.size W w → Fin ops sp T w hd a0
  | i :: r, sp => ∃ g, Stable g ∧ StepOK P ops A K W a0 sp i g ∧ Chain P ops A K W a0 hd T r fun j => if j = i then g else sp j

theorem anc_lt (hc : Check ops A K) : ∀ (i : Nat) (o : Oper), ops[i]? = some o → ∀ d, (at_ A i).testBit d = true → d < i := by
  intro i
  induction i using Nat.strongRecOn with
  | ind i ih =>
    intro o ho d hd
    obtain ⟨h1, h2⟩ := hc.anc i o ho
    rw [h1] at hd
    rcases anc_fold (at_ A) d _ _ hd with h | ⟨e, he, hb, h⟩
    · simp at h
    · have hlt := h2 e (by simpa using he) hb
      rcases h with h | h
      · omega
      · have hsz := (Array.getElem?_eq_some_iff.1 ho).1
        obtain ⟨o', ho'⟩ : ∃ o', ops[e.on]? = some o' := ⟨ops[e.on]'(by omega), by rw [Array.getElem?_eq_getElem]⟩
        have := ih e.on hlt o' ho' d h
        omega

theorem read_congr {sp sp' : Nat → World → Value → Prop} {a0 a : Act} {i : Nat} {w : World} (h : ∀ d, (at_ A i).testBit d = true → sp' d = sp d) : ∀ (l : List Tmp),
    ReadL ops A sp' a0 i a w l → ReadL ops A sp a0 i a w l
  | [], _ => trivial
  | s :: l, hh => by
    refine ⟨?_, read_congr h l hh.2⟩
    have h1 := hh.1
    unfold Read at *
    split
    · rename_i d hd
      simp only [hd] at h1
      split
      · rename_i hb; rw [if_pos hb] at h1; rw [← h d hb]; exact h1
      · rename_i hb; rw [if_neg hb] at h1; exact h1
    · rename_i hd; simp only [hd] at h1; exact h1

theorem step_congr {W : World} {a0 : Act} {sp sp' : Nat → World → Value → Prop} {i : Nat} {g : World → Value → Prop} (h : ∀ d, (at_ A i).testBit d = true → sp' d = sp d)
    (hs : StepOK P ops A K W a0 sp i g) : StepOK P ops A K W a0 sp' i g := by
  unfold StepOK at *
  split
  · trivial
  · rename_i o ho
    simp only [ho] at hs
    exact fun a w hB hr => hs a w hB (read_congr h _ hr)

theorem chain_all (hc : Check ops A K) {W : World} {a0 : Act} {hd : List Nat} {T : Act → World → Prop} : ∀ (todo : List Nat) (sp : Nat → World → Value → Prop), todo.Pairwise (· < ·) → (∀ i ∈ todo, i < ops.size) →
    Chain P ops A K W a0 hd T todo sp → ∃ sp' : Nat → World → Value → Prop, (∀ j, j ∉ todo → sp' j = sp j) ∧ (∀ i ∈ todo, Stable (sp' i) ∧ StepOK P ops A K W a0 sp' i (sp' i)) ∧ ∀ w, Below W.heap.size W w → Fin ops sp' T w hd a0
  | [], sp, _, _, h => ⟨sp, fun _ _ => rfl, fun _ hi => (nomatch hi), h⟩
  | i :: r, sp, hp, hlt, h => by
    obtain ⟨g, hg, hs, h⟩ := h
    rw [List.pairwise_cons] at hp
    obtain ⟨sp', h1, h2, h3⟩ := chain_all hc r _ hp.2 (fun j hj => hlt j (by simp [hj])) h
    have hir : i ∉ r := fun hi => Nat.lt_irrefl _ (hp.1 i hi)
    have hi : sp' i = g := by rw [h1 i hir, if_pos rfl]
    have hlt' := hlt i (by simp)
    have hk : ∀ d, (at_ A i).testBit d = true → sp' d = sp d := fun d hdd => by
      have hlt := anc_lt hc i ops[i] (by rw [Array.getElem?_eq_getElem hlt']) d hdd
      rw [h1 d (fun hd => by have := hp.1 d hd; omega), if_neg (by omega)]
    refine ⟨sp', fun j hj => ?_, fun j hj => ?_, h3⟩
    · rw [List.mem_cons, not_or] at hj
      rw [h1 j hj.2, if_neg hj.1]
    · rcases List.mem_cons.1 hj with rfl | hj
      · rw [hi]; exact ⟨hg, step_congr hk hs⟩
      · exact h2 j hj

/-- What holds while the head's operations come up. -/
structure Inv (ops : Array Oper) (K : List Nat) (sp : Nat → World → Value → Prop) (W : World) (a0 : Act) (L : Array Bool) (a : Act) (w : World) : Prop where
  size : L.size = ops.size
  closed : ∀ j oj, ops[j]? = some oj → L.getD j false = true → ∀ e ∈ oj.after, Region.binds .any e = true → L.getD e.on false = true
  notail : ∀ j, j < ops.size → at_ K j = 2 → L.getD j false = false
  defers : a.defers = a0.defers
  tmps : a.tmps.size = a0.tmps.size
  below : Below W.heap.size W w
  slot : ∀ s, match writerOf ops s with
    | some d => if L.getD d false = true then sp d w (a.eval (.tmp s)) else a.eval (.tmp s) = a0.eval (.tmp s)
    | none => a.eval (.tmp s) = a0.eval (.tmp s)

theorem closed_anc (hc : Check ops A K) {L : Array Bool} (hcl : ∀ j oj, ops[j]? = some oj → L.getD j false = true → ∀ e ∈ oj.after, Region.binds .any e = true → L.getD e.on false = true) :
    ∀ (i : Nat) (o : Oper), ops[i]? = some o → (∀ e ∈ o.after, Region.binds .any e = true → L.getD e.on false = true) → ∀ d, (at_ A i).testBit d = true → L.getD d false = true := by
  intro i
  induction i using Nat.strongRecOn with
  | ind i ih =>
    intro o ho hl d hd
    obtain ⟨h1, h2⟩ := hc.anc i o ho
    rw [h1] at hd
    rcases anc_fold (at_ A) d _ _ hd with h | ⟨e, he, hb, h⟩
    · simp at h
    · have he' : e ∈ o.after := by simpa using he
      have hlt := h2 e he' hb
      have hle := hl e he' hb
      rcases h with h | h
      · rw [← h]; exact hle
      · have hsz := (Array.getElem?_eq_some_iff.1 ho).1
        obtain ⟨o', ho'⟩ : ∃ o', ops[e.on]? = some o' := ⟨ops[e.on]'(by omega), by rw [Array.getElem?_eq_getElem]⟩
        exact ih e.on hlt o' ho' (hcl _ o' ho' hle) d h

theorem getD_of_ready {L : Array Bool} {i : Nat} (h : i ∈ Region.ready .any ops L) : L.getD i false = false := by
  have h1 := (mem_ready.1 h).1
  rcases Nat.lt_or_ge i L.size with h' | h'
  · simp [h'] at h1 ⊢; exact h1
  · simp [Array.getElem?_eq_none h'] at h1

theorem getD_set {L : Array Bool} {i j : Nat} (hi : i < L.size) : (L.setIfInBounds i true).getD j false = if i = j then true else L.getD j false := by
  by_cases h : i = j
  · subst h; simp [hi]
  · rw [if_neg h, getD_set_ne false h]

theorem eval_put_self {a : Act} {s : Tmp} {v : Value} (h : s < a.tmps.size) : (a.put (some s) v).eval (.tmp s) = v := by
  simp [Act.eval, Act.put, h]

theorem Inv.put (hc : Check ops A K) {sp : Nat → World → Value → Prop} {W : World} {a0 : Act} {L : Array Bool} {a : Act} {w w' : World} (h : Inv ops K sp W a0 L a w) {i : Nat} {o : Oper} {s : Tmp} (ho : ops[i]? = some o)
    (hr : i ∈ Region.ready .any ops L) (hk : at_ K i ≠ 2) (hs : o.dst = some s) (hlt : s < a0.tmps.size) {v : Value} (hst : ∀ j, j < ops.size → at_ K j ≠ 2 → Stable (sp j)) (hb : Below w.heap.size w w') (hb0 : Below W.heap.size W w') (hv : sp i w' v) :
    Inv ops K sp W a0 (L.setIfInBounds i true) (a.put o.dst v) w' := by
  have hsz := (Array.getElem?_eq_some_iff.1 ho).1
  have hL : i < L.size := by rw [h.size]; exact hsz
  obtain ⟨_, o', ho', hall⟩ := mem_ready.1 hr
  have : o' = o := Option.some.inj (ho'.symm.trans ho)
  subst this
  refine ⟨by simp [h.size], fun j oj hj hl e he hbd => ?_, fun j hj hkj => ?_, ?_, ?_, hb0, fun t => ?_⟩
  · rw [getD_set hL] at hl ⊢
    by_cases hij : i = j
    · subst hij
      have : oj = o' := Option.some.inj (hj.symm.trans ho)
      subst this
      split
      · rfl
      · exact hall e he hbd
    · rw [if_neg hij] at hl
      split
      · rfl
      · exact h.closed j oj hj hl e he hbd
  · rw [getD_set hL, if_neg (fun (e : i = j) => hk (e ▸ hkj))]; exact h.notail j hj hkj
  · rw [hs]; exact h.defers
  · rw [hs]; simp [Act.put, h.tmps]
  · have h1 := h.slot t
    have hw := hc.one i o' s ho hs
    by_cases hst' : s = t
    · subst hst'
      rw [hw]
      simp only
      rw [getD_set hL, if_pos rfl, if_pos rfl, hs, eval_put_self (by rw [h.tmps]; exact hlt)]
      exact hv
    · have hev : (a.put o'.dst v).eval (.tmp t) = a.eval (.tmp t) := Act.eval_put (fun d hd he => by rw [hs] at hd; injection hd with hd; injection he with he; exact hst' (hd.trans he.symm))
      rw [hev]
      split
      · rename_i d hd
        simp only [hd] at h1
        rw [getD_set hL]
        have hdlt : d < ops.size := by
          unfold writerOf at hd
          exact List.mem_range.1 (List.mem_of_find?_eq_some hd)
        by_cases hid : i = d
        · subst hid
          exfalso
          unfold writerOf at hd
          have := List.find?_some hd
          simp only [ho, Option.bind_some, hs, beq_iff_eq, Option.some.injEq] at this
          exact hst' this
        · rw [if_neg hid]
          split
          · rename_i hld
            rw [if_pos hld] at h1
            refine hst d hdlt (fun hk2 => ?_) _ _ _ hb h1
            rw [h.notail d hdlt hk2] at hld
            cases hld
          · rename_i hld
            rw [if_neg hld] at h1
            exact h1
      · rename_i hd
        simp only [hd] at h1
        exact h1

theorem Inv.reads (hc : Check ops A K) {sp : Nat → World → Value → Prop} {W : World} {a0 : Act} {L : Array Bool} {a : Act} {w : World} (h : Inv ops K sp W a0 L a w) {i : Nat} {o : Oper} (ho : ops[i]? = some o)
    (hr : i ∈ Region.ready .any ops L) (hk : at_ K i ≠ 2) : ReadL ops A sp a0 i a w (o.looksAt ops) := by
  obtain ⟨_, o', ho', hall⟩ := mem_ready.1 hr
  have : o' = o := Option.some.inj (ho'.symm.trans ho)
  subst this
  refine readL_of _ fun s hs => ?_
  have h1 := h.slot s
  unfold Read
  split
  · rename_i d hd
    simp only [hd] at h1
    rcases hc.reads i o' s ho hk hs d hd with hdi | hdi | hdi
    · subst hdi
      rw [if_neg (by rw [getD_of_ready hr]; exact Bool.false_ne_true)] at h1
      split
      · rename_i hb; exact absurd (anc_lt hc d o' ho d hb) (Nat.lt_irrefl _)
      · exact h1
    · rw [if_pos hdi]
      rw [if_pos (closed_anc hc h.closed i o' ho hall d hdi)] at h1
      exact h1
    · have hdlt : d < ops.size := by
        unfold writerOf at hd
        exact List.mem_range.1 (List.mem_of_find?_eq_some hd)
      have hnd : L.getD d false = false := by
        cases hl : L.getD d false with
        | false => rfl
        | true =>
          have := closed_anc hc h.closed d ops[d] (by rw [Array.getElem?_eq_getElem hdlt]) (h.closed d _ (by rw [Array.getElem?_eq_getElem hdlt]) hl) i hdi
          rw [getD_of_ready hr] at this
          cases this
      rw [if_neg (by rw [hnd]; exact Bool.false_ne_true)] at h1
      have hlt1 := anc_lt hc d ops[d] (by rw [Array.getElem?_eq_getElem hdlt]) i hdi
      split
      · rename_i hb
        have := anc_lt hc i o' ho d hb
        omega
      · exact h1
  · rename_i hd
    simp only [hd] at h1
    exact h1

theorem act_ext {a b : Act} (hd : a.defers = b.defers) (hs : a.tmps.size = b.tmps.size) (he : ∀ s, a.eval (.tmp s) = b.eval (.tmp s)) : a = b := by
  obtain ⟨at_, ad⟩ := a
  obtain ⟨bt, bd⟩ := b
  simp only at hd hs
  subst hd
  congr
  apply Array.ext hs
  intro i h1 h2
  have := he i
  simpa [Act.eval, h1, h2] using this

theorem fin_apply {sp : Nat → World → Value → Prop} {T : Act → World → Prop} {w : World} (vs : Nat → Value) : ∀ (l : List Nat) (b : Act), Fin ops sp T w l b → (∀ d ∈ l, sp d w (vs d)) →
    T (l.foldl (fun b d => b.put (dstOf ops d) (vs d)) b) w
  | [], _, h, _ => h
  | d :: r, b, h, hv => by
    rw [List.foldl_cons]
    exact fin_apply vs r _ (h _ (hv d (by simp))) fun x hx => hv x (by simp [hx])

theorem puts_facts (vs : Nat → Value) : ∀ (l : List Nat) (b : Act), (l.foldl (fun b d => b.put (dstOf ops d) (vs d)) b).defers = b.defers ∧ (l.foldl (fun b d => b.put (dstOf ops d) (vs d)) b).tmps.size = b.tmps.size
  | [], _ => ⟨rfl, rfl⟩
  | d :: r, b => by
    rw [List.foldl_cons]
    obtain ⟨h1, h2⟩ := puts_facts vs r (b.put (dstOf ops d) (vs d))
    rw [h1, h2]
    cases dstOf ops d <;> simp [Act.put]

theorem puts_none (vs : Nat → Value) (s : Tmp) : ∀ (l : List Nat) (b : Act), (∀ d ∈ l, dstOf ops d ≠ some s) → (l.foldl (fun b d => b.put (dstOf ops d) (vs d)) b).eval (.tmp s) = b.eval (.tmp s)
  | [], _, _ => rfl
  | d :: r, b, h => by
    rw [List.foldl_cons, puts_none vs s r _ fun x hx => h x (by simp [hx])]
    exact Act.eval_put fun t ht he => h d (by simp) (by injection he with he; rw [ht, he])

theorem puts_some (vs : Nat → Value) (s : Tmp) (d : Nat) (hd : dstOf ops d = some s) : ∀ (l : List Nat) (b : Act), d ∈ l → (∀ x ∈ l, dstOf ops x = some s → x = d) → s < b.tmps.size →
    (l.foldl (fun b d => b.put (dstOf ops d) (vs d)) b).eval (.tmp s) = vs d
  | [], _, h, _, _ => by cases h
  | x :: r, b, h, hu, hs => by
    rw [List.foldl_cons]
    by_cases hx : x = d
    · subst hx
      by_cases hr : x ∈ r
      · exact puts_some vs s x hd r _ hr (fun y hy => hu y (by simp [hy])) (by rw [hd]; simpa [Act.put] using hs)
      · rw [puts_none vs s r _ fun y hy hys => hr (hu y (by simp [hy]) hys ▸ hy), hd, eval_put_self hs]
    · have hr : d ∈ r := by
        rcases List.mem_cons.1 h with h | h
        · exact absurd h.symm hx
        · exact h
      exact puts_some vs s d hd r _ hr (fun y hy => hu y (by simp [hy])) (by cases dstOf ops x <;> simpa [Act.put] using hs)

theorem countP_set (p q : Nat → Bool) (i : Nat) (hp : p i = true) (hq : q i = false) (hs : ∀ j, j ≠ i → q j = p j) : ∀ (l : List Nat), l.Nodup → i ∈ l → l.countP q + 1 = l.countP p
  | [], _, h => by cases h
  | x :: l, hn, h => by
    rw [List.nodup_cons] at hn
    by_cases hx : x = i
    · subst hx
      have : l.countP q = l.countP p := List.countP_congr fun j hj => by rw [hs j (fun e => hn.1 (e ▸ hj))]
      rw [List.countP_cons_of_pos hp, List.countP_cons_of_neg (by rw [hq]; exact Bool.false_ne_true), this]
    · have hr : i ∈ l := by
        rcases List.mem_cons.1 h with h | h
        · exact absurd h.symm hx
        · exact h
      have ih := countP_set p q i hp hq hs l hn.2 hr
      rw [List.countP_cons, List.countP_cons, hs x hx]
      omega

def unl (ops : Array Oper) (L : Array Bool) : Nat := (List.range ops.size).countP fun i => !L.getD i false

theorem unl_set {L : Array Bool} {i : Nat} (hi : i < ops.size) (hL : i < L.size) (h : L.getD i false = false) : unl ops (L.setIfInBounds i true) + 1 = unl ops L := by
  unfold unl
  refine countP_set _ _ i (by simp only [h, Bool.not_false]) (by rw [getD_set hL, if_pos rfl, Bool.not_true]) (fun j hj => by rw [getD_set hL, if_neg (fun e => hj e.symm)]) _ List.nodup_range (List.mem_range.2 hi)

/-- The tail, in the order of the text. -/
theorem tail_any (hc : Check ops A K) {Q : Exit → Act → World → Prop} : ∀ (tl : List Nat) (L : Array Bool) (a : Act) (w : World), L.size = ops.size → tl.Pairwise (· < ·) → (∀ j, j ∈ tl → j < ops.size ∧ at_ K j = 2) → (∀ j, j < ops.size → (L.getD j false = false ↔ j ∈ tl)) →
    (∀ j oj, ops[j]? = some oj → L.getD j false = true → ∀ e ∈ oj.after, Region.binds .any e = true → L.getD e.on false = true) →
    wpList P ops Q (tl.filterMap (ops[·]?)) a w → wpAny P .any ops Q (unl ops L) L a w
  | [], L, a, w, hsz, _, _, hiff, _, h => by
    refine wpAny_done ?_ h _
    rw [List.eq_nil_iff_forall_not_mem]
    intro i hi
    have hlt : i < ops.size := by
      obtain ⟨_, o, ho, _⟩ := mem_ready.1 hi
      exact (Array.getElem?_eq_some_iff.1 ho).1
    exact absurd ((hiff i hlt).1 (getD_of_ready hi)) (by simp)
  | t :: tl, L, a, w, hsz, hp, hmem, hiff, hcl, h => by
    rw [List.pairwise_cons] at hp
    obtain ⟨htlt, htk⟩ := hmem t (by simp)
    obtain ⟨ot, hot⟩ : ∃ o, ops[t]? = some o := ⟨ops[t], by rw [Array.getElem?_eq_getElem]⟩
    have htl : t < L.size := by rw [hsz]; exact htlt
    have htf : L.getD t false = false := (hiff t htlt).2 (by simp)
    have hrt : t ∈ Region.ready .any ops L := by
      refine mem_ready.2 ⟨by simp [htl] at htf ⊢; exact htf, ot, hot, fun e he hb => ?_⟩
      have hlt := (hc.anc t ot hot).2 e he hb
      cases hl : L.getD e.on false with
      | true => rfl
      | false =>
        have := (hiff e.on (by omega)).1 hl
        rcases List.mem_cons.1 this with h | h
        · omega
        · have := hp.1 _ h; omega
    have honly : ∀ j, j ∈ Region.ready .any ops L → j = t := by
      intro j hj
      obtain ⟨_, oj, hoj, hall⟩ := mem_ready.1 hj
      have hjlt := (Array.getElem?_eq_some_iff.1 hoj).1
      rcases List.mem_cons.1 ((hiff j hjlt).1 (getD_of_ready hj)) with h | h
      · exact h
      · exfalso
        have hjt := hp.1 j h
        have := closed_anc hc hcl j oj hoj hall t ((hc.tails j oj hoj (hmem j (by simp [h])).2).2 t hjt htk)
        rw [htf] at this
        cases this
    have hcount := unl_set (ops := ops) htlt htl htf
    rw [← hcount]
    refine ⟨fun h0 => absurd hrt (by rw [h0]; exact List.not_mem_nil), fun j hj => ?_⟩
    have hjt := honly j hj
    subst hjt
    have hnext : ∀ a' w', wpList P ops Q (tl.filterMap (ops[·]?)) a' w' → wpAny P .any ops Q (unl ops (L.setIfInBounds j true)) (L.setIfInBounds j true) a' w' := fun a' w' h' => by
      refine tail_any hc tl _ a' w' (by simp [hsz]) hp.2 (fun x hx => hmem x (by simp [hx])) (fun x hx => ?_) (fun x ox hox hl e he hb => ?_) h'
      · rw [getD_set htl]
        by_cases hjx : j = x
        · subst hjx
          simp only [if_true, Bool.true_eq_false, false_iff]
          exact fun hx => Nat.lt_irrefl _ (hp.1 _ hx)
        · rw [if_neg hjx, hiff x hx, List.mem_cons]
          exact ⟨fun hh => hh.resolve_left (fun e => hjx e.symm), .inr⟩
      · rw [getD_set htl] at hl ⊢
        by_cases hjx : j = x
        · subst hjx
          obtain ⟨_, o', ho', hall⟩ := mem_ready.1 hj
          have : o' = ox := Option.some.inj (ho'.symm.trans hox)
          subst this
          split
          · rfl
          · exact hall e he hb
        · rw [if_neg hjx] at hl
          split
          · rfl
          · exact hcl x ox hox hl e he hb
    simp only [List.filterMap_cons, hot, wpList] at h
    unfold wpOp
    simp only [hot]
    split
    · rename_i hw
      rw [if_pos hw] at h
      rcases h with h | h
      · exact .inl (Oper.wp_mono hnext h)
      · exact .inr h
    · rename_i hw
      rw [if_neg hw] at h
      exact hnext _ _ h

theorem least_unl {p : Nat → Prop} : ∀ (n : Nat), p n → ∃ m, p m ∧ ∀ k, k < m → ¬ p k := by
  intro n
  induction n using Nat.strongRecOn with
  | ind n ih =>
    intro h
    by_cases hx : ∃ k, k < n ∧ p k
    · obtain ⟨k, hk, hp⟩ := hx; exact ih k hk hp
    · exact ⟨n, h, fun k hk hp => hx ⟨k, hk, hp⟩⟩

def headL (ops : Array Oper) (K : List Nat) : List Nat := (List.range ops.size).filter fun i => !(at_ K i == 2)
def tailL (ops : Array Oper) (K : List Nat) : List Nat := (List.range ops.size).filter fun i => at_ K i == 2

theorem finish (hc : Check ops A K) {Q : Exit → Act → World → Prop} {W : World} {a0 : Act} {sp : Nat → World → Value → Prop}
    (hsl : ∀ (i : Nat) (o : Oper) (s : Tmp), ops[i]? = some o → o.dst = some s → s < a0.tmps.size)
    (hfin : ∀ w, Below W.heap.size W w → Fin ops sp (wpList P ops (NoPanic Q) ((tailL ops K).filterMap (ops[·]?))) w (headL ops K) a0)
    {n : Nat} (L : Array Bool) (a : Act) (w : World) (hn : unl ops L = n) (hI : Inv ops K sp W a0 L a w) (hdone : ∀ j, j < ops.size → at_ K j ≠ 2 → L.getD j false = true) : wpAny P .any ops (NoPanic Q) n L a w := by
  rw [← hn]
  refine tail_any hc (tailL ops K) L a w hI.size (List.Pairwise.sublist List.filter_sublist List.pairwise_lt_range) (fun j hj => ?_) (fun j hj => ?_) hI.closed ?_
  · unfold tailL at hj
    rw [List.mem_filter, List.mem_range] at hj
    exact ⟨hj.1, by simpa using hj.2⟩
  · unfold tailL
    rw [List.mem_filter, List.mem_range]
    constructor
    · intro hl
      refine ⟨hj, ?_⟩
      by_cases hk : at_ K j = 2
      · simp [hk]
      · rw [hdone j hj hk] at hl; cases hl
    · rintro ⟨_, hk⟩
      exact hI.notail j hj (by simpa using hk)
  · have hmemh : ∀ d, d ∈ headL ops K → d < ops.size ∧ at_ K d ≠ 2 := fun d hd => by
      unfold headL at hd
      rw [List.mem_filter, List.mem_range] at hd
      exact ⟨hd.1, by simpa using hd.2⟩
    have hw : ∀ d, d < ops.size → ∀ s, dstOf ops d = some s → writerOf ops s = some d := fun d hd s hs => by
      have ho : ops[d]? = some ops[d] := by rw [Array.getElem?_eq_getElem]
      refine hc.one d ops[d] s ho ?_
      unfold dstOf at hs
      rw [ho] at hs
      exact hs
    have hf := fin_apply (fun d => match dstOf ops d with | some s => a.eval (.tmp s) | none => undef) (headL ops K) a0 (hfin w hI.below) (fun d hd => by
      obtain ⟨hlt, hk⟩ := hmemh d hd
      have ho : ops[d]? = some ops[d] := by rw [Array.getElem?_eq_getElem]
      obtain ⟨s, hs⟩ := (hc.heads d ops[d] ho hk).1
      have hds : dstOf ops d = some s := by unfold dstOf; rw [ho]; exact hs
      simp only [hds]
      have h1 := hI.slot s
      rw [hw d hlt s hds] at h1
      simp only at h1
      rw [if_pos (hdone d hlt hk)] at h1
      exact h1)
    have hpf := puts_facts (ops := ops) (fun d => match dstOf ops d with | some s => a.eval (.tmp s) | none => undef) (headL ops K) a0
    have e : (headL ops K).foldl (fun b d => b.put (dstOf ops d) (match dstOf ops d with | some s => a.eval (.tmp s) | none => undef)) a0 = a := by
      refine act_ext (hpf.1.trans hI.defers.symm) (hpf.2.trans hI.tmps.symm) fun s => ?_
      have h1 := hI.slot s
      by_cases hx : ∃ d, d ∈ headL ops K ∧ dstOf ops d = some s
      · obtain ⟨d, hd, hds⟩ := hx
        obtain ⟨hlt, hk⟩ := hmemh d hd
        have hu : ∀ x ∈ headL ops K, dstOf ops x = some s → x = d := fun x hx hxs => by
          have h2 := hw x (hmemh x hx).1 s hxs
          rw [hw d hlt s hds] at h2
          injection h2 with h2
          exact h2.symm
        have hlts : s < a0.tmps.size := hsl d ops[d] s (by rw [Array.getElem?_eq_getElem]) (by unfold dstOf at hds; rw [Array.getElem?_eq_getElem hlt] at hds; exact hds)
        rw [puts_some _ s d hds _ _ hd hu hlts]
        simp only [hds]
      · rw [puts_none _ s _ _ fun d hd hds => hx ⟨d, hd, hds⟩]
        split at h1
        · rename_i d hd
          have hdlt : d < ops.size := by
            unfold writerOf at hd
            exact List.mem_range.1 (List.mem_of_find?_eq_some hd)
          have hds : dstOf ops d = some s := by
            unfold writerOf at hd
            have := List.find?_some hd
            unfold dstOf
            simpa using this
          have hnl : L.getD d false = false := by
            by_cases hk : at_ K d = 2
            · exact hI.notail d hdlt hk
            · exact absurd ⟨d, by unfold headL; rw [List.mem_filter, List.mem_range]; exact ⟨hdlt, by simpa using hk⟩, hds⟩ hx
          rw [if_neg (by rw [hnl]; exact Bool.false_ne_true)] at h1
          exact h1.symm
        · exact h1.symm
    rw [e] at hf
    exact hf

theorem inv_any (hc : Check ops A K) {Q : Exit → Act → World → Prop} {W : World} {a0 : Act} {sp : Nat → World → Value → Prop}
    (hsl : ∀ (i : Nat) (o : Oper) (s : Tmp), ops[i]? = some o → o.dst = some s → s < a0.tmps.size)
    (hst : ∀ i, i < ops.size → at_ K i ≠ 2 → Stable (sp i) ∧ StepOK P ops A K W a0 sp i (sp i))
    (hfin : ∀ w, Below W.heap.size W w → Fin ops sp (wpList P ops (NoPanic Q) ((tailL ops K).filterMap (ops[·]?))) w (headL ops K) a0) :
    ∀ (n : Nat) (L : Array Bool) (a : Act) (w : World), unl ops L = n → Inv ops K sp W a0 L a w → wpAny P .any ops (NoPanic Q) n L a w := by
  intro n
  induction n with
  | zero =>
    intro L a w hn hI
    have hall : ∀ j, j < ops.size → L.getD j false = true := fun j hj => by
      unfold unl at hn
      rw [List.countP_eq_zero] at hn
      simpa using hn j (List.mem_range.2 hj)
    have htail : tailL ops K = [] := by
      unfold tailL
      rw [List.filter_eq_nil_iff]
      intro j hj hk
      have hk' : at_ K j = 2 := by simpa using hk
      have := hI.notail j (List.mem_range.1 hj) hk'
      rw [hall j (List.mem_range.1 hj)] at this
      cases this
    exact finish hc hsl hfin L a w hn hI (fun j hj _ => hall j hj)
  | succ n ih =>
    intro L a w hn hI
    by_cases hdone : ∀ j, j < ops.size → at_ K j ≠ 2 → L.getD j false = true
    · exact finish hc hsl hfin L a w hn hI hdone
    · -- a head is left: the least one may come up
      have hex : ∃ j, j < ops.size ∧ at_ K j ≠ 2 ∧ L.getD j false = false := by
        apply Classical.byContradiction
        intro hno
        exact hdone fun j hj hk => by
          cases hl : L.getD j false with
          | true => rfl
          | false => exact absurd ⟨j, hj, hk, hl⟩ hno
      obtain ⟨j0, hj0⟩ := hex
      obtain ⟨h, ⟨hh1, hh2, hh3⟩, hmin⟩ := least_unl (p := fun j => j < ops.size ∧ at_ K j ≠ 2 ∧ L.getD j false = false) j0 hj0
      obtain ⟨oh, hoh⟩ : ∃ o, ops[h]? = some o := ⟨ops[h], by rw [Array.getElem?_eq_getElem]⟩
      have hhr : h ∈ Region.ready .any ops L := by
        have hL : h < L.size := by rw [hI.size]; exact hh1
        refine mem_ready.2 ⟨by simp [hL] at hh3 ⊢; exact hh3, oh, hoh, fun e he hb => ?_⟩
        have hlt := (hc.anc h oh hoh).2 e he hb
        have hk := (hc.heads h oh hoh hh2).2 e he hb
        cases hl : L.getD e.on false with
        | true => rfl
        | false => exact absurd ⟨by omega, hk, hl⟩ (hmin e.on hlt)
      by_cases hpure : ∃ i, i ∈ Region.ready .any ops L ∧ at_ K i = 0
      · obtain ⟨i, hi, hk0⟩ := hpure
        obtain ⟨_, o, ho, hall⟩ := mem_ready.1 hi
        have hlt := (Array.getElem?_eq_some_iff.1 ho).1
        have hk : at_ K i ≠ 2 := by omega
        obtain ⟨s, hs⟩ := (hc.heads i o ho hk).1
        have hstep := (hst i hlt hk).2
        unfold StepOK at hstep
        simp only [ho] at hstep
        have h1 := hstep a w hI.below (hI.reads hc ho hi hk)
        rw [if_pos hk0] at h1
        obtain ⟨v, hy, hv⟩ := h1
        have hcount := unl_set (ops := ops) (i := i) hlt (by rw [hI.size]; exact hlt) (getD_of_ready hi)
        refine wpAny_first ho (fun j o cs b hj => Region.noSelect_spec hc.sel j o cs b hj) (fun c a w hq => hq.elim) n L a w (fun j oj hj hne hun hno => ?_) hi hy ?_
        · rcases hc.pure_ i o ho hk0 j oj hj hne with ⟨e, he, hb, hon⟩ | hb | hap
          · exact absurd hon (hno e he hb)
          · have := closed_anc hc hI.closed i o ho hall j hb
            have hjl : j < L.size := by rw [hI.size]; exact (Array.getElem?_eq_some_iff.1 hj).1
            simp [hjl] at this hun
            rw [this] at hun
            cases hun
          · exact hap
        · exact ih _ _ _ (by omega) (hI.put hc ho hi hk hs (hsl i o s ho hs) (fun j hj hkj => (hst j hj hkj).1) (Below.refl _ _) hI.below hv)
      · refine ⟨fun h0 => absurd hhr (by rw [h0]; exact List.not_mem_nil), fun i hi => ?_⟩
        obtain ⟨_, o, ho, hall⟩ := mem_ready.1 hi
        have hlt := (Array.getElem?_eq_some_iff.1 ho).1
        have hk0 : at_ K i ≠ 0 := fun e => hpure ⟨i, hi, e⟩
        have hk : at_ K i ≠ 2 := by
          intro hk2
          have hkh : at_ K h ≠ 0 := fun e => hpure ⟨h, hhr, e⟩
          have := closed_anc hc hI.closed i o ho hall h ((hc.tails i o ho hk2).1 h hh1 hkh hh2)
          rw [hh3] at this
          cases this
        obtain ⟨s, hs⟩ := (hc.heads i o ho hk).1
        have hstep := (hst i hlt hk).2
        unfold StepOK at hstep
        simp only [ho] at hstep
        have h1 := hstep a w hI.below (hI.reads hc ho hi hk)
        rw [if_neg hk0] at h1
        have hcount := unl_set (ops := ops) (i := i) hlt (by rw [hI.size]; exact hlt) (getD_of_ready hi)
        unfold wpOp
        simp only [ho]
        split
        · rename_i hw
          exact .inl (wp_of_gives (h1.1 hw) fun v w' ⟨hb, hv⟩ => ih _ _ _ (by omega) (hI.put hc ho hi hk hs (hsl i o s ho hs) (fun j hj hkj => (hst j hj hkj).1) hb (hI.below.trans (hb.mono hI.below.size)) hv))
        · rename_i hw
          exact ih _ _ _ (by omega) (hI.put hc ho hi hk hs (hsl i o s ho hs) (fun j hj hkj => (hst j hj hkj).1) (Below.refl _ _) hI.below (h1.2 (by simpa using hw)))

def dstB (ops : Array Oper) (n : Nat) : Bool := ops.toList.all fun o => match o.dst with | some s => decide (s < n) | none => true

/-- A REGION THAT DRAWS ITS ORDER, an operation at a time. -/
theorem region {id n : Nat} {Q : Exit → Act → World → Prop} {a : Act} {w : World} (A K : List Nat) (hm : P.follows .mixedOrders = true) (hB : checkB ops A K = true) (hd : dstB ops n = true) (hn : a.tmps.size = n)
    (h : Chain P ops A K w.drew a (headL ops K) (wpList P ops (NoPanic Q) ((tailL ops K).filterMap (ops[·]?))) (headL ops K) (fun _ _ _ => True)) : (Code.region id ops true).wp P Q a w := by
  have hc := check_of hB
  refine wp_region_noPanic (wp_region_any hm ?_)
  have hsl : ∀ (i : Nat) (o : Oper) (s : Tmp), ops[i]? = some o → o.dst = some s → s < a.tmps.size := fun i o s ho hs => by
    have hmem : o ∈ ops.toList := by simpa using Array.mem_of_getElem? ho
    have := List.all_eq_true.1 hd o hmem
    simp only [hs, decide_eq_true_eq] at this
    rw [hn]; exact this
  have hmem : ∀ i, i < ops.size → at_ K i ≠ 2 → i ∈ headL ops K := fun i hi hk => by
    unfold headL
    rw [List.mem_filter, List.mem_range]
    exact ⟨hi, by simpa using hk⟩
  obtain ⟨sp, _, h2, h3⟩ := chain_all hc (headL ops K) _ (List.Pairwise.sublist List.filter_sublist List.pairwise_lt_range) (fun i hi => by
    unfold headL at hi
    rw [List.mem_filter, List.mem_range] at hi
    exact hi.1) h
  have hrep : ∀ j, (Array.replicate ops.size false).getD j false = false := fun j => by
    rcases Nat.lt_or_ge j ops.size with hj | hj <;> simp [hj]
  have hunl : unl ops (Array.replicate ops.size false) = ops.size := by
    unfold unl
    rw [List.countP_eq_length.2 fun i _ => by rw [hrep i, Bool.not_false], List.length_range]
  exact inv_any hc hsl (fun i hi hk => h2 i (hmem i hi hk)) h3 _ _ _ _ hunl ⟨by simp, fun j oj _ hl => absurd hl (by rw [hrep j]; exact Bool.false_ne_true), fun j _ _ => hrep j, rfl, rfl, Below.refl _ _, fun s => (by
    split
    · rename_i d _
      rw [hrep d]
      exact if_neg Bool.false_ne_true ▸ rfl
    · rfl)⟩

/-! ### The same with what is read written out -/
def readsOf (ops : Array Oper) (A : List Nat) (i : Nat) : List (Tmp × Option Nat) :=
  match ops[i]? with
  | none => []
  | some o => (o.looksAt ops).map fun s => (s, match writerOf ops s with | some d => if (at_ A i).testBit d then some d else none | none => none)

def RdL (sp : Nat → World → Value → Prop) (a0 : Act) (a : Act) (w : World) : List (Tmp × Option Nat) → Prop
  | [] => True
  | (s, some d) :: l => sp d w (a.eval (.tmp s)) ∧ RdL sp a0 a w l
  | (s, none) :: l => a.eval (.tmp s) = a0.eval (.tmp s) ∧ RdL sp a0 a w l

def readsB (ops : Array Oper) (A : List Nat) (R : List (List (Tmp × Option Nat))) : Bool := (List.range ops.size).all fun i => readsOf ops A i == R.getD i []

theorem rdL_of {sp : Nat → World → Value → Prop} {a0 a : Act} {i : Nat} {w : World} : ∀ (l : List Tmp), ReadL ops A sp a0 i a w l →
    RdL sp a0 a w (l.map fun s => (s, match writerOf ops s with | some d => if (at_ A i).testBit d then some d else none | none => none))
  | [], _ => trivial
  | s :: l, h => by
    have h2 := rdL_of l h.2
    have h1 := h.1
    rw [List.map_cons]
    unfold Read at h1
    cases hw : writerOf ops s with
    | none => simp only [hw] at h1; exact ⟨h1, h2⟩
    | some d =>
      simp only [hw] at h1
      by_cases hb : (at_ A i).testBit d = true
      · rw [if_pos hb] at h1; simp only [if_pos hb]; exact ⟨h1, h2⟩
      · rw [if_neg hb] at h1; simp only [if_neg hb]; exact ⟨h1, h2⟩

def Step (P : Program) (ops : Array Oper) (W : World) (a0 : Act) (sp : Nat → World → Value → Prop) (k : Nat) (rd : List (Tmp × Option Nat)) (o : Oper) (g : World → Value → Prop) : Prop :=
  ∀ a w, Below W.heap.size W w → RdL sp a0 a w rd →
    if k = 0 then ∃ v, Yields P ops o v a ∧ g w v
    else (Region.wanted o (yielded ops a.tmps) = true → gives P o a w fun v w' => Below w.heap.size w w' ∧ g w' v) ∧ (Region.wanted o (yielded ops a.tmps) = false → g w undef)

/-- What stands behind the head, the destinations written out. -/
def FinD (sp : Nat → World → Value → Prop) (T : Act → World → Prop) (w : World) : List (Nat × Nat × Tmp × List (Tmp × Option Nat)) → Act → Prop
  | [], b => T b w
  | (d, _, t, _) :: r, b => ∀ v, sp d w v → FinD sp T w r (b.put (some t) v)

theorem fin_of {sp : Nat → World → Value → Prop} {T : Act → World → Prop} {w : World} {R : List (List (Tmp × Option Nat))} {D : List Tmp} : ∀ (l : List Nat) (b : Act), (∀ i ∈ l, dstOf ops i = some (D.getD i 0)) →
    FinD sp T w (l.map fun i => (i, at_ K i, D.getD i 0, R.getD i [])) b → Fin ops sp T w l b
  | [], _, _, h => h
  | d :: r, b, hd, h => fun v hv => by
    have h1 := h v hv
    rw [hd d (by simp)]
    exact fin_of r _ (fun i hi => hd i (by simp [hi])) h1

def Chain' (P : Program) (ops : Array Oper) (W : World) (a0 : Act) (T : Act → World → Prop) (hd : List (Nat × Nat × Tmp × List (Tmp × Option Nat))) : List (Nat × Nat × Tmp × List (Tmp × Option Nat)) → (Nat → World → Value → Prop) → Prop
  | [], sp => ∀ w, Below W.heap.size W w → FinD sp T w hd a0
  | (i, k, _, rd) :: r, sp => ∃ g, Stable g ∧ (∀ o, ops[i]? = some o → Step P ops W a0 sp k rd o g) ∧ Chain' P ops W a0 T hd r fun j => if j = i then g else sp j

theorem chain_of {W : World} {a0 : Act} {hd : List Nat} {T : Act → World → Prop} {R : List (List (Tmp × Option Nat))} {D : List Tmp} (hR : readsB ops A R = true) (hD : ∀ i ∈ hd, dstOf ops i = some (D.getD i 0)) : ∀ (todo : List Nat) (sp : Nat → World → Value → Prop), (∀ i ∈ todo, i < ops.size) →
    Chain' P ops W a0 T (hd.map fun i => (i, at_ K i, D.getD i 0, R.getD i [])) (todo.map fun i => (i, at_ K i, D.getD i 0, R.getD i [])) sp → Chain P ops A K W a0 hd T todo sp
  | [], _, _, h => fun w hb => fin_of hd a0 hD (h w hb)
  | i :: r, sp, hlt, h => by
    obtain ⟨g, hg, hs, h⟩ := h
    refine ⟨g, hg, ?_, chain_of hR hD r _ (fun j hj => hlt j (by simp [hj])) h⟩
    have hi := hlt i (by simp)
    have ho : ops[i]? = some ops[i] := by rw [Array.getElem?_eq_getElem]
    have h1 := hs _ ho
    unfold StepOK
    simp only [ho]
    intro a w hB hr
    refine h1 a w hB ?_
    have h2 := List.all_eq_true.1 hR i (List.mem_range.2 hi)
    rw [beq_iff_eq] at h2
    rw [← h2]
    unfold readsOf
    simp only [ho]
    exact rdL_of _ hr

theorem drop_range (l : List Oper) : ∀ (m : Nat), ((List.range l.length).drop m).filterMap (l.toArray[·]?) = l.drop m := by
  intro m
  apply List.ext_getElem?
  intro i
  have h1 : ∀ (ks : List Nat), (∀ k ∈ ks, k < l.length) → ∀ (i : Nat), (ks.filterMap (l.toArray[·]?))[i]? = (ks[i]?).bind fun (k : Nat) => l[k]? := by
    intro ks
    induction ks with
    | nil => intro _ i; simp
    | cons k ks ih =>
      intro hk i
      have hkl := hk k (by simp)
      rw [List.filterMap_cons]
      have : l.toArray[k]? = some l[k] := by simp [hkl]
      simp only [this]
      cases i with
      | zero => simp [hkl]
      | succ i => simp only [List.getElem?_cons_succ]; exact ih (fun x hx => hk x (by simp [hx])) i
  rw [h1 _ (fun k hk => by have := List.mem_of_mem_drop hk; exact List.mem_range.1 this)]
  rw [List.getElem?_drop, List.getElem?_drop]
  by_cases h : m + i < l.length
  · rw [List.getElem?_range h]; rfl
  · rw [List.getElem?_eq_none (by simp; omega), Option.bind_none]
    exact (List.getElem?_eq_none (by omega)).symm

/-- What the kernel is asked of a region. -/
def allB (ops : Array Oper) (n : Nat) (A K : List Nat) (D : List Tmp) (R : List (List (Tmp × Option Nat))) (m : Nat) : Bool :=
  checkB ops A K && dstB ops n && readsB ops A R && (headL ops K).all (fun i => dstOf ops i == some (D.getD i 0)) && (tailL ops K == (List.range ops.size).drop m)

/-- A REGION THAT DRAWS ITS ORDER, an operation at a time: its head's operations (kinds, destinations, reads) written out; from operation m on stands the tail. -/
theorem region_ {l : List Oper} {id n : Nat} {Q : Exit → Act → World → Prop} {a : Act} {w : World} (A K : List Nat) (D : List Tmp) (R : List (List (Tmp × Option Nat))) (m : Nat) (hm : P.follows .mixedOrders = true)
    (hB : allB l.toArray n A K D R m = true) (hn : a.tmps.size = n)
    (h : ∀ W, W = w.drew → Chain' P l.toArray W a (wpList P l.toArray (NoPanic Q) (l.drop m)) ((headL l.toArray K).map fun i => (i, at_ K i, D.getD i 0, R.getD i [])) ((headL l.toArray K).map fun i => (i, at_ K i, D.getD i 0, R.getD i [])) (fun _ _ _ => True)) : (Code.region id l.toArray true).wp P Q a w := by
  simp only [allB, Bool.and_eq_true] at hB
  obtain ⟨⟨⟨⟨h1, h2⟩, h3⟩, h4⟩, h5⟩ := hB
  refine region A K hm h1 h2 hn (chain_of (D := D) h3 (fun i hi => ?_) _ _ (fun i hi => ?_) ?_)
  · have := List.all_eq_true.1 h4 i hi
    simpa using this
  · unfold headL at hi
    rw [List.mem_filter, List.mem_range] at hi
    exact hi.1
  · rw [beq_iff_eq] at h5
    rw [h5]
    have := drop_range l m
    rw [show l.toArray.size = l.length from rfl, this]
    exact h _ rfl

section
variable {W : World} {a0 : Act} {T : Act → World → Prop} {hd r : List (Nat × Nat × Tmp × List (Tmp × Option Nat))} {t : Tmp} {sp : Nat → World → Value → Prop} {i : Nat} {rd : List (Tmp × Option Nat)} {o : Oper} {u : Value}

/-- One that yields u in whatever world. -/
theorem ch_pure (ho : ops[i]? = some o) (h : ∀ a w, RdL sp a0 a w rd → Yields P ops o u a) (h2 : Chain' P ops W a0 T hd r fun j => if j = i then Is u else sp j) : Chain' P ops W a0 T hd ((i, 0, t, rd) :: r) sp :=
  ⟨Is u, stable_is u, fun o' ho' a w _ hr => by
    have : o' = o := Option.some.inj (ho'.symm.trans ho)
    subst this
    rw [if_pos rfl]
    exact ⟨u, h a w hr, rfl⟩, h2⟩

/-- A move of a slot whose value is said by a predicate. -/
theorem ch_move {s : Tmp} {d : Nat} (g : World → Value → Prop) (hg : Stable g) (ho : ops[i]? = some o) (hgd : o.guard = none) (hop : o.op = .move (.tmp s) ∨ o.op = .assign (.tmp s)) (hsp : sp d = g) (h2 : Chain' P ops W a0 T hd r fun j => if j = i then g else sp j) : Chain' P ops W a0 T hd ((i, 0, t, (s, some d) :: rd) :: r) sp :=
  ⟨g, hg, fun o' ho' a w _ hr => by
    have : o' = o := Option.some.inj (ho'.symm.trans ho)
    subst this
    rw [if_pos rfl]
    refine ⟨a.eval (.tmp s), .inl ⟨by simp [Region.wanted, hgd], fun w => ?_⟩, hsp ▸ hr.1⟩
    rcases hop with hop | hop <;> simp [execOp, hop], h2⟩

/-- One that comes to u, whatever it makes. -/
theorem ch_def (ho : ops[i]? = some o) (hw : ∀ a w, RdL sp a0 a w rd → Region.wanted o (yielded ops a.tmps) = true) (h : ∀ a w, Below W.heap.size W w → RdL sp a0 a w rd → gives P o a w fun v w' => v = u ∧ Below w.heap.size w w')
    (h2 : Chain' P ops W a0 T hd r fun j => if j = i then Is u else sp j) : Chain' P ops W a0 T hd ((i, 1, t, rd) :: r) sp :=
  ⟨Is u, stable_is u, fun o' ho' a w hB hr => by
    have : o' = o := Option.some.inj (ho'.symm.trans ho)
    subst this
    rw [if_neg (by decide)]
    refine ⟨fun _ => ?_, fun h0 => absurd h0 (by rw [hw a w hr]; decide)⟩
    have := h a w hB hr
    unfold gives at *
    generalize (execOp a.eval o').run P w = r at *
    cases r with
    | ok n w' =>
      cases n with
      | value v => exact ⟨this.2, this.1⟩
      | skip => exact ⟨this.2, this.1⟩
      | enter f args => exact Calls.mono this fun e w'' ⟨v, he, hv, hb⟩ => ⟨v, he, hb, hv⟩
      | _ => exact this.elim
    | halt x w' => exact this.elim, h2⟩

/-- One whose value meets g. -/
theorem ch_rel (g : World → Value → Prop) (hg : Stable g) (ho : ops[i]? = some o) (hw : ∀ a w, RdL sp a0 a w rd → Region.wanted o (yielded ops a.tmps) = true) (h : ∀ a w, Below W.heap.size W w → RdL sp a0 a w rd → gives P o a w fun v w' => g w' v ∧ Below w.heap.size w w')
    (h2 : Chain' P ops W a0 T hd r fun j => if j = i then g else sp j) : Chain' P ops W a0 T hd ((i, 1, t, rd) :: r) sp :=
  ⟨g, hg, fun o' ho' a w hB hr => by
    have : o' = o := Option.some.inj (ho'.symm.trans ho)
    subst this
    rw [if_neg (by decide)]
    refine ⟨fun _ => ?_, fun h0 => absurd h0 (by rw [hw a w hr]; decide)⟩
    have := h a w hB hr
    unfold gives at *
    generalize (execOp a.eval o').run P w = r at *
    cases r with
    | ok n w' =>
      cases n with
      | value v => exact ⟨this.2, this.1⟩
      | skip => exact ⟨this.2, this.1⟩
      | enter f args => exact Calls.mono this fun e w'' ⟨v, he, hv, hb⟩ => ⟨v, he, hb, hv⟩
      | _ => exact this.elim
    | halt x w' => exact this.elim, h2⟩
end

/-- A slice over a new block, from N on. -/
def Row (N : Nat) (t : TypeId) (n : Nat) (cs : Array Value) : World → Value → Prop := fun w v => ∃ b, v = .slice (some ⟨b, 0, none⟩) n n ∧ N ≤ b ∧ w.heap[b]? = some (.cells cs t (0, 0))
theorem stable_row (N : Nat) (t : TypeId) (n : Nat) (cs : Array Value) : Stable (Row N t n cs) := fun _ _ _ hb ⟨b, hv, hn, hh⟩ => ⟨b, hv, hn, (hb.block b (Array.getElem?_eq_some_iff.1 hh).1).trans hh⟩
/-- A pointer to a new block, from N on. -/
def Box (N : Nat) (t : TypeId) (cs : Array Value) : World → Value → Prop := fun w v => ∃ b, v = .pointer (some ⟨b, 0, none⟩) ∧ N ≤ b ∧ w.heap[b]? = some (.cells cs t (0, 0))
theorem stable_box (N : Nat) (t : TypeId) (cs : Array Value) : Stable (Box N t cs) := fun _ _ _ hb ⟨b, hv, hn, hh⟩ => ⟨b, hv, hn, (hb.block b (Array.getElem?_eq_some_iff.1 hh).1).trans hh⟩

theorem wanted_none {o : Oper} {y : Nat → Option Bool} (h : o.guard = none) : Region.wanted o y = true := by simp [Region.wanted, h]
theorem wanted_some {o : Oper} {a : Act} {j s : Nat} {b : Bool} (h : o.guard = some (j, b)) (hd : dstOf ops j = some s) (he : a.eval (.tmp s) = .bool b) : Region.wanted o (yielded ops a.tmps) = true := by
  have h1 : a.tmps[s]? = some (.bool b) := by
    simp only [Act.eval, Array.getD_eq_getD_getElem?] at he
    cases hx : a.tmps[s]? with
    | none => rw [hx] at he; cases he
    | some v => rw [hx] at he; rw [Option.getD_some] at he; rw [he]
  unfold dstOf at hd
  simp [Region.wanted, h, yielded, hd, h1]
theorem wanted_not {o : Oper} {a : Act} {j s : Nat} {b c : Bool} (h : o.guard = some (j, b)) (hd : dstOf ops j = some s) (he : a.eval (.tmp s) = .bool c) (hc : c ≠ b) : Region.wanted o (yielded ops a.tmps) = false := by
  have h1 : a.tmps[s]? = some (.bool c) := by
    simp only [Act.eval, Array.getD_eq_getD_getElem?] at he
    cases hx : a.tmps[s]? with
    | none => rw [hx] at he; cases he
    | some v => rw [hx] at he; rw [Option.getD_some] at he; rw [he]
  unfold dstOf at hd
  simp [Region.wanted, h, yielded, hd, h1, hc]
theorem yields_run {o : Oper} {a : Act} {u : Value} (hw : Region.wanted o (yielded ops a.tmps) = true) (h : ∀ w, (execOp a.eval o).run P w = .ok (.value u) w) : Yields P ops o u a := .inl ⟨hw, h⟩
theorem yields_skip {o : Oper} {a : Act} (hw : Region.wanted o (yielded ops a.tmps) = false) : Yields P ops o undef a := .inr ⟨hw, rfl⟩
end
end Go.Proofs.YtpefomdegbmecaaDoor.Rg
/- Small laws for the walks: a call by its contract, what lies below a block number, a new block's facts. Conditions: none. -/
namespace Go.Proofs.YtpefomdegbmecaaDoor
set_option linter.unusedVariables false
set_option linter.unusedSimpArgs false
open Go Go.RowKit

theorem bcell {W w1 : World} (hb : Below W.heap.size W w1) : (∀ b o, b < W.heap.size → w1.cell? ⟨b, o, none⟩ = W.cell? ⟨b, o, none⟩) ∧ (∀ b o, b < W.heap.size → w1.frozen? ⟨b, o, none⟩ = W.frozen? ⟨b, o, none⟩) :=
  ⟨fun b o h => hb.cell (p := ⟨b, o, none⟩) h, fun b o h => hb.frozen (p := ⟨b, o, none⟩) h⟩

theorem enters {P : Program} {f : FuncId} {fn : Func} (hf : P.funcs[f]? = some fn) (hname : (fn.name == "runtime.NumGoroutine") = false) (hb : fn.body.isSome = true) (args : Array Value) (w : World) : (callFunc f args).run P w = .ok (.enter f args) w := by
  have h1 : fn.name ≠ "runtime.NumGoroutine" := by simpa using hname
  obtain ⟨c, hc⟩ := Option.isSome_iff_exists.1 hb
  simp [callFunc, hf, h1, hc]

theorem run_call {P : Program} {oi : Oper} {a : Act} {w : World} {f : FuncId} {fn : Func} {ags : Array Operand} {ts : Array TypeId} (hf : P.funcs[f]? = some fn) (hname : (fn.name == "runtime.NumGoroutine") = false) (hb : fn.body.isSome = true) (args : Array Value)
    (hop : oi.op = .call { callee := .value (.func f), args := ags, argTypes := ts }) (hargs : ags.map a.eval = args) : (execOp a.eval oi).run P w = .ok (.enter f args) w := by
  have he := enters hf hname hb args w
  unfold execOp
  simp [hop, resolve, Deferred.ofValue, invoke, Act.eval, hargs, he]

/-- A call in a region that draws, by its contract. -/
theorem Rg.gives_call {P : Program} {o : Oper} {a : Act} {w : World} {R : Value → World → Prop} {f : FuncId} {fn : Func} {ags : Array Operand} {ts : Array TypeId} (hf : P.funcs[f]? = some fn) (hname : (fn.name == "runtime.NumGoroutine") = false) (hb : fn.body.isSome = true) (args : Array Value)
    (hop : o.op = .call { callee := .value (.func f), args := ags, argTypes := ts }) (hargs : ags.map a.eval = args)
    (h : Calls P f args w fun e w' => ∃ v, e = .returned v ∧ R v w') : Rg.gives P o a w R :=
  Rg.gives_enter (run_call hf hname hb args hop hargs) h

/-- A call in a plain region, by its contract: an arm of go_wp2_with. -/
theorem list_call {P : Program} {ops : Array Oper} {Q : Exit → Act → World → Prop} {rest : List Oper} {oi : Oper} {a : Act} {w : World} (N : Option Tmp) (hd : oi.dst = N) (hg : oi.guard = none) {f : FuncId} {fn : Func} {ags : Array Operand} {ts : Array TypeId} (hf : P.funcs[f]? = some fn) (hname : (fn.name == "runtime.NumGoroutine") = false) (hb : fn.body.isSome = true) (args : Array Value)
    (hop : oi.op = .call { callee := .value (.func f), args := ags, argTypes := ts }) (hargs : ags.map a.eval = args)
    (h : Calls P f args w fun e w' => ∃ v, e = .returned v ∧ wpList P ops Q rest (a.put N v) w') : wpList P ops Q (oi :: rest) a w := by
  refine wpList_plain hg fun K hK => ?_
  have hrun : (execOp a.eval oi).run P w = .ok (.enter f args) w := run_call hf hname hb args hop hargs
  unfold Oper.wp
  rw [hrun, Oper.upon_enter]
  refine h.mono fun e w'' hh => ?_
  obtain ⟨v, rfl, hk⟩ := hh
  subst hd
  exact hK _ _ hk

theorem eval_const_ (a : Act) (v : Value) : a.eval (.const v) = v := rfl
theorem eval_global_ (a : Act) (g : Nat) : a.eval (.global g) = .pointer (some ⟨g, 0, none⟩) := rfl

/-- Four cells of a block. -/
theorem cells4 {w : World} {b : Nat} {c0 c1 c2 c3 : Value} {t : TypeId} {mk : Nat × Nat} (h : w.heap[b]? = some (.cells #[c0, c1, c2, c3] t mk)) :
    w.cell? ⟨b, 0, none⟩ = some c0 ∧ w.cell? ⟨b, 1, none⟩ = some c1 ∧ w.cell? ⟨b, 2, none⟩ = some c2 ∧ w.cell? ⟨b, 3, none⟩ = some c3 := by
  simp [World.cell?, h]
theorem heap_set {w : World} {b i : Nat} {cs : Array Value} {t : TypeId} {mk : Nat × Nat} (h : w.heap[b]? = some (.cells cs t mk)) (u : Value) : (w.setCell ⟨b, i, none⟩ u).heap[b]? = some (.cells (cs.setIfInBounds i u) t mk) := by
  simp [World.setCell, Array.getElem?_modify, h]
theorem heap_set_ne {w : World} {b : Nat} {a : Addr} {o : Obj} (h : w.heap[b]? = some o) (hne : b ≠ a.block) (u : Value) : (w.setCell a u).heap[b]? = some o := (Below.heap_setCell w a u b hne).trans h
theorem set4 {w : World} {b : Nat} {c0 c1 c2 c3 : Value} {t : TypeId} {mk : Nat × Nat} (h : w.heap[b]? = some (.cells #[c0, c1, c2, c3] t mk)) (u0 u1 u2 u3 : Value) :
    ((((w.setCell ⟨b, 0, none⟩ u0).setCell ⟨b, 1, none⟩ u1).setCell ⟨b, 2, none⟩ u2).setCell ⟨b, 3, none⟩ u3).heap[b]? = some (.cells #[u0, u1, u2, u3] t mk) := by
  have := heap_set (i := 3) (heap_set (i := 2) (heap_set (i := 1) (heap_set (i := 0) h u0) u1) u2) u3
  simpa using this
theorem cells8 {w : World} {b : Nat} {c0 c1 c2 c3 c4 c5 c6 c7 : Value} {t : TypeId} {mk : Nat × Nat} (h : w.heap[b]? = some (.cells #[c0, c1, c2, c3, c4, c5, c6, c7] t mk)) :
    w.cell? ⟨b, 0, none⟩ = some c0 ∧ w.cell? ⟨b, 1, none⟩ = some c1 ∧ w.cell? ⟨b, 2, none⟩ = some c2 ∧ w.cell? ⟨b, 3, none⟩ = some c3 ∧ w.cell? ⟨b, 4, none⟩ = some c4 ∧ w.cell? ⟨b, 5, none⟩ = some c5 ∧ w.cell? ⟨b, 6, none⟩ = some c6 ∧ w.cell? ⟨b, 7, none⟩ = some c7 := by
  simp [World.cell?, h]
theorem heap_five {w : World} {b i0 i1 i2 i3 i4 : Nat} {cs : Array Value} {t : TypeId} {mk : Nat × Nat} (h : w.heap[b]? = some (.cells cs t mk)) (u0 u1 u2 u3 u4 : Value) :
    (((((w.setCell ⟨b, i0, none⟩ u0).setCell ⟨b, i1, none⟩ u1).setCell ⟨b, i2, none⟩ u2).setCell ⟨b, i3, none⟩ u3).setCell ⟨b, i4, none⟩ u4).heap[b]? = some (.cells (((((cs.setIfInBounds i0 u0).setIfInBounds i1 u1).setIfInBounds i2 u2).setIfInBounds i3 u3).setIfInBounds i4 u4) t mk) :=
  heap_set (heap_set (heap_set (heap_set (heap_set h u0) u1) u2) u3) u4
theorem heap_five' {w : World} {b i0 i1 i2 i3 i4 : Nat} {cs cs' : Array Value} {t : TypeId} {mk : Nat × Nat} {u0 u1 u2 u3 u4 : Value} (h : w.heap[b]? = some (.cells cs t mk)) (hc : ((((cs.setIfInBounds i0 u0).setIfInBounds i1 u1).setIfInBounds i2 u2).setIfInBounds i3 u3).setIfInBounds i4 u4 = cs') :
    (((((w.setCell ⟨b, i0, none⟩ u0).setCell ⟨b, i1, none⟩ u1).setCell ⟨b, i2, none⟩ u2).setCell ⟨b, i3, none⟩ u3).setCell ⟨b, i4, none⟩ u4).heap[b]? = some (.cells cs' t mk) := by
  subst hc; exact heap_five h u0 u1 u2 u3 u4
theorem heap_eight {w : World} {b : Nat} {c0 c1 c2 c3 c4 c5 c6 c7 : Value} {t : TypeId} {mk : Nat × Nat} (h : w.heap[b]? = some (.cells #[c0, c1, c2, c3, c4, c5, c6, c7] t mk)) (u0 u1 u2 u3 u4 u5 u6 u7 : Value) :
    ((((((((w.setCell ⟨b, 0, none⟩ u0).setCell ⟨b, 1, none⟩ u1).setCell ⟨b, 2, none⟩ u2).setCell ⟨b, 3, none⟩ u3).setCell ⟨b, 4, none⟩ u4).setCell ⟨b, 5, none⟩ u5).setCell ⟨b, 6, none⟩ u6).setCell ⟨b, 7, none⟩ u7).heap[b]? = some (.cells #[u0, u1, u2, u3, u4, u5, u6, u7] t mk) := by
  have := heap_set (i := 7) (heap_set (i := 6) (heap_set (i := 5) (heap_set (i := 4) (heap_set (i := 3) (heap_set (i := 2) (heap_set (i := 1) (heap_set (i := 0) h u0) u1) u2) u3) u4) u5) u6) u7
  simpa using this
theorem keep4 {w : World} {b b' : Nat} {o : Obj} (h : w.heap[b]? = some o) (hne : b ≠ b') (u0 u1 u2 u3 : Value) :
    ((((w.setCell ⟨b', 0, none⟩ u0).setCell ⟨b', 1, none⟩ u1).setCell ⟨b', 2, none⟩ u2).setCell ⟨b', 3, none⟩ u3).heap[b]? = some o :=
  heap_set_ne (heap_set_ne (heap_set_ne (heap_set_ne h hne _) hne _) hne _) hne _
theorem set4_below {N : Nat} {a w : World} {b : Nat} (h : Below N a w) (hb : N ≤ b) (u0 u1 u2 u3 : Value) :
    Below N a ((((w.setCell ⟨b, 0, none⟩ u0).setCell ⟨b, 1, none⟩ u1).setCell ⟨b, 2, none⟩ u2).setCell ⟨b, 3, none⟩ u3) :=
  (((h.setCell hb _).setCell hb _).setCell hb _).setCell hb _
theorem size4 {w : World} {b : Nat} {u0 u1 u2 u3 : Value} : ((((w.setCell ⟨b, 0, none⟩ u0).setCell ⟨b, 1, none⟩ u1).setCell ⟨b, 2, none⟩ u2).setCell ⟨b, 3, none⟩ u3).heap.size = w.heap.size := by simp [World.setCell]
theorem frozen_of {w : World} {b : Nat} {cs : Array Value} {t : TypeId} (h : w.heap[b]? = some (.cells cs t (0, 0))) : ∀ i, w.frozen? ⟨b, i, none⟩ = false := by
  intro i; simp [World.frozen?, h]
theorem lt_of_heap {w : World} {b : Nat} {o : Obj} (h : w.heap[b]? = some o) : b < w.heap.size := (Array.getElem?_eq_some_iff.1 h).1
theorem heap_keep {N : Nat} {w w1 : World} {b : Nat} {o : Obj} (hb : Below N w w1) (hlt : b < N) (h : w.heap[b]? = some o) : w1.heap[b]? = some o := (hb.block b hlt).trans h
theorem heap_keep' {w w1 : World} {b : Nat} {o : Obj} (hb : Below w.heap.size w w1) (h : w.heap[b]? = some o) : w1.heap[b]? = some o := heap_keep hb (lt_of_heap h) h
theorem heap_drew {w : World} {b : Nat} {o : Obj} (h : w.heap[b]? = some o) : w.drew.heap[b]? = some o := h
theorem heap_new (w : World) (o : Obj) : (w.alloc o).heap[w.heap.size]? = some o := heap_alloc_new w o
theorem heap_new' {w : World} {n : Nat} (h : w.heap.size = n) (o : Obj) : (w.alloc o).heap[n]? = some o := h ▸ heap_new w o
theorem heap_old {w : World} {b : Nat} {o : Obj} (h : w.heap[b]? = some o) (o' : Obj) : (w.alloc o').heap[b]? = some o := (Below.heap_alloc w o' b (lt_of_heap h)).trans h
theorem below_drew' {N : Nat} {w w1 : World} (h : Below N w.drew w1) : Below N w w1 := ⟨h.os, h.tape, h.output, h.size, h.block⟩

theorem eq_loop {P : Program} (w : World) (d : Nat) (e : TypeId) (k : IntKind) (xs ys : List Int) (he : P.underlying e = some (.int k)) (hpk : P.plainKey e = true) (hxy : xs.length = ys.length) :
    ∀ (m s : Nat), s + m = xs.length → (forIn (List.range' s m) ((none, ()) : Option Bool × Unit) fun i __s => (do
              let __do_lift ← part e (List.map (Value.int k) xs).toArray (i * 1)
              let __do_lift_1 ← part e (List.map (Value.int k) ys).toArray (i * 1)
              let __do_lift ← Op.equalIn (d + 1) e __do_lift __do_lift_1
              if (!__do_lift) = true then pure (ForInStep.done (some false, ())) else pure (ForInStep.yield (none, ())) : Sem (ForInStep (Option Bool × Unit)))).run P w = .ok (if xs.drop s == ys.drop s then none else some false, ()) w := by
  intro m
  induction m with
  | zero =>
    intro s hs
    have h1 : xs.drop s = [] := List.drop_eq_nil_of_le (by omega)
    have h2 : ys.drop s = [] := List.drop_eq_nil_of_le (by omega)
    simp [h1, h2]
  | succ m ih =>
    intro s hs
    have hx : (List.map (Value.int k) xs).toArray[s * 1]? = some (.int k (xs[s]'(by omega))) := by simp [show s < xs.length by omega]
    have hy : (List.map (Value.int k) ys).toArray[s * 1]? = some (.int k (ys[s]'(by omega))) := by simp [show s < ys.length by omega]
    have hih := ih (s + 1) (by omega)
    rw [List.range'_succ, List.forIn_cons]
    simp only [Sem.run_bind, run_part_plain w hpk hx, run_part_plain w hpk hy, Result.andThen_ok, run_equalIn_int w d e k k _ _ he]
    rw [show xs.drop s = xs[s]'(by omega) :: xs.drop (s + 1) from (List.drop_eq_getElem_cons (by omega)), show ys.drop s = ys[s]'(by omega) :: ys.drop (s + 1) from (List.drop_eq_getElem_cons (by omega))]
    by_cases h : xs[s]'(by omega) = ys[s]'(by omega)
    · simp only [h, beq_self_eq_true, Bool.not_true, Bool.false_eq_true, if_false, Sem.run_pure, Result.andThen_ok, List.cons_beq_cons, Bool.true_and]
      exact hih
    · have hb : (xs[s]'(by omega) == ys[s]'(by omega)) = false := by simpa using h
      simp only [hb, Bool.not_false, if_true, Sem.run_pure, Result.andThen_ok, List.cons_beq_cons, Bool.false_and]
      rfl
theorem eq_arr {P : Program} (w : World) (d : Nat) (t e : TypeId) (n : Nat) (k : IntKind) (xs ys : List Int) (ht : P.underlying t = some (.array n e)) (he : P.underlying e = some (.int k)) (hpk : P.plainKey e = true) {i : TypeInfo} (hi : P.info? e = some i) (hs : i.size = 1)
   (hx : xs.length = n) (hy : ys.length = n) : (Op.equalIn (d + 2) t (.agg (xs.map (Value.int k)).toArray) (.agg (ys.map (Value.int k)).toArray)).run P w = .ok (xs == ys) w := by
  have hl := eq_loop w d e k xs ys he hpk (hx.trans hy.symm) n 0 (by omega)
  unfold Op.equalIn
  simp only [Sem.run_bind, run_underlying ht, Result.andThen_ok]
  simp only [sizeOf, typeInfo, Sem.run_bind, run_program, Result.andThen_ok, hi, Sem.run_pure, hs]
  simp only [Std.Legacy.Range.forIn_eq_forIn_range']
  have hsz : ([:n] : Std.Legacy.Range).size = n := by simp [Std.Legacy.Range.size]
  have e0 : ([:n] : Std.Legacy.Range).start = 0 := rfl
  have e1 : ([:n] : Std.Legacy.Range).step = 1 := rfl
  rw [hsz]
  erw [hl]
  simp only [Result.andThen_ok, List.drop_zero]
  by_cases h : xs = ys
  · simp [h]
  · have hb : (xs == ys) = false := by simpa using h
    simp [hb]

/-- Two lists of numbers, held against each other: behind a name, so that no walk opens it. -/
def eqL (xs ys : List Int) : Bool := xs == ys
theorem eqL_iff {xs ys : List Int} : eqL xs ys = true ↔ xs = ys := by unfold eqL; exact beq_iff_eq
theorem eqL_refl (xs : List Int) : eqL xs xs = true := eqL_iff.2 rfl
theorem run_eql_arr {P : Program} (w : World) (t e : TypeId) (n : Nat) (k : IntKind) (xs ys : List Int) (ht : P.underlying t = some (.array n e)) (he : P.underlying e = some (.int k)) (hpk : P.plainKey e = true) {i : TypeInfo} (hi : P.info? e = some i) (hs : i.size = 1)
   (hx : xs.length = n) (hy : ys.length = n) : (binOp .eql t (.agg (xs.map (Value.int k)).toArray) (.agg (ys.map (Value.int k)).toArray)).run P w = .ok (.bool (eqL xs ys)) w := by
  rw [run_eql_struct, eq_arr w 9998 t e n k xs ys ht he hpk hi hs hx hy]
  rfl
theorem run_neq_arr {P : Program} (w : World) (t e : TypeId) (n : Nat) (k : IntKind) (xs ys : List Int) (ht : P.underlying t = some (.array n e)) (he : P.underlying e = some (.int k)) (hpk : P.plainKey e = true) {i : TypeInfo} (hi : P.info? e = some i) (hs : i.size = 1)
   (hx : xs.length = n) (hy : ys.length = n) : (binOp .neq t (.agg (xs.map (Value.int k)).toArray) (.agg (ys.map (Value.int k)).toArray)).run P w = .ok (.bool (!eqL xs ys)) w := by
  rw [run_neq_struct, eq_arr w 9998 t e n k xs ys ht he hpk hi hs hx hy]
  rfl
theorem below_wdrew {N : Nat} {w wr W : World} (h : Below N w wr) (hW : W = wr.drew) : Below N w W := by subst hW; exact h.drew
theorem below_call {N : Nat} {w W w1 : World} (h : Below N w W) (hN : N ≤ W.heap.size) (hb : Below W.heap.size W w1) : Below N w w1 := h.trans (hb.mono hN)

end Go.Proofs.YtpefomdegbmecaaDoor
/- An abstract machine for walks: values, blocks, worlds as it knows them, and what they say of the program's own. Conditions: none. -/
namespace Go.Proofs.YtpefomdegbmecaaDoor.Am
set_option linter.unusedVariables false
set_option linter.unusedSimpArgs false
open Go Go.RowKit

/-- word j of a number -/
def word (n j : Nat) : Int := ((n / 18446744073709551616 ^ j % 18446744073709551616 : Nat) : Int)
def words (n : Nat) : List Int := [word n 0, word n 1, word n 2, word n 3]

/-- One cell or more: a value as it is; a number of four words; an array of numbers; one that is a function's value; cells of which nothing more is known; a pointer into a block; a slice of a block with a capacity of its own; a slice of a row (the capacity is the row's); a map. -/
inductive Seg where
  | v (x : Value)
  | num (n : Nat)
  | arr (k : IntKind) (l : List Int)
  | ap (k : IntKind) (F : Nat → List Int) (n : Nat)
  | vs (l : List Value)
  | p (id off : Nat)
  | s (id off len cap : Nat)
  | r (id off len ad : Nat)
  | m (id : Nat)
inductive AV where
  | one (s : Seg)
  | agg (l : List Seg)
inductive SV where
  | av (a : AV)
  | tup (l : List AV)

/-- Where a block lies, and how much room there is. -/
structure Loc where
  a : Option Addr
  cap : Nat

def radr (c : Loc) (off ad : Nat) : Option Addr := c.a.map (·.add (if c.cap = off then ad else off))
def Seg.conc (ρ : Nat → Loc) : Seg → Value
  | .v x => x
  | .num n => .agg ((words n).map (Value.int .u64)).toArray
  | .arr k l => .agg (l.map (Value.int k)).toArray
  | .ap k F n => .agg ((F n).map (Value.int k)).toArray
  | .vs l => .agg l.toArray
  | .p id off => .pointer ((ρ id).a.map (·.add off))
  | .s id off len cap => .slice ((ρ id).a.map (·.add off)) len cap
  | .r id off len ad => .slice (radr (ρ id) off ad) len ((ρ id).cap - off)
  | .m id => .map ((ρ id).a.map Addr.block)
def Seg.vals (ρ : Nat → Loc) : Seg → List Value
  | .num n => (words n).map (Value.int .u64)
  | .arr k l => l.map (Value.int k)
  | .ap k F n => (F n).map (Value.int k)
  | .vs l => l
  | x => [x.conc ρ]
def segsVals (ρ : Nat → Loc) (l : List Seg) : List Value := l.flatMap (Seg.vals ρ)
def AV.segs : AV → List Seg
  | .one s => [s]
  | .agg l => l
def AV.conc (ρ : Nat → Loc) : AV → Value
  | .one s => s.conc ρ
  | .agg l => .agg (segsVals ρ l).toArray
def SV.conc (ρ : Nat → Loc) : SV → Value
  | .av a => a.conc ρ
  | .tup l => .tuple (l.map (AV.conc ρ)).toArray

/-- Is a value one cell? -/
def cellB : Value → Bool
  | .agg _ => false
  | .tuple _ => false
  | _ => true
def Seg.ok : Seg → Bool
  | .v x => cellB x
  | .vs l => l.all cellB
  | _ => true
def segsOk (l : List Seg) : Bool := l.all Seg.ok

/-- The maps that are known by their number. -/
def mapTab : Nat → List (List Int × Int)
  | 0 => [([3, 1], 32), ([4, 1], 32), ([4, 2], 64), ([4, 3], 32)]
  | _ => []
def MapIs (tab : List (List Int × Int)) (es : List MapEntry) : Prop := ∃ tab' : List (List Int × Int), tab'.Perm tab ∧ es.map (fun e => (e.key, e.val)) = tab'.map fun x => (Value.agg (x.1.map (Value.int .i64)).toArray, Value.int .i64 x.2)
/-- A block: kind 0: the call's own, whole; 1: a row of the call's own that may grow; 2: to be read; from 3 on: a map that is known. -/
structure Blk where
  k : Nat
  ty : TypeId
  c : List Seg

def BlkOK (ρ : Nat → Loc) (w : World) (id : Nat) (b : Blk) : Prop :=
  match b.k with
  | 0 => ∃ g, (ρ id).a = some ⟨g, 0, none⟩ ∧ w.heap[g]? = some (.cells (segsVals ρ b.c).toArray b.ty (0, 0))
  | 1 => w.ownsRow 0 b.ty 1 (.slice (ρ id).a (segsVals ρ b.c).length (ρ id).cap) (segsVals ρ b.c).length (segsVals ρ b.c)
  | 2 => (segsVals ρ b.c).length ≤ (ρ id).cap ∧ (segsVals ρ b.c = [] ∨ ∃ x, (ρ id).a = some x ∧ ∀ j u, (segsVals ρ b.c)[j]? = some u → w.cell? (x.add j) = some u)
  | k + 3 => segsVals ρ b.c = [] ∧ ∃ g es clk, (ρ id).a = some ⟨g, 0, none⟩ ∧ w.heap[g]? = some (.map es clk) ∧ MapIs (mapTab k) es.toList
theorem BlkOK.low {ρ : Nat → Loc} {w : World} {id : Nat} {k : Nat} {ty : TypeId} {c : List Seg} (h : BlkOK ρ w id ⟨k + 2, ty, c⟩) : (segsVals ρ c).length ≤ (ρ id).cap ∧ (segsVals ρ c = [] ∨ ∃ x, (ρ id).a = some x ∧ ∀ j u, (segsVals ρ c)[j]? = some u → w.cell? (x.add j) = some u) := by
  match k, h with
  | 0, h => exact h
  | k + 1, h => exact ⟨by rw [h.1]; exact Nat.zero_le _, .inl h.1⟩

def Seg.In (D : Nat → Prop) : Seg → Prop
  | .p id _ => D id
  | .s id _ _ _ => D id
  | .r id _ _ _ => D id
  | .m id => D id
  | _ => True
def segsIn (D : Nat → Prop) (l : List Seg) : Prop := ∀ s ∈ l, s.In D
def AV.In (D : Nat → Prop) (a : AV) : Prop := segsIn D a.segs
def SV.In (D : Nat → Prop) : SV → Prop
  | .av a => a.In D
  | .tup l => ∀ a ∈ l, a.In D

theorem Seg.conc_congr {ρ ρ' : Nat → Loc} {D : Nat → Prop} (h : ∀ id, D id → ρ' id = ρ id) : ∀ {s : Seg}, s.In D → s.conc ρ' = s.conc ρ
  | .v _, _ | .num _, _ | .arr _ _, _ | .ap _ _ _, _ | .vs _, _ => rfl
  | .p id _, hs | .s id _ _ _, hs | .r id _ _ _, hs | .m id, hs => by
    have := h id hs
    simp [Seg.conc, this]
theorem Seg.vals_congr {ρ ρ' : Nat → Loc} {D : Nat → Prop} (h : ∀ id, D id → ρ' id = ρ id) {s : Seg} (hs : s.In D) : s.vals ρ' = s.vals ρ := by
  have := Seg.conc_congr h hs
  cases s <;> simp [Seg.vals, this]
theorem segsVals_congr {ρ ρ' : Nat → Loc} {D : Nat → Prop} (h : ∀ id, D id → ρ' id = ρ id) {l : List Seg} (hs : segsIn D l) : segsVals ρ' l = segsVals ρ l := by
  induction l with
  | nil => rfl
  | cons x l ih =>
    simp only [segsVals, List.flatMap_cons] at ih ⊢
    rw [Seg.vals_congr h (hs x (by simp)), ih fun s hs' => hs s (by simp [hs'])]
theorem AV.conc_congr {ρ ρ' : Nat → Loc} {D : Nat → Prop} (h : ∀ id, D id → ρ' id = ρ id) {a : AV} (hs : a.In D) : a.conc ρ' = a.conc ρ := by
  cases a with
  | one s => exact Seg.conc_congr h (hs s (by simp [AV.segs]))
  | agg l => simp only [AV.conc, segsVals_congr h (show segsIn D l from hs)]
theorem SV.conc_congr {ρ ρ' : Nat → Loc} {D : Nat → Prop} (h : ∀ id, D id → ρ' id = ρ id) {a : SV} (hs : a.In D) : a.conc ρ' = a.conc ρ := by
  cases a with
  | av a => exact AV.conc_congr h hs
  | tup l =>
    simp only [SV.conc]
    congr 2
    exact List.map_congr_left fun a ha => AV.conc_congr h (hs a ha)

theorem Seg.In.mono {D D' : Nat → Prop} (h : ∀ id, D id → D' id) : ∀ {s : Seg}, s.In D → s.In D'
  | .v _, _ | .num _, _ | .arr _ _, _ | .ap _ _ _, _ | .vs _, _ => trivial
  | .p id _, hs | .s id _ _ _, hs | .r id _ _ _, hs | .m id, hs => h id hs
theorem segsIn.mono {D D' : Nat → Prop} (h : ∀ id, D id → D' id) {l : List Seg} (hs : segsIn D l) : segsIn D' l := fun s hm => (hs s hm).mono h
theorem AV.In.mono {D D' : Nat → Prop} (h : ∀ id, D id → D' id) {a : AV} (hs : a.In D) : a.In D' := segsIn.mono h hs
theorem SV.In.mono {D D' : Nat → Prop} (h : ∀ id, D id → D' id) {a : SV} (hs : a.In D) : a.In D' := by
  cases a with
  | av a => exact AV.In.mono h hs
  | tup l => exact fun a ha => (hs a ha).mono h

theorem BlkOK.congr {ρ ρ' : Nat → Loc} {D : Nat → Prop} (h : ∀ id, D id → ρ' id = ρ id) {w : World} {id : Nat} {b : Blk} (hid : D id) (hs : segsIn D b.c) (hb : BlkOK ρ w id b) : BlkOK ρ' w id b := by
  unfold BlkOK at *
  rw [segsVals_congr h hs, h id hid]
  exact hb

/-- What has become of the world: below N, but for blocks of M, it is as it was. -/
structure Kept (N : Nat) (M : List Nat) (w w' : World) : Prop where
  os : w'.os = w.os
  tape : w'.tape = w.tape
  output : w'.output = w.output
  size : w.heap.size ≤ w'.heap.size
  block : ∀ k, k < N → k ∉ M → w'.heap[k]? = w.heap[k]?
theorem Kept.refl (N : Nat) (M : List Nat) (w : World) : Kept N M w w := ⟨rfl, rfl, rfl, Nat.le_refl _, fun _ _ _ => rfl⟩
theorem Kept.trans {N : Nat} {M : List Nat} {a b c : World} (h : Kept N M a b) (k : Kept N M b c) : Kept N M a c :=
  ⟨k.os.trans h.os, k.tape.trans h.tape, k.output.trans h.output, Nat.le_trans h.size k.size, fun i hi hm => (k.block i hi hm).trans (h.block i hi hm)⟩
theorem Kept.below {N : Nat} {w w' : World} (h : Kept N [] w w') : Below N w w' := ⟨h.os, h.tape, h.output, h.size, fun k hk => h.block k hk (by simp)⟩
theorem Kept.of_below {N : Nat} {M : List Nat} {w w' : World} (h : Below N w w') : Kept N M w w' := ⟨h.os, h.tape, h.output, h.size, fun k hk _ => h.block k hk⟩
theorem Kept.mono {N N' : Nat} {M M' : List Nat} {w w' : World} (h : Kept N M w w') (hN : N' ≤ N) (hM : ∀ x, x ∈ M → x ∈ M') : Kept N' M' w w' :=
  ⟨h.os, h.tape, h.output, h.size, fun k hk hm => h.block k (by omega) fun hx => hm (hM k hx)⟩

/-- The package's variables whose contents are known. -/
class GT where
  tab : List (Nat × List Value)
def GWok [GT] (N : Nat) (M : List Nat) (w : World) : Prop := ∀ x, x ∈ GT.tab → x.1 < N ∧ x.1 ∉ M ∧ ∃ cs ty mk, w.heap[x.1]? = some (.cells cs ty mk) ∧ cs.toList = x.2
theorem GWok.kept [GT] {N : Nat} {M : List Nat} {w w' : World} (h : GWok N M w) (hk : Kept N M w w') : GWok N M w' := fun x hx => by
  obtain ⟨h1, h2, cs, ty, mk, h3, h4⟩ := h x hx
  exact ⟨h1, h2, cs, ty, mk, (hk.block x.1 h1 h2).trans h3, h4⟩
theorem GWok.call [GT] {N : Nat} {M M' : List Nat} {w : World} (h : GWok N M w) (hN : N ≤ w.heap.size) (hM : ∀ g, g ∈ M' → N ≤ g ∨ g ∈ M) : GWok w.heap.size M' w := fun x hx => by
  obtain ⟨h1, h2, h3⟩ := h x hx
  refine ⟨by omega, fun hg => ?_, h3⟩
  rcases hM x.1 hg with h | h
  · omega
  · exact h2 h

/-- What is known of the blocks. -/
structure HR [GT] (ρ : Nat → Loc) (D : Nat → Prop) (N : Nat) (M : List Nat) (G : Nat → Option Blk) (w : World) : Prop where
  size : N ≤ w.heap.size
  blk : ∀ id b, G id = some b → D id ∧ segsIn D b.c ∧ BlkOK ρ w id b
  lt : ∀ id b x, G id = some b → (ρ id).a = some x → x.block < w.heap.size
  own : ∀ id b x, G id = some b → b.k < 2 → (ρ id).a = some x → N ≤ x.block ∨ x.block ∈ M
  dist : ∀ i j bi bj x y, G i = some bi → G j = some bj → i ≠ j → bi.k < 2 → (ρ i).a = some x → (ρ j).a = some y → x.block ≠ y.block
  gw : GWok N M w

theorem HR.gwc [GT] {ρ : Nat → Loc} {D : Nat → Prop} {N : Nat} {M : List Nat} {G : Nat → Option Blk} {w : World} (h : HR ρ D N M G w) : GWok w.heap.size [] w := h.gw.call h.size fun g hg => by cases hg
theorem HR.weaken [GT] {ρ : Nat → Loc} {D : Nat → Prop} {N : Nat} {M : List Nat} {G G' : Nat → Option Blk} {w : World} (h : HR ρ D N M G w) (hG : ∀ id b, G' id = some b → G id = some b) : HR ρ D N M G' w :=
  ⟨h.size, fun id b hb => h.blk id b (hG id b hb), fun id b x hb => h.lt id b x (hG id b hb), fun id b x hb => h.own id b x (hG id b hb), fun i j bi bj x y hi hj => h.dist i j bi bj x y (hG i bi hi) (hG j bj hj), h.gw⟩

/-- A block that is known stays as it was while other blocks change. -/
theorem BlkOK.stays {ρ : Nat → Loc} {w w' : World} {id : Nat} {b : Blk} (h : BlkOK ρ w id b) (hw : ∀ x, (ρ id).a = some x → w'.heap[x.block]? = w.heap[x.block]?) : BlkOK ρ w' id b := by
  obtain ⟨k, ty, c⟩ := b
  unfold BlkOK at *
  match k, h with
  | 0, h =>
    obtain ⟨g, ha, hg⟩ := h
    exact ⟨g, ha, (hw _ ha).trans hg⟩
  | 1, h =>
    refine ⟨h.1, ?_⟩
    rcases h.2 with h2 | ⟨g, cap, cur, hv, hb, hg, hr⟩
    · exact .inl h2
    · refine .inr ⟨g, cap, cur, hv, hb, ?_, hr⟩
      injection hv with hv _ _
      exact (hw _ hv).trans hg
  | k + 3, h =>
    obtain ⟨h1, g, es, clk, h2, h3, h4⟩ := h
    exact ⟨h1, g, es, clk, h2, (hw _ h2).trans h3, h4⟩
  | 2, h =>
    refine ⟨h.1, ?_⟩
    rcases h.2 with h2 | ⟨x, hx, hc⟩
    · exact .inl h2
    · refine .inr ⟨x, hx, fun j u hj => ?_⟩
      have h1 := hc j u hj
      rw [← h1]
      refine World.cell?_of_block (w := w) ?_
      have : (x.add j).block = x.block := by unfold Addr.add; split <;> rfl
      rw [this]
      exact hw _ hx

/-- Behind a step that changes, of the blocks that are known, none but those in U, and makes those at new names. -/
theorem HR.step [GT] {ρ ρ' : Nat → Loc} {D D' : Nat → Prop} {N : Nat} {M : List Nat} {G G' : Nat → Option Blk} {w w' : World} {U : Nat → Prop} (h : HR ρ D N M G w)
    (hρ : ∀ id, D id → ρ' id = ρ id) (hD : ∀ id, D id → D' id) (hkp : Kept N M w w')
    (hold : ∀ id b, G' id = some b → ¬ U id → G id = some b)
    (hst : ∀ id b x, G' id = some b → ¬ U id → (ρ id).a = some x → w'.heap[x.block]? = w.heap[x.block]?)
    (hnew : ∀ id b, G' id = some b → U id → D' id ∧ segsIn D' b.c ∧ BlkOK ρ' w' id b)
    (hlt : ∀ id b x, G' id = some b → U id → (ρ' id).a = some x → x.block < w'.heap.size)
    (hown : ∀ id b x, G' id = some b → U id → b.k < 2 → (ρ' id).a = some x → N ≤ x.block ∨ x.block ∈ M)
    (hdist : ∀ i j bi bj x y, G' i = some bi → G' j = some bj → i ≠ j → (U i ∨ U j) → bi.k < 2 → (ρ' i).a = some x → (ρ' j).a = some y → x.block ≠ y.block) : HR ρ' D' N M G' w' := by
  have hsz := hkp.size
  refine ⟨Nat.le_trans h.size hsz, fun id b hb => ?_, fun id b x hb hx => ?_, fun id b x hb hk hx => ?_, fun i j bi bj x y hi hj hij hk hx hy => ?_, h.gw.kept hkp⟩
  · by_cases hU : U id
    · exact hnew id b hb hU
    · obtain ⟨h1, h2, h3⟩ := h.blk id b (hold id b hb hU)
      exact ⟨hD id h1, h2.mono hD, (BlkOK.congr hρ h1 h2 (h3.stays (hst id b · hb hU)))⟩
  · by_cases hU : U id
    · exact hlt id b x hb hU hx
    · have h1 := hold id b hb hU
      rw [hρ id (h.blk id b h1).1] at hx
      exact Nat.lt_of_lt_of_le (h.lt id b x h1 hx) hsz
  · by_cases hU : U id
    · exact hown id b x hb hU hk hx
    · have h1 := hold id b hb hU
      rw [hρ id (h.blk id b h1).1] at hx
      exact h.own id b x h1 hk hx
  · by_cases hU : U i ∨ U j
    · exact hdist i j bi bj x y hi hj hij hU hk hx hy
    · rw [not_or] at hU
      have h1 := hold i bi hi hU.1
      have h2 := hold j bj hj hU.2
      rw [hρ i (h.blk i bi h1).1] at hx
      rw [hρ j (h.blk j bj h2).1] at hy
      exact h.dist i j bi bj x y h1 h2 hij hk hx hy

end Go.Proofs.YtpefomdegbmecaaDoor.Am
