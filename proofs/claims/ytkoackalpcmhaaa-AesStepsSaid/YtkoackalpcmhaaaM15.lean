/- The abstract machine: a region in the order of the text, operation by operation. Conditions: none. -/
import Derived.Test.YtkoackalpcmhaaaM14
namespace Go.Proofs.Ytkoackalpcmhaaa.Am
set_option linter.unusedVariables false
set_option linter.unusedSimpArgs false
open Go Go.RowKit
open Rg (gives)

def dropH (id : Nat) : List (Nat × Blk) → List (Nat × Blk)
  | [] => []
  | (k, b) :: l => match Nat.beq k id with
    | true => dropH id l
    | false => (k, b) :: dropH id l
def putH (hp : List (Nat × Blk)) (id : Nat) : Option Blk → List (Nat × Blk)
  | none => dropH id hp
  | some b => (id, b) :: dropH id hp
def updH (hp : List (Nat × Blk)) : List (Nat × Option Blk) → List (Nat × Blk)
  | [] => hp
  | (id, b) :: l => putH (updH hp l) id b
def newH (hp : List (Nat × Blk)) (base : Nat) : List Blk → List (Nat × Blk)
  | [] => hp
  | b :: l => (base, b) :: newH hp (base + 1) l
theorem look_cons {α : Type} (k : Nat) (x : α) (l : List (Nat × α)) (n : Nat) : look ((k, x) :: l) n = if k = n then some x else look l n := by
  show (match Nat.beq k n with | true => some x | false => look l n) = _
  cases hq : Nat.beq k n with
  | true => rw [if_pos (Nat.eq_of_beq_eq_true hq)]
  | false => rw [if_neg fun e => by rw [e, Nat.beq_refl] at hq; cases hq]
theorem look_dropH (id : Nat) : ∀ (hp : List (Nat × Blk)) (i : Nat), look (dropH id hp) i = if id = i then none else look hp i
  | [], i => by simp [dropH, look]
  | (k, b) :: l, i => by
    rw [look_cons]
    unfold dropH
    split
    · rename_i hk
      have := Nat.eq_of_beq_eq_true hk
      subst this
      rw [look_dropH k l i]
      by_cases h : k = i
      · rw [if_pos h, if_pos h]
      · rw [if_neg h, if_neg h, if_neg h]
    · rename_i hk
      have hne : k ≠ id := fun e => by rw [e, Nat.beq_refl] at hk; cases hk
      rw [look_cons, look_dropH id l i]
      by_cases h : k = i
      · subst h
        rw [if_pos rfl, if_neg (fun e => hne e.symm), if_pos rfl]
      · rw [if_neg h, if_neg h]
theorem look_putH (hp : List (Nat × Blk)) (id : Nat) (b : Option Blk) (i : Nat) : look (putH hp id b) i = if id = i then b else look hp i := by
  cases b with
  | none => exact look_dropH id hp i
  | some b =>
    simp only [putH]
    rw [look_cons, look_dropH]
    by_cases h : id = i
    · rw [if_pos h, if_pos h]
    · rw [if_neg h, if_neg h, if_neg h]
theorem look_updH (hp : List (Nat × Blk)) : ∀ (u : List (Nat × Option Blk)) (i : Nat), look (updH hp u) i = (look u i).getD (look hp i)
  | [], i => rfl
  | (id, b) :: l, i => by
    simp only [updH]
    rw [look_putH, look_cons, look_updH hp l i]
    by_cases h : id = i
    · rw [if_pos h, if_pos h]; rfl
    · rw [if_neg h, if_neg h]
theorem look_newH (hp : List (Nat × Blk)) : ∀ (l : List Blk) (base i : Nat), look (newH hp base l) i = if base ≤ i ∧ i < base + l.length then l[i - base]? else look hp i
  | [], base, i => by
    simp only [newH, List.length_nil]
    by_cases h : base ≤ i ∧ i < base + 0
    · omega
    · rw [if_neg h]
  | b :: l, base, i => by
    simp only [newH]
    rw [look_cons, look_newH hp l (base + 1) i, List.length_cons]
    by_cases h0 : base = i
    · subst h0
      rw [if_pos rfl, if_pos (by omega)]
      simp
    · rw [if_neg h0]
      by_cases h : base + 1 ≤ i ∧ i < base + 1 + l.length
      · rw [if_pos h, if_pos (by omega)]
        rw [show i - base = (i - (base + 1)) + 1 by omega, List.getElem?_cons_succ]
      · rw [if_neg h, if_neg (by omega)]
/-- The blocks behind a step. -/
def stepH (hp : List (Nat × Blk)) (base : Nat) (r : Res) : List (Nat × Blk) := updH (newH hp base r.new) r.upd
theorem look_stepH (hp : List (Nat × Blk)) (base : Nat) (r : Res) : look (stepH hp base r) = appl (look hp) base r := by
  funext i
  unfold stepH appl
  rw [look_updH, look_newH]
  cases look r.upd i <;> rfl
def St.step (s : St) (dst : Option Tmp) (r : Res) : St :=
  { tm := match dst with
      | some t => setNth (some r.val) s.tm t
      | none => s.tm
    hp := stepH s.hp s.nx r, nx := s.nx + r.new.length, gl := s.gl }
def seqOps (T : List (Nat × Ty)) (O : List (Nat × Ent)) (ops : Array Oper) (H : Nat → Hint) : List Oper → Nat → St → Option (St × Asm)
  | [], _, s => some (s, .tt)
  | o :: l, i, s => match opRes T O ops s.get s.gl (look s.hp) (H i) s.nx (fun id => Nat.blt id s.nx) o with
    | some r => match seqOps T O ops H l (i + 1) (s.step o.dst r) with
      | some (s', p) => some (s', r.asm.and p)
      | none => none
    | none => none

structure RelS (ρ : Nat → Loc) (N : Nat) (M : List Nat) (w0 : Wd) (s : St) (a : Act) (w : World) : Prop where
  rel : Rel ρ (· < s.nx) N M w0 s.gl s.get (look s.hp) a w
  size : a.tmps.size = s.tm.length

section
variable {P : Program} {T : List (Nat × Ty)} {O : List (Nat × Ent)} {N : Nat} {M : List Nat} {w0 : Wd} {ops : Array Oper}

theorem eval_put_ne {a : Act} {t u : Nat} {v : Value} (h : t ≠ u) : (a.put (some t) v).eval (.tmp u) = a.eval (.tmp u) :=
  Act.eval_put fun d hd he => by injection hd with hd; injection he with he; exact h (hd.trans he.symm)
theorem get_step {s : St} {dst : Option Tmp} {r : Res} {t : Nat} {sv : SV} (h : (s.step dst r).get t = some sv) : (dst = some t ∧ t < s.tm.length ∧ sv = r.val) ∨ (dst ≠ some t ∧ s.get t = some sv) := by
  unfold St.step St.get at h
  cases dst with
  | none => exact .inr ⟨by simp, h⟩
  | some d =>
    simp only [nth_set] at h
    by_cases hd : d = t
    · subst hd
      rw [if_pos rfl] at h
      by_cases hl : d < s.tm.length
      · rw [if_pos hl] at h
        simp only [Option.some.injEq] at h
        exact .inl ⟨rfl, hl, h.symm⟩
      · rw [if_neg hl] at h; cases h
    · rw [if_neg hd] at h
      exact .inr ⟨fun e => hd (by injection e), h⟩
theorem RelS.step {ρ ρ' : Nat → Loc} {s : St} {a : Act} {w w' : World} {dst : Option Tmp} {r : Res} {v : Value} (h : RelS ρ N M w0 s a w) (hF : Fits ρ (· < s.nx) N M (look s.hp) s.nx r w ρ' v w') (hv : r.val.In (Dn (· < s.nx) s.nx r.new.length)) :
    RelS ρ' N M w0 (s.step dst r) (a.put dst v) w' := by
  have hD : ∀ id, Dn (· < s.nx) s.nx r.new.length id → id < s.nx + r.new.length := fun id h => by
    rcases h with h | h
    · have : id < s.nx := h; omega
    · exact h.2
  refine ⟨⟨fun t sv ht => ?_, fun g id hg => ?_, ?_, h.rel.kept.trans hF.kept, ?_⟩, ?_⟩
  · rcases get_step ht with ⟨rfl, hl, rfl⟩ | ⟨hne, ht⟩
    · rw [Rg.eval_put_self (by rw [h.size]; exact hl)]
      exact ⟨hF.val, hv.mono hD⟩
    · obtain ⟨h1, h2⟩ := h.rel.slots t sv ht
      refine ⟨?_, h2.mono fun id hid => Nat.lt_of_lt_of_le hid (Nat.le_add_right _ _)⟩
      rw [SV.conc_congr hF.agree h2]
      cases dst with
      | none => exact h1
      | some d => rw [eval_put_ne fun e => hne (by rw [e])]; exact h1
  · obtain ⟨h1, h2⟩ := h.rel.globals g id hg
    exact ⟨by rw [hF.agree id h2]; exact h1, Nat.lt_of_lt_of_le h2 (Nat.le_add_right _ _)⟩
  · show HR ρ' _ N M (look (stepH s.hp s.nx r)) w'
    rw [look_stepH]
    exact hF.hr.monoD hD
  · cases dst <;> exact h.rel.defers
  · cases dst with
    | none => exact h.size
    | some d => simp [Act.put, St.step, setNth_len, h.size]
theorem RelS.skip {ρ : Nat → Loc} {s : St} {a : Act} {w : World} {dst : Option Tmp} (h : RelS ρ N M w0 s a w) : RelS ρ N M w0 (s.step dst { val := ofV undef }) (a.put dst undef) w :=
  h.step (fits_same h.rel.hr rfl rfl rfl) (fun s hs => by simp [AV.segs] at hs; subst hs; trivial)

theorem seq_sound (hT : TOK P T) (hO : OOK P O) {H : Nat → Hint} {Q : Exit → Act → World → Prop} : ∀ (l : List Oper) (i : Nat) (s s' : St) (p : Asm) (ρ : Nat → Loc) (a : Act) (w : World), seqOps T O ops H l i s = some (s', p) → p.holds → RelS ρ N M w0 s a w →
    (∀ ρ' a' w', RelS ρ' N M w0 s' a' w' → Q .normal a' w') → wpList P ops Q l a w
  | [], i, s, s', p, ρ, a, w, h, hp, hR, hQ => by
    simp only [seqOps, Option.some.injEq, Prod.mk.injEq] at h
    obtain ⟨rfl, _⟩ := h
    exact wpList_nil (hQ ρ a w hR)
  | o :: l, i, s, s', p, ρ, a, w, h, hp, hR, hQ => by
    unfold seqOps at h
    split at h
    · rename_i r hr
      split at h
      · rename_i s1 p1 h1
        simp only [Option.some.injEq, Prod.mk.injEq] at h
        obtain ⟨rfl, rfl⟩ := h
        have hres := opRes_sound hT hO hR.rel (fun id hid => Nat.lt_of_succ_le (Nat.le_of_ble_eq_true hid)) hr hp.1 (fun id h1 _ => Nat.not_lt.2 h1)
        unfold wpList
        rcases hres with ⟨hw, hS, hin⟩ | ⟨hw, rfl⟩
        · rw [if_pos hw]
          refine .inl (Rg.wp_of_gives hS fun v w' ⟨ρ', hF⟩ => ?_)
          exact seq_sound hT hO l (i + 1) _ _ _ ρ' _ _ h1 hp.2 (hR.step hF hin) hQ
        · rw [if_neg (by rw [hw]; simp)]
          exact seq_sound hT hO l (i + 1) _ _ _ ρ _ _ h1 hp.2 hR.skip hQ
      · cases h
    · cases h
end
end Go.Proofs.Ytkoackalpcmhaaa.Am
