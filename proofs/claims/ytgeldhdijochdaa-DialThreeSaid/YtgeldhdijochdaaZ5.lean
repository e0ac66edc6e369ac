/- The abstract machine: a region that draws its order comes to what was reckoned. Conditions: none. -/
import Derived.Test.YtgeldhdijochdaaZ4
set_option linter.unusedSectionVars false
namespace Go.Proofs.Ytgeldhdijochdaa.Am
set_option linter.unusedVariables false
set_option linter.unusedSimpArgs false
open Go Go.RowKit
open Rg (gives at_ writerOf dstOf)

section
variable {P : Program} {T : List (Nat × Ty)} {O : List (Nat × Ent)} {N : Nat} {M : List Nat} {w0 : Wd} {ops : Array Oper} {A K : List Nat} {H : Nat → Hint} {s : St}
variable [GT]

omit [GT] in
theorem anc_bit (hc : Rg.Check ops A K) {i : Nat} {o : Oper} (ho : ops[i]? = some o) {d : Nat} (h : (at_ A i).testBit d = true) : d < i := Rg.anc_lt hc i o ho d h

omit [GT] in
theorem getI_congr {rs rs' : List (Nat × Res)} {i : Nat} {o : Oper} (hc : Rg.Check ops A K) (ho : ops[i]? = some o) (h : ∀ j, j < i → look rs' j = look rs j) (get : Nat → Option SV) : getI ops A rs' get i = getI ops A rs get i := by
  funext t
  unfold getI
  cases writerOf ops t with
  | none => rfl
  | some d =>
    simp only
    cases hb : (at_ A i).testBit d with
    | true => simp only; rw [h d (anc_bit hc ho hb)]
    | false => rfl
omit [GT] in
theorem any_congr_ {f g : Nat → Bool} {l : List Nat} (h : ∀ k, f k = g k) : l.any f = l.any g := by rw [funext h]
theorem killed_congr {rs rs' : List (Nat × Res)} {L : Nat → Bool} {n : Nat} (h : ∀ j, L j = true → look rs' j = look rs j) (id : Nat) : killed n rs' L id = killed n rs L id := by
  unfold killed
  refine any_congr_ fun k => ?_
  cases hk : L k with
  | true => rw [h k hk]
  | false => rfl
theorem heapI_congr {rs rs' : List (Nat × Res)} {i : Nat} {o : Oper} (hc : Rg.Check ops A K) (ho : ops[i]? = some o) (h : ∀ j, j < i → look rs' j = look rs j) (n nx : Nat) (hp : Nat → Option Blk) : heapI n nx rs' hp (fun d => (at_ A i).testBit d) = heapI n nx rs hp (fun d => (at_ A i).testBit d) := by
  funext id
  unfold heapI
  rw [killed_congr (L := fun d => (at_ A i).testBit d) (fun j hj => h j (anc_bit hc ho hj)) id]
  cases Nat.blt id nx with
  | true => rfl
  | false =>
    simp only
    cases hb : (at_ A i).testBit ((id - nx) / 4) with
    | true => simp only [Bool.true_and]; rw [h _ (anc_bit hc ho hb)]
    | false => rfl

omit [GT] in
/-- What is known of a head's operation. -/
def HeadOK (T : List (Nat × Ty)) (O : List (Nat × Ent)) (ops : Array Oper) (A : List Nat) (H : Nat → Hint) (s : St) (rs : List (Nat × Res)) (i : Nat) (o : Oper) : Prop :=
  ∃ r, look rs i = some r ∧ opRes T O ops (getI ops A rs s.get i) s.gl (heapI ops.size s.nx rs (look s.hp) (fun d => (at_ A i).testBit d)) (H i) (s.nx + 4 * i) (fun id => Nat.blt id s.nx || (at_ A i).testBit ((id - s.nx) / 4)) o = some r ∧ r.asm.holds ∧ r.new.length ≤ 4 ∧ (r.upd = [] ∨ ∃ id, r.upd = [(id, none)] ∧ appO o.op = true ∧ s.nx ≤ id ∧ (at_ A i).testBit ((id - s.nx) / 4) = true)

theorem headOps_spec (hc : Rg.Check ops A K) : ∀ (l : List Oper) (i : Nat) (rs rs' : List (Nat × Res)) (p : Asm), headOps T O ops A H s l i rs = some (rs', p) → p.holds → (∀ j r, look rs j = some r → j < i) → (∀ k o, l[k]? = some o → ops[i + k]? = some o) →
    (∀ j, j < i → look rs' j = look rs j) ∧ ∀ k o, l[k]? = some o → HeadOK T O ops A H s rs' (i + k) o
  | [], i, rs, rs', p, h, hp, hlt, hl => by
    simp only [headOps, Option.some.injEq, Prod.mk.injEq] at h
    obtain ⟨rfl, _⟩ := h
    exact ⟨fun _ _ => rfl, fun k o hk => by simp at hk⟩
  | o :: l, i, rs, rs', p, h, hp, hlt, hl => by
    unfold headOps at h
    split at h
    · rename_i r hr
      have main : ∀ (hlen : Nat.ble r.new.length 4 = true) (hupd : r.upd = [] ∨ ∃ id, r.upd = [(id, none)] ∧ appO o.op = true ∧ s.nx ≤ id ∧ (at_ A i).testBit ((id - s.nx) / 4) = true), (match headOps T O ops A H s l (i + 1) ((i, r) :: rs) with
          | some (rs', p) => some (rs', r.asm.and p)
          | none => none) = some (rs', p) → (∀ j, j < i → look rs' j = look rs j) ∧ ∀ k o', (o :: l)[k]? = some o' → HeadOK T O ops A H s rs' (i + k) o' := by
        intro hlen hupd h
        split at h
        · rename_i rs1 p1 h1
          simp only [Option.some.injEq, Prod.mk.injEq] at h
          obtain ⟨rfl, rfl⟩ := h
          have hstep : ∀ j r', look ((i, r) :: rs) j = some r' → j < i + 1 := fun j r' hj => by
            rw [look_cons] at hj
            by_cases hij : i = j
            · omega
            · rw [if_neg hij] at hj; have := hlt j r' hj; omega
          obtain ⟨e1, e2⟩ := headOps_spec hc l (i + 1) _ _ _ h1 hp.2 hstep (fun k o' hk => by have := hl (k + 1) o' (by simpa using hk); rw [show i + 1 + k = i + (k + 1) by omega]; exact this)
          have e0 : ∀ j, j < i → look rs1 j = look rs j := fun j hj => by
            rw [e1 j (by omega), look_cons, if_neg (by omega)]
          refine ⟨e0, fun k o' hk => ?_⟩
          cases k with
          | zero =>
            simp only [List.getElem?_cons_zero, Option.some.injEq] at hk
            subst hk
            have ho := hl 0 o rfl
            simp only [Nat.add_zero] at ho ⊢
            refine ⟨r, by rw [e1 i (by omega), look_cons, if_pos rfl], ?_, hp.1, Nat.le_of_ble_eq_true hlen, hupd⟩
            rw [getI_congr hc ho e0, heapI_congr hc ho e0]
            exact hr
          | succ k =>
            have := e2 k o' (by simpa using hk)
            rw [show i + (k + 1) = i + 1 + k by omega]
            exact this
        · cases h
      split at h
      · rename_i hlen hupd
        exact main hlen (.inl hupd) h
      · rename_i id hlen hupd
        split at h
        · rename_i hk
          simp only [Bool.and_eq_true] at hk
          exact main hlen (.inr ⟨id, hupd, hk.1, Nat.le_of_ble_eq_true hk.2.1, hk.2.2⟩) h
        · cases h
      · cases h
    · cases h

omit [GT] in
def DL (nx : Nat) (L : Array Bool) : Nat → Prop := fun id => id < nx ∨ (nx ≤ id ∧ L.getD ((id - nx) / 4) false = true)
omit [GT] in
def resOf (rs : List (Nat × Res)) (d : Nat) : Res := match look rs d with
  | some r => r
  | none => { val := ofV undef }

/-- What holds while the head's operations come up. -/
structure RInv (ops : Array Oper) (K : List Nat) (rs : List (Nat × Res)) (s : St) (N : Nat) (M : List Nat) (w0 : Wd) (ρ0 : Nat → Loc) (a0 : Act) (L : Array Bool) (a : Act) (w : World) : Prop where
  size : L.size = ops.size
  closed : ∀ j oj, ops[j]? = some oj → L.getD j false = true → ∀ e ∈ oj.after, Region.binds .any e = true → L.getD e.on false = true
  notail : ∀ j, j < ops.size → at_ K j = 2 → L.getD j false = false
  defers : a.defers = []
  tmps : a.tmps.size = a0.tmps.size
  ex : ∃ ρ, (∀ id, id < s.nx → ρ id = ρ0 id) ∧
    (∀ t, match writerOf ops t with
      | some d => if L.getD d false = true then a.eval (.tmp t) = (resOf rs d).val.conc ρ ∧ (resOf rs d).val.In (DL s.nx L) else a.eval (.tmp t) = a0.eval (.tmp t)
      | none => a.eval (.tmp t) = a0.eval (.tmp t)) ∧
    HR ρ (DL s.nx L) N M (heapI ops.size s.nx rs (look s.hp) fun d => L.getD d false) w ∧ Kept N M w0.w w

omit [GT] in
theorem heapI_lt {n nx : Nat} {rs : List (Nat × Res)} {hp : Nat → Option Blk} {L : Nat → Bool} {id : Nat} (h : id < nx) : heapI n nx rs hp L id = hp id := by
  unfold heapI
  have : Nat.blt id nx = true := Nat.ble_eq_true_of_le h
  rw [this]
omit [GT] in
theorem heapI_ge {n nx : Nat} {rs : List (Nat × Res)} {hp : Nat → Option Blk} {L : Nat → Bool} {id : Nat} (h : nx ≤ id) : heapI n nx rs hp L id = match L ((id - nx) / 4) && !(killed n rs L id) with
    | true => match look rs ((id - nx) / 4) with
      | some r => r.new[(id - nx) % 4]?
      | none => none
    | false => none := by
  unfold heapI
  have : Nat.blt id nx = false := by
    cases hq : Nat.blt id nx
    · rfl
    · have := Nat.le_of_ble_eq_true hq; omega
  rw [this] <;> rfl
omit [GT] in
theorem heapI_some {n nx : Nat} {rs : List (Nat × Res)} {hp : Nat → Option Blk} {L : Nat → Bool} {id : Nat} {b : Blk} (h : nx ≤ id) (hb : heapI n nx rs hp L id = some b) : L ((id - nx) / 4) = true ∧ killed n rs L id = false ∧ ∃ r, look rs ((id - nx) / 4) = some r ∧ r.new[(id - nx) % 4]? = some b := by
  rw [heapI_ge h] at hb
  split at hb
  · rename_i hL
    rw [Bool.and_eq_true, Bool.not_eq_true'] at hL
    split at hb
    · rename_i r hr
      exact ⟨hL.1, hL.2, r, hr, hb⟩
    · cases hb
  · cases hb
omit [GT] in
theorem heapI_mk {n nx : Nat} {rs : List (Nat × Res)} {hp : Nat → Option Blk} {L : Nat → Bool} {id : Nat} {b : Blk} {r : Res} (h : nx ≤ id) (h1 : L ((id - nx) / 4) = true) (h2 : killed n rs L id = false) (h3 : look rs ((id - nx) / 4) = some r) (h4 : r.new[(id - nx) % 4]? = some b) : heapI n nx rs hp L id = some b := by
  rw [heapI_ge h, h1, h2, h3]
  exact h4
omit [GT] in
theorem killed_iff {n : Nat} {rs : List (Nat × Res)} {L : Nat → Bool} {id : Nat} : killed n rs L id = true ↔ ∃ k r, k < n ∧ L k = true ∧ look rs k = some r ∧ killsOf r id = true := by
  unfold killed
  rw [List.any_eq_true]
  constructor
  · rintro ⟨k, hk, h⟩
    rw [Bool.and_eq_true] at h
    obtain ⟨h1, h2⟩ := h
    split at h2
    · rename_i r hr
      exact ⟨k, r, List.mem_range.1 hk, h1, hr, h2⟩
    · cases h2
  · rintro ⟨k, r, hk, h1, h2, h3⟩
    exact ⟨k, List.mem_range.2 hk, by rw [h1, h2]; exact h3⟩
omit [GT] in
theorem killed_mono {n : Nat} {rs : List (Nat × Res)} {L L' : Nat → Bool} {id : Nat} (h : ∀ d, L d = true → L' d = true) (hk : killed n rs L' id = false) : killed n rs L id = false := by
  cases hq : killed n rs L id with
  | false => rfl
  | true =>
    obtain ⟨k, r, h1, h2, h3, h4⟩ := killed_iff.1 hq
    rw [killed_iff.2 ⟨k, r, h1, h k h2, h3, h4⟩] at hk
    cases hk
omit [GT] in
theorem kills_upd {r : Res} {id : Nat} (h : killsOf r id = true) : r.upd = [(id, none)] := by
  unfold killsOf at h
  split at h
  · rename_i j hj
    rw [Nat.eq_of_beq_eq_true h] at hj
    exact hj
  · cases h
omit [GT] in
/-- What the check of the rows that are taken says. -/
def KillOK (ops : Array Oper) (A K : List Nat) (nx : Nat) (rs : List (Nat × Res)) : Prop :=
  ∀ k r id, look rs k = some r → r.upd = [(id, none)] → at_ K k ≠ 2 → k < ops.size → ∀ i, i < ops.size → at_ K i ≠ 2 → i ≠ k → (at_ A i).testBit ((id - nx) / 4) = true → (at_ A i).testBit k = true ∨ (at_ A k).testBit i = true

/-- What an operation of the head may lean on. -/
theorem RInv.rel (hc : Rg.Check ops A K) {rs : List (Nat × Res)} {ρ0 : Nat → Loc} {a0 : Act} {L : Array Bool} {a : Act} {w w1 : World} (h : RInv ops K rs s N M w0 ρ0 a0 L a w) (h0 : Rel ρ0 (· < s.nx) N M w0 s.gl s.get (look s.hp) a0 w1) {i : Nat} {o : Oper} (ho : ops[i]? = some o) (hr : i ∈ Region.ready .any ops L) (hrs : ∀ d, (at_ A i).testBit d = true → ∃ r, look rs d = some r) (hk2 : at_ K i ≠ 2) (hKO : KillOK ops A K s.nx rs) :
    ∃ ρ, (∀ id, id < s.nx → ρ id = ρ0 id) ∧ Rel ρ (DL s.nx L) N M w0 s.gl (getI ops A rs s.get i) (heapI ops.size s.nx rs (look s.hp) (fun d => (at_ A i).testBit d)) a w ∧ HR ρ (DL s.nx L) N M (heapI ops.size s.nx rs (look s.hp) fun d => L.getD d false) w ∧
      (∀ t, match writerOf ops t with
        | some d => if L.getD d false = true then a.eval (.tmp t) = (resOf rs d).val.conc ρ ∧ (resOf rs d).val.In (DL s.nx L) else a.eval (.tmp t) = a0.eval (.tmp t)
        | none => a.eval (.tmp t) = a0.eval (.tmp t)) ∧
      ∀ id b, heapI ops.size s.nx rs (look s.hp) (fun d => (at_ A i).testBit d) id = some b → heapI ops.size s.nx rs (look s.hp) (fun d => L.getD d false) id = some b := by
  obtain ⟨ρ, hag, hsl, hHR, hK⟩ := h.ex
  obtain ⟨_, o', ho', hall⟩ := mem_ready.1 hr
  have : o' = o := Option.some.inj (ho'.symm.trans ho)
  subst this
  have hanc : ∀ d, (at_ A i).testBit d = true → L.getD d false = true := fun d hd => Rg.closed_anc hc h.closed i o' ho hall d hd
  have hview : ∀ id b, heapI ops.size s.nx rs (look s.hp) (fun d => (at_ A i).testBit d) id = some b → heapI ops.size s.nx rs (look s.hp) (fun d => L.getD d false) id = some b := fun id b hb => by
    rcases Nat.lt_or_ge id s.nx with h1 | h1
    · rw [heapI_lt h1] at hb ⊢; exact hb
    · obtain ⟨e1, e2, r, e3, e4⟩ := heapI_some h1 hb
      refine heapI_mk h1 (hanc _ e1) ?_ e3 e4
      cases hq : killed ops.size rs (fun d => L.getD d false) id with
      | false => rfl
      | true =>
        obtain ⟨k, rk, k1, k2, k3, k4⟩ := killed_iff.1 hq
        have hik : i ≠ k := fun e => by
          subst e
          have := Rg.getD_of_ready hr
          rw [this] at k2; cases k2
        have hkk : at_ K k ≠ 2 := fun e => by
          have := h.notail k k1 e
          rw [this] at k2; cases k2
        have hil := (Array.getElem?_eq_some_iff.1 ho).1
        rcases hKO k rk id k3 (kills_upd k4) hkk k1 i hil hk2 hik e1 with hh | hh
        · rw [killed_iff.2 ⟨k, rk, k1, hh, k3, k4⟩] at e2
          cases e2
        · have hok : ops[k]? = some (ops[k]'k1) := by rw [Array.getElem?_eq_getElem]
          have := Rg.closed_anc hc h.closed k _ hok (h.closed k _ hok k2) i hh
          rw [Rg.getD_of_ready hr] at this
          cases this
  have h0c : ∀ t sv, s.get t = some sv → a0.eval (.tmp t) = sv.conc ρ ∧ sv.In (DL s.nx L) := fun t sv ht => by
    obtain ⟨h1, h2⟩ := h0.slots t sv ht
    exact ⟨by rw [h1, SV.conc_congr hag h2], h2.mono fun id hid => .inl hid⟩
  refine ⟨ρ, hag, ⟨fun t sv ht => ?_, fun g id hg => ?_, hHR.weaken hview, hK, h.defers⟩, hHR, hsl, hview⟩
  · have hst := hsl t
    unfold getI at ht
    cases hw : writerOf ops t with
    | none =>
      rw [hw] at ht hst
      simp only at ht hst
      rw [hst]
      exact h0c t sv ht
    | some d =>
      rw [hw] at ht hst
      simp only at ht hst
      cases hb : (at_ A i).testBit d with
      | true =>
        rw [hb] at ht
        simp only at ht
        obtain ⟨r, hr'⟩ := hrs d hb
        rw [hr'] at ht
        simp only [Option.some.injEq] at ht
        subst ht
        rw [if_pos (hanc d hb)] at hst
        have e : resOf rs d = r := by unfold resOf; rw [hr']
        rw [e] at hst
        exact hst
      | false =>
        rw [hb] at ht
        simp only at ht
        split at ht
        · rename_i hd
          have hnl : L.getD d false = false := by
            rw [Bool.or_eq_true] at hd
            rcases hd with hd | hd
            · have := Nat.eq_of_beq_eq_true hd
              subst this
              exact Rg.getD_of_ready hr
            · have hdlt : d < ops.size := by
                unfold writerOf at hw
                exact List.mem_range.1 (List.mem_of_find?_eq_some hw)
              cases hl : L.getD d false with
              | false => rfl
              | true =>
                have := Rg.closed_anc hc h.closed d ops[d] (by rw [Array.getElem?_eq_getElem hdlt]) (h.closed d _ (by rw [Array.getElem?_eq_getElem hdlt]) hl) i hd
                rw [Rg.getD_of_ready hr] at this
                cases this
          rw [if_neg (by rw [hnl]; exact Bool.false_ne_true)] at hst
          rw [hst]
          exact h0c t sv ht
        · cases ht
  · obtain ⟨h1, h2⟩ := h0.globals g id hg
    exact ⟨by rw [hag id h2]; exact h1, .inl h2⟩

omit [GT] in
theorem DL_set {nx i id : Nat} {L : Array Bool} (hi : i < L.size) : DL nx (L.setIfInBounds i true) id ↔ DL nx L id ∨ (nx ≤ id ∧ (id - nx) / 4 = i) := by
  unfold DL
  rw [Rg.getD_set hi]
  by_cases h : i = (id - nx) / 4
  · rw [if_pos h]
    constructor
    · rintro (h1 | ⟨h1, _⟩)
      · exact .inl (.inl h1)
      · exact .inr ⟨h1, h.symm⟩
    · rintro ((h1 | ⟨h1, _⟩) | ⟨h1, _⟩)
      · exact .inl h1
      · exact .inr ⟨h1, rfl⟩
      · exact .inr ⟨h1, rfl⟩
  · rw [if_neg h]
    constructor
    · exact .inl
    · rintro (h1 | ⟨_, h2⟩)
      · exact h1
      · exact absurd h2.symm h

/-- Behind an operation of the head. -/
theorem RInv.put (hc : Rg.Check ops A K) {rs : List (Nat × Res)} {ρ0 ρ ρ' : Nat → Loc} {a0 : Act} {L : Array Bool} {a : Act} {w w' : World} (h : RInv ops K rs s N M w0 ρ0 a0 L a w) (hag : ∀ id, id < s.nx → ρ id = ρ0 id)
    (hHR : HR ρ (DL s.nx L) N M (heapI ops.size s.nx rs (look s.hp) fun d => L.getD d false) w) (hsl : ∀ t, match writerOf ops t with
      | some d => if L.getD d false = true then a.eval (.tmp t) = (resOf rs d).val.conc ρ ∧ (resOf rs d).val.In (DL s.nx L) else a.eval (.tmp t) = a0.eval (.tmp t)
      | none => a.eval (.tmp t) = a0.eval (.tmp t)) (hK : Kept N M w0.w w)
    {i : Nat} {o : Oper} {t0 : Tmp} (ho : ops[i]? = some o) (hr : i ∈ Region.ready .any ops L) (hk : at_ K i ≠ 2) (hd : o.dst = some t0) (hlt : t0 < a0.tmps.size) {r : Res} (hri : look rs i = some r) (hlen : r.new.length ≤ 4) (hupd : r.upd = []) {Gi : Nat → Option Blk} (hGi : ∀ id, s.nx + 4 * i ≤ id → Gi id = none ∨ True)
    {v : Value} (hF : Fits ρ (DL s.nx L) N M Gi (s.nx + 4 * i) r w ρ' v w') (hin : r.val.In (Dn (DL s.nx L) (s.nx + 4 * i) r.new.length)) :
    RInv ops K rs s N M w0 ρ0 a0 (L.setIfInBounds i true) (a.put o.dst v) w' := by
  have hsz := (Array.getElem?_eq_some_iff.1 ho).1
  have hL : i < L.size := by rw [h.size]; exact hsz
  obtain ⟨_, o', ho', hall⟩ := mem_ready.1 hr
  have : o' = o := Option.some.inj (ho'.symm.trans ho)
  subst this
  have hDL : ∀ id, DL s.nx L id → DL s.nx (L.setIfInBounds i true) id := fun id hid => (DL_set hL).2 (.inl hid)
  have hDn : ∀ id, Dn (DL s.nx L) (s.nx + 4 * i) r.new.length id → DL s.nx (L.setIfInBounds i true) id := fun id hid => by
    rcases hid with hid | hid
    · exact hDL id hid
    · exact (DL_set hL).2 (.inr ⟨by omega, by omega⟩)
  obtain ⟨hbel, hfr⟩ := hF.fresh hupd
  refine ⟨by simp [h.size], fun j oj hj hl e he hbd => ?_, fun j hj hkj => ?_, ?_, ?_, ρ', fun id hid => ?_, fun t => ?_, ?_, hK.trans hF.kept⟩
  · rw [Rg.getD_set hL] at hl ⊢
    by_cases hij : i = j
    · subst hij
      have : oj = o' := Option.some.inj (hj.symm.trans ho)
      subst this
      split
      · rfl
      · exact hall e he hbd
    · rw [if_neg hij] at hl
      split
      · rfl
      · exact h.closed j oj hj hl e he hbd
  · rw [Rg.getD_set hL, if_neg (fun (e : i = j) => hk (e ▸ hkj))]; exact h.notail j hj hkj
  · rw [hd]; exact h.defers
  · rw [hd]; simp [Act.put, h.tmps]
  · rw [hF.agree id (.inl hid)]; exact hag id hid
  · have h1 := hsl t
    have hw := hc.one i o' t0 ho hd
    by_cases hst' : t0 = t
    · subst hst'
      rw [hw]
      simp only
      rw [Rg.getD_set hL, if_pos rfl, if_pos rfl, hd, Rg.eval_put_self (by rw [h.tmps]; exact hlt)]
      have e : resOf rs i = r := by unfold resOf; rw [hri]
      rw [e]
      exact ⟨hF.val, hin.mono hDn⟩
    · have hev : (a.put o'.dst v).eval (.tmp t) = a.eval (.tmp t) := by rw [hd]; exact eval_put_ne hst'
      rw [hev]
      split
      · rename_i d hd'
        simp only [hd'] at h1
        rw [Rg.getD_set hL]
        by_cases hid : i = d
        · subst hid
          exfalso
          unfold writerOf at hd'
          have := List.find?_some hd'
          simp only [ho, Option.bind_some, hd, beq_iff_eq, Option.some.injEq] at this
          exact hst' this
        · rw [if_neg hid]
          split
          · rename_i hld
            rw [if_pos hld] at h1
            exact ⟨by rw [SV.conc_congr hF.agree h1.2]; exact h1.1, h1.2.mono hDL⟩
          · rename_i hld
            rw [if_neg hld] at h1
            exact h1
      · rename_i hd'
        simp only [hd'] at h1
        exact h1
  · -- the blocks
    have hLm : ∀ d, L.getD d false = true → (L.setIfInBounds i true).getD d false = true := fun d hd => by
      rw [Rg.getD_set hL]; split
      · rfl
      · exact hd
    have hnew : ∀ id b, (s.nx ≤ id ∧ (id - s.nx) / 4 = i) → heapI ops.size s.nx rs (look s.hp) (fun d => (L.setIfInBounds i true).getD d false) id = some b → (s.nx + 4 * i ≤ id ∧ id < s.nx + 4 * i + r.new.length) ∧ r.new[id - (s.nx + 4 * i)]? = some b := by
      intro id b hid hb
      obtain ⟨_, _, r', e3, e4⟩ := heapI_some hid.1 hb
      rw [hid.2, hri] at e3
      injection e3 with e3
      subst e3
      have e : (id - s.nx) % 4 = id - (s.nx + 4 * i) := by omega
      rw [e] at e4
      have := (List.getElem?_eq_some_iff.1 e4).1
      exact ⟨⟨by omega, by omega⟩, e4⟩
    have hoth : ∀ id b, ¬ (s.nx ≤ id ∧ (id - s.nx) / 4 = i) → heapI ops.size s.nx rs (look s.hp) (fun d => (L.setIfInBounds i true).getD d false) id = some b → heapI ops.size s.nx rs (look s.hp) (fun d => L.getD d false) id = some b := by
      intro id b hid hb
      rcases Nat.lt_or_ge id s.nx with h1 | h1
      · rw [heapI_lt h1] at hb ⊢; exact hb
      · obtain ⟨e1, e2, r', e3, e4⟩ := heapI_some h1 hb
        have : i ≠ (id - s.nx) / 4 := fun e => hid ⟨h1, e.symm⟩
        rw [Rg.getD_set hL, if_neg this] at e1
        exact heapI_mk h1 e1 (killed_mono hLm e2) e3 e4
    have hap : ∀ id b, s.nx + 4 * i ≤ id ∧ id < s.nx + 4 * i + r.new.length → r.new[id - (s.nx + 4 * i)]? = some b → appl Gi (s.nx + 4 * i) r id = some b := by
      intro id b hid hb
      unfold appl
      rw [hupd]
      simp only [look]
      rw [if_pos hid]; exact hb
    have hfr' : ∀ id b x, s.nx + 4 * i ≤ id ∧ id < s.nx + 4 * i + r.new.length → r.new[id - (s.nx + 4 * i)]? = some b → (ρ' id).a = some x → w.heap.size ≤ x.block := by
      intro id b x hid hb hx
      refine hfr (id - (s.nx + 4 * i)) b x hb ?_
      rw [show s.nx + 4 * i + (id - (s.nx + 4 * i)) = id by omega]; exact hx
    refine hHR.step (U := fun id => s.nx ≤ id ∧ (id - s.nx) / 4 = i) hF.agree hDL hF.kept (fun id b hb hU => hoth id b hU hb) (fun id b x hb hU hx => ?_) (fun id b hb hU => ?_) (fun id b x hb hU hx => ?_) (fun id b x hb hU hk hx => ?_) (fun j k bj bk x y hj hk' hjk hU hkk hx hy => ?_)
    · exact hbel.block _ (hHR.lt id b x (hoth id b hU hb) hx)
    · obtain ⟨h1, h2⟩ := hnew id b hU hb
      obtain ⟨e1, e2, e3⟩ := hF.hr.blk id b (hap id b h1 h2)
      exact ⟨hDn id e1, e2.mono hDn, e3⟩
    · obtain ⟨h1, h2⟩ := hnew id b hU hb
      exact hF.hr.lt id b x (hap id b h1 h2) hx
    · obtain ⟨h1, h2⟩ := hnew id b hU hb
      exact hF.hr.own id b x (hap id b h1 h2) hk hx
    · by_cases hUj : s.nx ≤ j ∧ (j - s.nx) / 4 = i
      · obtain ⟨h1, h2⟩ := hnew j bj hUj hj
        by_cases hUk : s.nx ≤ k ∧ (k - s.nx) / 4 = i
        · obtain ⟨h3, h4⟩ := hnew k bk hUk hk'
          exact hF.hr.dist j k bj bk x y (hap j bj h1 h2) (hap k bk h3 h4) hjk hkk hx hy
        · have h3 := hoth k bk hUk hk'
          rw [hF.agree k (hHR.blk k bk h3).1] at hy
          have h4 := hHR.lt k bk y h3 hy
          have h5 := hfr' j bj x h1 h2 hx
          omega
      · have hUk := hU.resolve_left hUj
        obtain ⟨h1, h2⟩ := hnew k bk hUk hk'
        have h3 := hoth j bj hUj hj
        rw [hF.agree j (hHR.blk j bj h3).1] at hx
        have h4 := hHR.lt j bj x h3 hx
        have h5 := hfr' k bk y h1 h2 hy
        omega

/-- Behind an append of the head that takes a row of the region's own. -/
theorem RInv.putK (hc : Rg.Check ops A K) {rs : List (Nat × Res)} {ρ0 ρ ρ' : Nat → Loc} {a0 : Act} {L : Array Bool} {a : Act} {w w' : World} (h : RInv ops K rs s N M w0 ρ0 a0 L a w) (hag : ∀ id, id < s.nx → ρ id = ρ0 id)
    (hsl : ∀ t, match writerOf ops t with
      | some d => if L.getD d false = true then a.eval (.tmp t) = (resOf rs d).val.conc ρ ∧ (resOf rs d).val.In (DL s.nx L) else a.eval (.tmp t) = a0.eval (.tmp t)
      | none => a.eval (.tmp t) = a0.eval (.tmp t)) (hK : Kept N M w0.w w)
    {i : Nat} {o : Oper} {t0 : Tmp} (ho : ops[i]? = some o) (hr : i ∈ Region.ready .any ops L) (hk : at_ K i ≠ 2) (hd : o.dst = some t0) (hlt : t0 < a0.tmps.size) {r : Res} (hri : look rs i = some r) (hlen : r.new.length ≤ 4) {kid : Nat} (hupd : r.upd = [(kid, none)]) (hkx : s.nx ≤ kid) (hka : (at_ A i).testBit ((kid - s.nx) / 4) = true)
    {v : Value} (hF : Fits ρ (DL s.nx L) N M (heapI ops.size s.nx rs (look s.hp) fun d => L.getD d false) (s.nx + 4 * i) r w ρ' v w') (hin : r.val.In (Dn (DL s.nx L) (s.nx + 4 * i) r.new.length)) :
    RInv ops K rs s N M w0 ρ0 a0 (L.setIfInBounds i true) (a.put o.dst v) w' := by
  have hsz := (Array.getElem?_eq_some_iff.1 ho).1
  have hL : i < L.size := by rw [h.size]; exact hsz
  obtain ⟨_, o', ho', hall⟩ := mem_ready.1 hr
  have : o' = o := Option.some.inj (ho'.symm.trans ho)
  subst this
  have hDL : ∀ id, DL s.nx L id → DL s.nx (L.setIfInBounds i true) id := fun id hid => (DL_set hL).2 (.inl hid)
  have hDn : ∀ id, Dn (DL s.nx L) (s.nx + 4 * i) r.new.length id → DL s.nx (L.setIfInBounds i true) id := fun id hid => by
    rcases hid with hid | hid
    · exact hDL id hid
    · exact (DL_set hL).2 (.inr ⟨by omega, by omega⟩)
  refine ⟨by simp [h.size], fun j oj hj hl e he hbd => ?_, fun j hj hkj => ?_, ?_, ?_, ρ', fun id hid => ?_, fun t => ?_, ?_, hK.trans hF.kept⟩
  · rw [Rg.getD_set hL] at hl ⊢
    by_cases hij : i = j
    · subst hij
      have : oj = o' := Option.some.inj (hj.symm.trans ho)
      subst this
      split
      · rfl
      · exact hall e he hbd
    · rw [if_neg hij] at hl
      split
      · rfl
      · exact h.closed j oj hj hl e he hbd
  · rw [Rg.getD_set hL, if_neg (fun (e : i = j) => hk (e ▸ hkj))]; exact h.notail j hj hkj
  · rw [hd]; exact h.defers
  · rw [hd]; simp [Act.put, h.tmps]
  · rw [hF.agree id (.inl hid)]; exact hag id hid
  · have h1 := hsl t
    have hw := hc.one i o' t0 ho hd
    by_cases hst' : t0 = t
    · subst hst'
      rw [hw]
      simp only
      rw [Rg.getD_set hL, if_pos rfl, if_pos rfl, hd, Rg.eval_put_self (by rw [h.tmps]; exact hlt)]
      have e : resOf rs i = r := by unfold resOf; rw [hri]
      rw [e]
      exact ⟨hF.val, hin.mono hDn⟩
    · have hev : (a.put o'.dst v).eval (.tmp t) = a.eval (.tmp t) := by rw [hd]; exact eval_put_ne hst'
      rw [hev]
      split
      · rename_i d hd'
        simp only [hd'] at h1
        rw [Rg.getD_set hL]
        by_cases hid : i = d
        · subst hid
          exfalso
          unfold writerOf at hd'
          have := List.find?_some hd'
          simp only [ho, Option.bind_some, hd, beq_iff_eq, Option.some.injEq] at this
          exact hst' this
        · rw [if_neg hid]
          split
          · rename_i hld
            rw [if_pos hld] at h1
            exact ⟨by rw [SV.conc_congr hF.agree h1.2]; exact h1.1, h1.2.mono hDL⟩
          · rename_i hld
            rw [if_neg hld] at h1
            exact h1
      · rename_i hd'
        simp only [hd'] at h1
        exact h1
  · have hLm : ∀ d, L.getD d false = true → (L.setIfInBounds i true).getD d false = true := fun d hd => by
      rw [Rg.getD_set hL]; split
      · rfl
      · exact hd
    have hdi := Rg.anc_lt hc i o' ho _ hka
    refine (hF.hr.monoD hDn).weaken fun id b hb => ?_
    unfold appl
    rw [hupd]
    rcases Nat.lt_or_ge id s.nx with h1 | h1
    · rw [heapI_lt h1] at hb
      have hne : Nat.beq kid id = false := by
        cases hq : Nat.beq kid id
        · rfl
        · have := Nat.eq_of_beq_eq_true hq; omega
      simp only [look, hne]
      rw [if_neg (by omega), heapI_lt h1]
      exact hb
    · obtain ⟨e1, e2, r', e3, e4⟩ := heapI_some h1 hb
      have hne : Nat.beq kid id = false := by
        cases hq : Nat.beq kid id with
        | false => rfl
        | true =>
          have he := Nat.eq_of_beq_eq_true hq
          subst he
          rw [killed_iff.2 ⟨i, r, hsz, by rw [Rg.getD_set hL, if_pos rfl], hri, by unfold killsOf; rw [hupd]; exact Nat.beq_refl _⟩] at e2
          cases e2
      simp only [look, hne]
      by_cases hid : (id - s.nx) / 4 = i
      · rw [hid, hri] at e3
        injection e3 with e3
        subst e3
        have e : (id - s.nx) % 4 = id - (s.nx + 4 * i) := by omega
        rw [e] at e4
        have := (List.getElem?_eq_some_iff.1 e4).1
        rw [if_pos ⟨by omega, by omega⟩]
        exact e4
      · rw [if_neg (by omega)]
        rw [Rg.getD_set hL, if_neg (fun e => hid e.symm)] at e1
        exact heapI_mk h1 e1 (killed_mono hLm e2) e3 e4

end
end Go.Proofs.Ytgeldhdijochdaa.Am
/- The abstract machine: a region that draws its order, whole. Conditions: none. -/
namespace Go.Proofs.Ytgeldhdijochdaa.Am
set_option linter.unusedVariables false
set_option linter.unusedSimpArgs false
open Go Go.RowKit
open Rg (gives at_ writerOf dstOf)

section
variable {P : Program} {T : List (Nat × Ty)} {O : List (Nat × Ent)} {N : Nat} {M : List Nat} {w0 : Wd} {ops : Array Oper} {A K : List Nat} {H : Nat → Hint} {s : St}
variable [GT]

omit [GT] in
theorem pure_run {o : Oper} {a : Act} (h : pureO o.op = true) : (∃ v, ∀ w, (execOp a.eval o).run P w = .ok (.value v) w) ∨ ∀ w, ∃ q, (execOp a.eval o).run P w = .halt q w := by
  unfold pureO at h
  split at h
  · rename_i x hop; exact .inl ⟨a.eval x, fun w => by unfold execOp; rw [hop]; first | done | rfl⟩
  · rename_i x hop; exact .inl ⟨a.eval x, fun w => by unfold execOp; rw [hop]; first | done | rfl⟩
  · rename_i x i hop
    have e : execOp a.eval o = (Instr.extract (a.eval x) i >>= fun v => pure (.value v)) := by unfold execOp; rw [hop]; first | done | rfl
    cases hx : a.eval x with
    | tuple vs =>
      cases hv : vs[i]? with
      | some v => exact .inl ⟨v, fun w => by rw [e, hx]; simp [Instr.extract, hv]⟩
      | none => exact .inr fun w => ⟨_, by rw [e, hx, Sem.run_bind]; simp only [Instr.extract, hv]; rfl⟩
    | _ => exact .inr fun w => ⟨_, by rw [e, hx, Sem.run_bind]; first | done | rfl⟩
  · cases h

/-- What the region leaves, its tail still to come. -/
def Heads (ops : Array Oper) (K : List Nat) (rs : List (Nat × Res)) (s : St) (N : Nat) (M : List Nat) (w0 : Wd) (ρ0 : Nat → Loc) (a0 : Act) (Z : Act → World → Prop) : Prop :=
  ∀ L a w, RInv ops K rs s N M w0 ρ0 a0 L a w → (∀ j, j < ops.size → at_ K j ≠ 2 → L.getD j false = true) → Z a w

theorem draw_finish (hc : Rg.Check ops A K) {Q : Exit → Act → World → Prop} {rs : List (Nat × Res)} {ρ0 : Nat → Loc} {a0 : Act} (hfin : Heads ops K rs s N M w0 ρ0 a0 (wpList P ops (NoPanic Q) ((Rg.tailL ops K).filterMap (ops[·]?)))) {n : Nat} (L : Array Bool) (a : Act) (w : World) (hn : Rg.unl ops L = n) (hI : RInv ops K rs s N M w0 ρ0 a0 L a w) (hdone : ∀ j, j < ops.size → at_ K j ≠ 2 → L.getD j false = true) : wpAny P .any ops (NoPanic Q) n L a w := by
  rw [← hn]
  refine Rg.tail_any hc (Rg.tailL ops K) L a w hI.size (List.Pairwise.sublist List.filter_sublist List.pairwise_lt_range) (fun j hj => ?_) (fun j hj => ?_) hI.closed (hfin L a w hI hdone)
  · unfold Rg.tailL at hj
    rw [List.mem_filter, List.mem_range] at hj
    exact ⟨hj.1, by simpa using hj.2⟩
  · unfold Rg.tailL
    rw [List.mem_filter, List.mem_range]
    constructor
    · intro hl
      refine ⟨hj, ?_⟩
      by_cases hk : at_ K j = 2
      · simp [hk]
      · rw [hdone j hj hk] at hl; cases hl
    · rintro ⟨_, hk⟩
      exact hI.notail j hj (by simpa using hk)

theorem draw_any (hT : TOK P T) (hO : OOK P O) (hc : Rg.Check ops A K) (hpu : ∀ i o, ops[i]? = some o → at_ K i = 0 → pureO o.op = true) {Q : Exit → Act → World → Prop} {rs : List (Nat × Res)} {ρ0 : Nat → Loc} {a0 : Act} {w1 : World} (h0 : Rel ρ0 (· < s.nx) N M w0 s.gl s.get (look s.hp) a0 w1)
    (hsl : ∀ (i : Nat) (o : Oper) (t : Tmp), ops[i]? = some o → o.dst = some t → t < a0.tmps.size) (hhd : ∀ i o, ops[i]? = some o → at_ K i ≠ 2 → HeadOK T O ops A H s rs i o) (hKO : KillOK ops A K s.nx rs)
    (hfin : Heads ops K rs s N M w0 ρ0 a0 (wpList P ops (NoPanic Q) ((Rg.tailL ops K).filterMap (ops[·]?)))) :
    ∀ (n : Nat) (L : Array Bool) (a : Act) (w : World), Rg.unl ops L = n → RInv ops K rs s N M w0 ρ0 a0 L a w → wpAny P .any ops (NoPanic Q) n L a w := by
  intro n
  induction n with
  | zero =>
    intro L a w hn hI
    have hall : ∀ j, j < ops.size → L.getD j false = true := fun j hj => by
      unfold Rg.unl at hn
      rw [List.countP_eq_zero] at hn
      simpa using hn j (List.mem_range.2 hj)
    exact draw_finish hc hfin L a w hn hI fun j hj _ => hall j hj
  | succ n ih =>
    intro L a w hn hI
    by_cases hdone : ∀ j, j < ops.size → at_ K j ≠ 2 → L.getD j false = true
    · exact draw_finish hc hfin L a w hn hI hdone
    · have hex : ∃ j, j < ops.size ∧ at_ K j ≠ 2 ∧ L.getD j false = false := by
        apply Classical.byContradiction
        intro hno
        exact hdone fun j hj hk => by
          cases hl : L.getD j false with
          | true => rfl
          | false => exact absurd ⟨j, hj, hk, hl⟩ hno
      obtain ⟨j0, hj0⟩ := hex
      obtain ⟨h, ⟨hh1, hh2, hh3⟩, hmin⟩ := Rg.least_unl (p := fun j => j < ops.size ∧ at_ K j ≠ 2 ∧ L.getD j false = false) j0 hj0
      obtain ⟨oh, hoh⟩ : ∃ o, ops[h]? = some o := ⟨ops[h], by rw [Array.getElem?_eq_getElem]⟩
      have hhr : h ∈ Region.ready .any ops L := by
        have hL : h < L.size := by rw [hI.size]; exact hh1
        refine mem_ready.2 ⟨by simp [hL] at hh3 ⊢; exact hh3, oh, hoh, fun e he hb => ?_⟩
        have hlt := (hc.anc h oh hoh).2 e he hb
        have hk := (hc.heads h oh hoh hh2).2 e he hb
        cases hl : L.getD e.on false with
        | true => rfl
        | false => exact absurd ⟨by omega, hk, hl⟩ (hmin e.on hlt)
      -- what is known of an operation of the head that may come up
      have step : ∀ i o, ops[i]? = some o → i ∈ Region.ready .any ops L → at_ K i ≠ 2 →
          (Region.wanted o (yielded ops a.tmps) = true ∧ gives P o a w fun v w' => RInv ops K rs s N M w0 ρ0 a0 (L.setIfInBounds i true) (a.put o.dst v) w') ∨
          (Region.wanted o (yielded ops a.tmps) = false ∧ RInv ops K rs s N M w0 ρ0 a0 (L.setIfInBounds i true) (a.put o.dst undef) w) := by
        intro i o ho hi hk
        obtain ⟨r, hri, hop, ha, hlen, hupd⟩ := hhd i o ho hk
        obtain ⟨t0, hd⟩ := (hc.heads i o ho hk).1
        have hlt := (Array.getElem?_eq_some_iff.1 ho).1
        have hLi : L.getD i false = false := Rg.getD_of_ready hi
        have hrs : ∀ d, (at_ A i).testBit d = true → ∃ r, look rs d = some r := fun d hd => by
          have hdi := Rg.anc_lt hc i o ho d hd
          have hod : ops[d]? = some (ops[d]'(by omega)) := by rw [Array.getElem?_eq_getElem]
          have hkd : at_ K d ≠ 2 := by
            intro hk2
            obtain ⟨_, o', ho', hall⟩ := mem_ready.1 hi
            have hld := Rg.closed_anc hc hI.closed i o' ho' hall d hd
            rw [hI.notail d (by omega) hk2] at hld
            cases hld
          obtain ⟨r, hr, _⟩ := hhd d _ hod hkd
          exact ⟨r, hr⟩
        obtain ⟨ρ, hag, hrel, hHR, hsl', hvw⟩ := hI.rel hc h0 ho hi hrs hk hKO
        have hfD : ∀ id, (Nat.blt id s.nx || (at_ A i).testBit ((id - s.nx) / 4)) = true → DL s.nx L id := fun id hid => by
          rw [Bool.or_eq_true] at hid
          rcases Nat.lt_or_ge id s.nx with h1 | h1
          · exact .inl h1
          · rcases hid with hid | hid
            · exact .inl (Nat.lt_of_succ_le (Nat.le_of_ble_eq_true hid))
            · obtain ⟨_, o', ho', hall⟩ := mem_ready.1 hi
              exact .inr ⟨h1, Rg.closed_anc hc hI.closed i o' ho' hall _ hid⟩
        have hfresh : ∀ id, s.nx + 4 * i ≤ id → id < s.nx + 4 * i + r.new.length → ¬ DL s.nx L id := fun id h1 h2 hD => by
          rcases hD with hD | ⟨_, hD⟩
          · omega
          · have : (id - s.nx) / 4 = i := by omega
            rw [this, hLi] at hD; cases hD
        obtain ⟨ρk, hagk, hslk, hHRk, hKk⟩ := hI.ex
        have hKept : Kept N M w0.w w := hKk
        rcases hupd with hupd | ⟨kid, hupd, happ, hkx, hka⟩
        · rcases opRes_sound hT hO hrel hfD hop ha hfresh with ⟨hw, hS, hin⟩ | ⟨hw, rfl⟩
          · refine .inl ⟨hw, ?_⟩
            have key : ∀ v w', (∃ ρ', Fits ρ (DL s.nx L) N M (heapI ops.size s.nx rs (look s.hp) (fun d => (at_ A i).testBit d)) (s.nx + 4 * i) r w ρ' v w') → RInv ops K rs s N M w0 ρ0 a0 (L.setIfInBounds i true) (a.put o.dst v) w' := by
              rintro v w' ⟨ρ', hF⟩
              exact hI.put hc hag hHR hsl' hKept ho hi hk hd (hsl i o t0 ho hd) hri hlen hupd (fun _ _ => .inr trivial) hF hin
            unfold Sn gives at hS
            unfold gives
            generalize (execOp a.eval o).run P w = q at *
            cases q with
            | ok n w1 =>
              cases n with
              | value v => exact key v w1 hS
              | skip => exact key undef w1 hS
              | enter f args => exact Calls.mono hS fun e w2 ⟨v, he, hF⟩ => ⟨v, he, key v w2 hF⟩
              | _ => exact hS.elim
            | halt x w1 => exact hS.elim
          · refine .inr ⟨hw, ?_⟩
            exact hI.put hc hag hHR hsl' hKept ho hi hk hd (hsl i o t0 ho hd) hri hlen hupd (fun _ _ => .inr trivial) (fits_same (hrel.hr) (v := undef) rfl rfl rfl) (fun s hs => by simp [AV.segs] at hs; subst hs; trivial)
        · have hrel' : Rel ρ (DL s.nx L) N M w0 s.gl (getI ops A rs s.get i) (heapI ops.size s.nx rs (look s.hp) fun d => L.getD d false) a w := ⟨hrel.slots, hrel.globals, hHR, hrel.kept, hrel.defers⟩
          have hop' := opRes_mono happ (fun id b hb => hvw id b hb) hop
          rcases opRes_sound hT hO hrel' hfD hop' ha hfresh with ⟨hw, hS, hin⟩ | ⟨hw, rfl⟩
          · refine .inl ⟨hw, ?_⟩
            have key : ∀ v w', (∃ ρ', Fits ρ (DL s.nx L) N M (heapI ops.size s.nx rs (look s.hp) fun d => L.getD d false) (s.nx + 4 * i) r w ρ' v w') → RInv ops K rs s N M w0 ρ0 a0 (L.setIfInBounds i true) (a.put o.dst v) w' := by
              rintro v w' ⟨ρ', hF⟩
              exact hI.putK hc hag hsl' hKept ho hi hk hd (hsl i o t0 ho hd) hri hlen hupd hkx hka hF hin
            unfold Sn gives at hS
            unfold gives
            generalize (execOp a.eval o).run P w = q at *
            cases q with
            | ok n w1 =>
              cases n with
              | value v => exact key v w1 hS
              | skip => exact key undef w1 hS
              | enter f args => exact Calls.mono hS fun e w2 ⟨v, he, hF⟩ => ⟨v, he, key v w2 hF⟩
              | _ => exact hS.elim
            | halt x w1 => exact hS.elim
          · cases hupd
      by_cases hpure : ∃ i, i ∈ Region.ready .any ops L ∧ at_ K i = 0
      · obtain ⟨i, hi, hk0⟩ := hpure
        obtain ⟨_, o, ho, hall⟩ := mem_ready.1 hi
        have hlt := (Array.getElem?_eq_some_iff.1 ho).1
        have hk : at_ K i ≠ 2 := by omega
        have hcount := Rg.unl_set (ops := ops) (i := i) hlt (by rw [hI.size]; exact hlt) (Rg.getD_of_ready hi)
        have hy : ∃ v, Yields P ops o v a ∧ RInv ops K rs s N M w0 ρ0 a0 (L.setIfInBounds i true) (a.put o.dst v) w := by
          rcases step i o ho hi hk with ⟨hw, hS⟩ | ⟨hw, hS⟩
          · rcases pure_run (P := P) (a := a) (hpu i o ho hk0) with ⟨v, hv⟩ | hv
            · unfold gives at hS
              rw [hv w] at hS
              exact ⟨v, .inl ⟨hw, hv⟩, hS⟩
            · obtain ⟨q, hq⟩ := hv w
              unfold gives at hS
              rw [hq] at hS
              exact hS.elim
          · exact ⟨undef, .inr ⟨hw, rfl⟩, hS⟩
        obtain ⟨v, hy, hnext⟩ := hy
        refine wpAny_first ho (fun j o cs b hj => Region.noSelect_spec hc.sel j o cs b hj) (fun c a w hq => hq.elim) n L a w (fun j oj hj hne hun hno => ?_) hi hy ?_
        · rcases hc.pure_ i o ho hk0 j oj hj hne with ⟨e, he, hb, hon⟩ | hb | hap
          · exact absurd hon (hno e he hb)
          · have := Rg.closed_anc hc hI.closed i o ho hall j hb
            have hjl : j < L.size := by rw [hI.size]; exact (Array.getElem?_eq_some_iff.1 hj).1
            simp [hjl] at this hun
            rw [this] at hun
            cases hun
          · exact hap
        · exact ih _ _ _ (by omega) hnext
      · refine ⟨fun h0 => absurd hhr (by rw [h0]; exact List.not_mem_nil), fun i hi => ?_⟩
        obtain ⟨_, o, ho, hall⟩ := mem_ready.1 hi
        have hlt := (Array.getElem?_eq_some_iff.1 ho).1
        have hk0 : at_ K i ≠ 0 := fun e => hpure ⟨i, hi, e⟩
        have hk : at_ K i ≠ 2 := by
          intro hk2
          have hkh : at_ K h ≠ 0 := fun e => hpure ⟨h, hhr, e⟩
          have := Rg.closed_anc hc hI.closed i o ho hall h ((hc.tails i o ho hk2).1 h hh1 hkh hh2)
          rw [hh3] at this
          cases this
        have hcount := Rg.unl_set (ops := ops) (i := i) hlt (by rw [hI.size]; exact hlt) (Rg.getD_of_ready hi)
        unfold wpOp
        simp only [ho]
        rcases step i o ho hi hk with ⟨hw, hS⟩ | ⟨hw, hS⟩
        · rw [if_pos hw]
          exact .inl (Rg.wp_of_gives hS fun v w' hR => ih _ _ _ (by omega) hR)
        · rw [if_neg (by rw [hw]; simp)]
          exact ih _ _ _ (by omega) hS

end
end Go.Proofs.Ytgeldhdijochdaa.Am
/- The abstract machine: regions, whole. Conditions: none. -/
namespace Go.Proofs.Ytgeldhdijochdaa.Am
set_option linter.unusedVariables false
set_option linter.unusedSimpArgs false
open Go Go.RowKit
open Rg (gives at_ writerOf dstOf)

section
variable {P : Program} {T : List (Nat × Ty)} {O : List (Nat × Ent)} {N : Nat} {M : List Nat} {w0 : Wd} {ops : Array Oper} {A K : List Nat} {H : Nat → Hint} {s : St}
variable [GT]

omit [GT] in
theorem putOne_nx (rs : List (Nat × Res)) (i : Nat) (s : St) : (putOne ops rs i s).nx = s.nx ∧ (putOne ops rs i s).gl = s.gl ∧ (putOne ops rs i s).tm.length = s.tm.length := by
  unfold putOne
  split
  · refine ⟨rfl, rfl, ?_⟩
    simp only
    split
    · rw [setNth_len]
    · rfl
  · exact ⟨rfl, rfl, rfl⟩
omit [GT] in
theorem putAll_nx (rs : List (Nat × Res)) : ∀ (l : List Nat) (s : St), (putAll ops rs l s).nx = s.nx ∧ (putAll ops rs l s).gl = s.gl ∧ (putAll ops rs l s).tm.length = s.tm.length
  | [], _ => ⟨rfl, rfl, rfl⟩
  | i :: l, s => by
    obtain ⟨h1, h2, h3⟩ := putAll_nx rs l (putOne ops rs i s)
    obtain ⟨e1, e2, e3⟩ := putOne_nx (ops := ops) rs i s
    exact ⟨h1.trans e1, h2.trans e2, h3.trans e3⟩
omit [GT] in
theorem putOne_get {rs : List (Nat × Res)} {i : Nat} {s : St} {t : Nat} {sv : SV} (h : (putOne ops rs i s).get t = some sv) : (∃ r, look rs i = some r ∧ dstOf ops i = some t ∧ sv = r.val) ∨ ((∀ r, look rs i = some r → dstOf ops i ≠ some t) ∧ s.get t = some sv) := by
  unfold putOne at h
  cases hr : look rs i with
  | none =>
    rw [hr] at h
    exact .inr ⟨(fun r hr' => by cases hr'), h⟩
  | some r =>
    rw [hr] at h
    simp only [St.get] at h
    cases hd : dstOf ops i with
    | none =>
      rw [hd] at h
      exact .inr ⟨fun r' _ => by simp, h⟩
    | some u =>
      rw [hd] at h
      simp only [nth_set] at h
      by_cases hu : u = t
      · subst hu
        rw [if_pos rfl] at h
        by_cases hl : u < s.tm.length
        · rw [if_pos hl] at h
          simp only [Option.some.injEq] at h
          exact .inl ⟨r, rfl, rfl, h.symm⟩
        · rw [if_neg hl] at h; cases h
      · rw [if_neg hu] at h
        exact .inr ⟨fun r' _ e => hu (by injection e), h⟩
omit [GT] in
theorem putAll_get (rs : List (Nat × Res)) : ∀ (l : List Nat) (s : St) (t : Nat) (sv : SV), (putAll ops rs l s).get t = some sv → (∃ i r, i ∈ l ∧ look rs i = some r ∧ dstOf ops i = some t ∧ sv = r.val) ∨ ((∀ i r, i ∈ l → look rs i = some r → dstOf ops i ≠ some t) ∧ s.get t = some sv)
  | [], _, _, _, h => .inr ⟨(fun i r hi => by cases hi), h⟩
  | i :: l, s, t, sv, h => by
    rcases putAll_get rs l _ t sv h with ⟨j, r, hj, h1, h2, h3⟩ | ⟨h1, h2⟩
    · exact .inl ⟨j, r, List.mem_cons_of_mem _ hj, h1, h2, h3⟩
    · rcases putOne_get h2 with ⟨r, hr, hd, rfl⟩ | ⟨hno, hs⟩
      · exact .inl ⟨i, r, by simp, hr, hd, rfl⟩
      · refine .inr ⟨fun j r hj hjr => ?_, hs⟩
        rcases List.mem_cons.1 hj with rfl | hj
        · exact hno r hjr
        · exact h1 j r hj hjr
omit [GT] in
theorem putOne_hp {rs : List (Nat × Res)} {i : Nat} {s : St} {id : Nat} {b : Blk} (h : look (putOne ops rs i s).hp id = some b) : (∃ r, look rs i = some r ∧ s.nx + 4 * i ≤ id ∧ id < s.nx + 4 * i + r.new.length ∧ r.new[id - (s.nx + 4 * i)]? = some b) ∨ look s.hp id = some b := by
  unfold putOne at h
  cases hr : look rs i with
  | none => rw [hr] at h; exact .inr h
  | some r =>
    rw [hr] at h
    simp only [look_newH] at h
    by_cases hc : s.nx + 4 * i ≤ id ∧ id < s.nx + 4 * i + r.new.length
    · rw [if_pos hc] at h
      exact .inl ⟨r, rfl, hc.1, hc.2, h⟩
    · rw [if_neg hc] at h
      exact .inr h
omit [GT] in
theorem putAll_hp (rs : List (Nat × Res)) : ∀ (l : List Nat) (s : St) (id : Nat) (b : Blk), look (putAll ops rs l s).hp id = some b → (∃ i r, i ∈ l ∧ look rs i = some r ∧ s.nx + 4 * i ≤ id ∧ id < s.nx + 4 * i + r.new.length ∧ r.new[id - (s.nx + 4 * i)]? = some b) ∨ look s.hp id = some b
  | [], _, _, _, h => .inr h
  | i :: l, s, id, b, h => by
    have hnx := (putOne_nx (ops := ops) rs i s).1
    rcases putAll_hp rs l _ id b h with ⟨j, r, hj, h1⟩ | h1
    · rw [hnx] at h1
      exact .inl ⟨j, r, List.mem_cons_of_mem _ hj, h1⟩
    · rcases putOne_hp h1 with ⟨r, h2⟩ | h2
      · exact .inl ⟨i, r, by simp, h2⟩
      · exact .inr h2

omit [GT] in
theorem look_killH (hp : List (Nat × Blk)) : ∀ (l : List Nat) (i : Nat) (b : Blk), look (killH hp l) i = some b → i ∉ l ∧ look hp i = some b
  | [], i, b, h => ⟨by simp, h⟩
  | id :: l, i, b, h => by
    simp only [killH] at h
    rw [look_dropH] at h
    by_cases hi : id = i
    · rw [if_pos hi] at h; cases h
    · rw [if_neg hi] at h
      obtain ⟨h1, h2⟩ := look_killH hp l i b h
      refine ⟨fun hm => ?_, h2⟩
      rcases List.mem_cons.1 hm with e | hm
      · exact hi e.symm
      · exact h1 hm
omit [GT] in
theorem mem_killIds {rs : List (Nat × Res)} {id : Nat} : ∀ (l : List Nat) (k : Nat) (r : Res), k ∈ l → look rs k = some r → r.upd = [(id, none)] → id ∈ killIds rs l
  | [], _, _, h, _, _ => by cases h
  | x :: l, k, r, h, hr, hu => by
    unfold killIds
    rcases List.mem_cons.1 h with rfl | h
    · rw [hr]
      simp only [hu]
      exact List.mem_cons_self
    · have ih := mem_killIds l k r h hr hu
      split
      · split
        · exact List.mem_cons_of_mem _ ih
        · exact ih
      · exact ih
theorem HR.drew {ρ : Nat → Loc} {D : Nat → Prop} {G : Nat → Option Blk} {w : World} (h : HR ρ D N M G w) : HR ρ D N M G w.drew :=
  h.step (U := fun _ => False) (fun _ _ => rfl) (fun _ h => h) (Kept.of_below ((Below.refl _ _).drew)) (fun _ _ h _ => h) (fun _ _ _ _ _ _ => rfl) (fun _ _ _ h => h.elim) (fun _ _ _ _ h => h.elim) (fun _ _ _ _ h => h.elim) (fun _ _ _ _ _ _ _ _ _ h => (h.elim id id).elim)

omit [GT] in
theorem rep_false (n j : Nat) : (Array.replicate n false).getD j false = false := by
  rcases Nat.lt_or_ge j n with hj | hj <;> simp [hj]
theorem drawK_sound {bb : Bool} (hT : TOK P T) (hO : OOK P O) (hm : P.follows .mixedOrders = true) {l : List Oper} {id : Nat} {Q : Exit → Act → World → Prop} {s' : St} {p : Asm} {ρ : Nat → Loc} {a : Act} {w : World} (h : drawK bb T O l H s = some (s', p)) (hp : p.holds) (hR : RelS ρ N M w0 s a w)
    (hQ : ∀ ρ' a' w', RelS ρ' N M w0 s' a' w' → NoPanic Q .normal a' w') : (Code.region id l.toArray true).wp P Q a w := by
  unfold drawK at h
  simp only at h
  split at h
  · rename_i hchk
    simp only [Bool.and_eq_true] at hchk
    obtain ⟨⟨⟨hB, hpu⟩, hdst⟩, htl⟩ := hchk
    split at h
    · rename_i rs p1 h1
      split at h
      rotate_left
      · cases h
      rename_i hkB
      split at h
      · rename_i s1 q h2
        simp only [Option.some.injEq, Prod.mk.injEq] at h
        obtain ⟨rfl, rfl⟩ := h
        generalize hA : ancL l [] = A at *
        generalize hK : kindL bb l.toArray l A 0 [] = K at *
        generalize hmm : (Rg.headL l.toArray K).length = m at *
        have hc := Rg.check_of hB
        rw [beq_iff_eq] at htl
        have hheads : ∀ i, i < l.toArray.size → at_ K i ≠ 2 → i < m := fun i hi hk => by
          rcases Nat.lt_or_ge i m with h | h
          · exact h
          · exfalso
            have : i ∈ Rg.tailL l.toArray K := by
              rw [htl]
              rw [List.mem_iff_getElem?]
              exact ⟨i - m, by rw [List.getElem?_drop, show m + (i - m) = i by omega, List.getElem?_range hi]⟩
            unfold Rg.tailL at this
            rw [List.mem_filter] at this
            exact hk (by simpa using this.2)
        obtain ⟨_, hspec⟩ := headOps_spec hc (l.take m) 0 [] rs p1 h1 hp.1 (fun j r hj => by cases hj) (fun k o hk => by
          rw [List.getElem?_take] at hk
          split at hk
          · rw [Nat.zero_add]; simpa using hk
          · cases hk)
        have hhd : ∀ i o, l.toArray[i]? = some o → at_ K i ≠ 2 → HeadOK T O l.toArray A H s rs i o := fun i o ho hk => by
          have hi := hheads i (Array.getElem?_eq_some_iff.1 ho).1 hk
          have := hspec i o (by rw [List.getElem?_take_of_lt hi]; simpa using ho)
          rwa [Nat.zero_add] at this
        have hsl : ∀ (i : Nat) (o : Oper) (t : Tmp), l.toArray[i]? = some o → o.dst = some t → t < a.tmps.size := fun i o t ho hd => by
          have hmem : o ∈ l := by have := Array.mem_of_getElem? ho; simpa using this
          have := List.all_eq_true.1 hdst o hmem
          simp only [hd, decide_eq_true_eq] at this
          rw [hR.size]; exact this
        have hpure : ∀ i o, l.toArray[i]? = some o → at_ K i = 0 → pureO o.op = true := fun i o ho hk => by
          have := List.all_eq_true.1 hpu i (List.mem_range.2 (Array.getElem?_eq_some_iff.1 ho).1)
          rw [hk, ho] at this
          simpa using this
        have hKO : KillOK l.toArray A K s.nx rs := fun k r id hr hu hk2 hks i his hi2 hne hbit => by
          have hkm := hheads k hks hk2
          have him := hheads i his hi2
          unfold killB at hkB
          have := List.all_eq_true.1 hkB k (List.mem_range.2 hkm)
          rw [hr] at this
          simp only [hu] at this
          have := List.all_eq_true.1 this i (List.mem_range.2 him)
          rw [hbit] at this
          simp only [Bool.not_true, Bool.false_or, Bool.or_eq_true] at this
          rcases this with h | h | h
          · exact absurd (Nat.eq_of_beq_eq_true h) hne
          · exact .inl h
          · exact .inr h
        refine wp_region_noPanic (wp_region_any hm ?_)
        have hrep : ∀ j, (Array.replicate l.toArray.size false).getD j false = false := rep_false _
        have hunl : Rg.unl l.toArray (Array.replicate l.toArray.size false) = l.toArray.size := by
          unfold Rg.unl
          rw [List.countP_eq_length.2 fun i _ => by rw [hrep i, Bool.not_false], List.length_range]
        refine draw_any hT hO hc hpure (a0 := a) (w1 := w) hR.rel hsl hhd hKO ?_ _ _ _ _ hunl ⟨by simp, fun j oj _ hl => absurd hl (by rw [hrep j]; exact Bool.false_ne_true), fun j _ _ => hrep j, hR.rel.defers, rfl, ρ, fun _ _ => rfl, fun t => ?_, ?_, hR.rel.kept.trans (Kept.of_below ((Below.refl _ _).drew))⟩
        · -- behind the heads
          intro L a' w' hI hall
          obtain ⟨ρ', hag, hslots, hHR, hK'⟩ := hI.ex
          have htail : (Rg.tailL l.toArray K).filterMap (l.toArray[·]?) = l.drop m := by
            rw [htl]
            exact Rg.drop_range l m
          rw [htail]
          refine seq_sound hT hO (l.drop m) m _ _ _ ρ' a' w' h2 hp.2 ⟨⟨fun t sv ht => ?_, fun g i hg => ?_, ?_, hK', hI.defers⟩, ?_⟩ hQ
          · have ht' : (putAll l.toArray rs (List.range m) s).get t = some sv := ht
            have hDn : ∀ id, DL s.nx L id → id < s.nx + 4 * m := fun id hid => by
              rcases hid with hid | ⟨h1, h2⟩
              · omega
              · have hlt : (id - s.nx) / 4 < l.toArray.size := by
                  rcases Nat.lt_or_ge ((id - s.nx) / 4) L.size with h3 | h3
                  · rw [hI.size] at h3; exact h3
                  · simp [Array.getElem?_eq_none h3] at h2
                have := hheads _ hlt (fun hk2 => by rw [hI.notail _ hlt hk2] at h2; cases h2)
                omega
            rcases putAll_get rs _ _ t sv ht' with ⟨i, r, hi, hr, hd, rfl⟩ | ⟨hno, hs⟩
            · have hil : i < l.toArray.size := by
                unfold dstOf at hd
                cases ho : l.toArray[i]? with
                | none => rw [ho] at hd; cases hd
                | some o => exact (Array.getElem?_eq_some_iff.1 ho).1
              have ho : l.toArray[i]? = some l.toArray[i] := by rw [Array.getElem?_eq_getElem]
              have hw := hc.one i _ t ho (by unfold dstOf at hd; rw [ho] at hd; exact hd)
              have hki : at_ K i ≠ 2 := fun hk2 => by
                have : i ∈ Rg.tailL l.toArray K := by
                  unfold Rg.tailL
                  rw [List.mem_filter, List.mem_range]
                  exact ⟨hil, by simp [hk2]⟩
                rw [htl] at this
                have h3 := List.mem_range.1 hi
                obtain ⟨k, hk⟩ := List.mem_iff_getElem?.1 this
                rw [List.getElem?_drop] at hk
                have hkr := List.getElem?_eq_some_iff.1 hk
                obtain ⟨hkr1, hkr2⟩ := hkr
                rw [List.getElem_range] at hkr2
                omega
              have hst := hslots t
              rw [hw] at hst
              simp only at hst
              rw [if_pos (hall i hil hki)] at hst
              have e : resOf rs i = r := by unfold resOf; rw [hr]
              rw [e] at hst
              exact ⟨hst.1, hst.2.mono hDn⟩
            · obtain ⟨h3, h4⟩ := hR.rel.slots t sv hs
              have hst := hslots t
              have hev : a'.eval (.tmp t) = a.eval (.tmp t) := by
                cases hw : writerOf l.toArray t with
                | none => rw [hw] at hst; exact hst
                | some d =>
                  rw [hw] at hst
                  simp only at hst
                  have hdlt : d < l.toArray.size := by
                    unfold writerOf at hw
                    exact List.mem_range.1 (List.mem_of_find?_eq_some hw)
                  have hdd : dstOf l.toArray d = some t := by
                    unfold writerOf at hw
                    have := List.find?_some hw
                    unfold dstOf
                    simpa using this
                  by_cases hkd : at_ K d = 2
                  · rw [if_neg (by rw [hI.notail d hdlt hkd]; exact Bool.false_ne_true)] at hst
                    exact hst
                  · obtain ⟨r, hr, _⟩ := hhd d l.toArray[d] (by rw [Array.getElem?_eq_getElem]) hkd
                    exact absurd hdd (hno d r (List.mem_range.2 (hheads d hdlt hkd)) hr)
              refine ⟨by rw [hev, h3, SV.conc_congr hag h4], h4.mono fun id hid => ?_⟩
              have : id < s.nx := hid
              show id < s.nx + 4 * m
              omega
          · have hg' : LkOK s.gl w0.lk g i := by
              have := (putAll_nx (ops := l.toArray) rs (List.range m) s).2.1
              rw [← this]; exact hg
            obtain ⟨h3, h4⟩ := hR.rel.globals g i hg'
            refine ⟨by rw [hag i h4]; exact h3, ?_⟩
            have : i < s.nx := h4
            show i < s.nx + 4 * m
            omega
          · have hDn : ∀ id, DL s.nx L id → id < s.nx + 4 * m := fun id hid => by
              rcases hid with hid | ⟨h1, h2⟩
              · omega
              · have hlt : (id - s.nx) / 4 < l.toArray.size := by
                  rcases Nat.lt_or_ge ((id - s.nx) / 4) L.size with h3 | h3
                  · rw [hI.size] at h3; exact h3
                  · simp [Array.getElem?_eq_none h3] at h2
                have := hheads _ hlt (fun hk2 => by rw [hI.notail _ hlt hk2] at h2; cases h2)
                omega
            refine (hHR.monoD hDn).weaken fun id b hb => ?_
            obtain ⟨hnk, hb⟩ := look_killH _ _ _ _ hb
            rcases putAll_hp rs _ _ id b hb with ⟨i, r, hi, hr, h3, h4, h5⟩ | h3
            · have hil : i < l.toArray.size := by
                have h6 := List.mem_range.1 hi
                have : m ≤ l.toArray.size := by
                  rw [← hmm]
                  unfold Rg.headL
                  exact Nat.le_trans (List.length_filter_le _ _) (by simp)
                omega
              have hki : at_ K i ≠ 2 := fun hk2 => by
                have : i ∈ Rg.tailL l.toArray K := by
                  unfold Rg.tailL
                  rw [List.mem_filter, List.mem_range]
                  exact ⟨hil, by simp [hk2]⟩
                rw [htl] at this
                have h6 := List.mem_range.1 hi
                obtain ⟨k, hk⟩ := List.mem_iff_getElem?.1 this
                rw [List.getElem?_drop] at hk
                obtain ⟨hkr1, hkr2⟩ := List.getElem?_eq_some_iff.1 hk
                rw [List.getElem_range] at hkr2
                omega
              obtain ⟨r', hr', _, _, hlen, _⟩ := hhd i l.toArray[i] (by rw [Array.getElem?_eq_getElem]) hki
              rw [hr] at hr'
              injection hr' with hr'
              subst hr'
              have hq : (id - s.nx) / 4 = i := by omega
              refine heapI_mk (by omega) (by rw [hq]; exact hall i hil hki) ?_ (by rw [hq]; exact hr) (by rw [show (id - s.nx) % 4 = id - (s.nx + 4 * i) by omega]; exact h5)
              cases hkq : killed l.toArray.size rs (fun d => L.getD d false) id with
              | false => rfl
              | true =>
                obtain ⟨k, rk, k1, k2, k3, k4⟩ := killed_iff.1 hkq
                have hk2' : at_ K k ≠ 2 := fun e => by rw [hI.notail k k1 e] at k2; cases k2
                exact absurd (mem_killIds _ k rk (List.mem_range.2 (hheads k k1 hk2')) k3 (kills_upd k4)) hnk
            · have h6 : id < s.nx := (hR.rel.hr.blk id b h3).1
              rw [heapI_lt h6]
              exact h3
          · rw [hI.tmps, hR.size]
            exact (putAll_nx (ops := l.toArray) rs (List.range m) s).2.2.symm
        · split
          · rename_i d _
            rw [hrep d]
            exact if_neg Bool.false_ne_true ▸ rfl
          · rfl
        · refine (hR.rel.hr.drew.monoD fun id h => .inl h).weaken fun id b hb => ?_
          rcases Nat.lt_or_ge id s.nx with h3 | h3
          · rw [heapI_lt h3] at hb; exact hb
          · have := (heapI_some h3 hb).1
            rw [hrep ((id - s.nx) / 4)] at this
            cases this
      · cases h
    · cases h
  · cases h
theorem draw_sound (hT : TOK P T) (hO : OOK P O) (hm : P.follows .mixedOrders = true) {l : List Oper} {id : Nat} {Q : Exit → Act → World → Prop} {s' : St} {p : Asm} {ρ : Nat → Loc} {a : Act} {w : World} (h : drawOps T O l H s = some (s', p)) (hp : p.holds) (hR : RelS ρ N M w0 s a w)
    (hQ : ∀ ρ' a' w', RelS ρ' N M w0 s' a' w' → NoPanic Q .normal a' w') : (Code.region id l.toArray true).wp P Q a w := by
  unfold drawOps at h
  split at h
  · rename_i r hr
    injection h with h
    subst h
    exact drawK_sound hT hO hm hr hp hR hQ
  · exact drawK_sound hT hO hm h hp hR hQ
end
end Go.Proofs.Ytgeldhdijochdaa.Am
/- The abstract machine: code, and calls. Conditions: none. -/
namespace Go.Proofs.Ytgeldhdijochdaa.Am
set_option linter.unusedVariables false
set_option linter.unusedSimpArgs false
open Go Go.RowKit

/-- What is still to do: code; the end of a block; a loop with so many rounds left; a loop at whose head the machine stops. -/
inductive AI where
  | code (c : Code)
  | blk (id : Nat)
  | lp (n : Nat) (c : Code)
  | hd (n : Nat) (c : Code)
  | fin
def Kst (P : Program) (B : Exit → Act → World → Prop) : List AI → Exit → Act → World → Prop
  | [], e, a, w => B e a w
  | .code c :: k, .normal, a, w => c.wp P (Kst P B k) a w
  | .code _ :: k, e, a, w => Kst P B k e a w
  | .blk id :: k, e, a, w => Exit.inBlock id (Kst P B k) e a w
  | .lp n c :: k, .normal, a, w => Code.rounds P c (Kst P B k) n a w
  | .lp _ _ :: k, e, a, w => Kst P B k e a w
  | .hd n c :: k, .normal, a, w => Code.rounds P c (Kst P B k) n a w
  | .hd _ _ :: k, e, a, w => Kst P B k e a w
  | .fin :: _, .normal, a, w => B .ret a w
  | .fin :: k, e, a, w => Kst P B k e a w
def unwindTo (id : Nat) : List AI → Option (List AI)
  | [] => none
  | .blk i :: k => match Nat.beq i id with
    | true => some k
    | false => unwindTo id k
  | _ :: k => unwindTo id k
def firstReg : Code → Nat
  | .region id _ _ => id
  | .seq a _ => firstReg a
  | .block _ b => firstReg b
  | .loop b => firstReg b
  | _ => 0
structure Out where
  todo : List AI
  st : St
  asm : Asm
def andAsm (p : Asm) : Option Out → Option Out
  | some o => some { o with asm := p.and o.asm }
  | none => none
/-- The machine: until the end, a return, or a loop at whose head it is to stop. -/
def arun (T : List (Nat × Ty)) (O : List (Nat × Ent)) (H : Nat → Nat → Hint) (LH : List (Nat × Nat)) : Nat → List AI → St → Option Out
  | 0, _, _ => none
  | f + 1, todo, s =>
    match todo with
    | [] => some ⟨[], s, .tt⟩
    | .blk _ :: k => arun T O H LH f k s
    | .hd n c :: k => some ⟨.hd n c :: k, s, .tt⟩
    | .fin :: k => some ⟨.fin :: k, s, .tt⟩
    | .lp 0 _ :: _ => none
    | .lp (n + 1) c :: k => arun T O H LH f (.code c :: .lp n c :: k) s
    | .code c :: k =>
      match c with
      | .skip => arun T O H LH f k s
      | .seq x y => arun T O H LH f (.code x :: .code y :: k) s
      | .block id x => arun T O H LH f (.code x :: .blk id :: k) s
      | .loop x => match look LH (firstReg x) with
        | some n => arun T O H LH f (.lp n x :: k) s
        | none => some ⟨.code (.loop x) :: k, s, .tt⟩
      | .cond c x y => match evL s.get s.gl c with
        | some (.av (.one (.v (.bool true)))) => arun T O H LH f (.code x :: k) s
        | some (.av (.one (.v (.bool false)))) => arun T O H LH f (.code y :: k) s
        | _ => none
      | .exit id => match unwindTo id k with
        | some k' => arun T O H LH f k' s
        | none => none
      | .ret => some ⟨[.fin], s, .tt⟩
      | .region id ops draw => match (match draw with
          | false => seqOps T O ops (H id) ops.toList 0 s
          | true => drawOps T O ops.toList (H id) s) with
        | some (s', p) => andAsm p (arun T O H LH f k s')
        | none => none
      | _ => none

section
variable {P : Program} {T : List (Nat × Ty)} {O : List (Nat × Ent)} {N : Nat} {M : List Nat} {w0 : Wd} {B : Exit → Act → World → Prop}
variable [GT]

/-- From what is still to do, and what is known, the end is met. -/
def Runs (P : Program) (B : Exit → Act → World → Prop) (N : Nat) (M : List Nat) (w0 : Wd) (todo : List AI) (s : St) : Prop :=
  ∀ ρ a w, RelS ρ N M w0 s a w → Kst P B todo .normal a w

omit [GT] in
theorem kst_then (y : Code) (k : List AI) : Kst P B (.code y :: k) = Exit.then (y.wp P (Kst P B k)) (Kst P B k) := by
  funext e a w
  cases e <;> rfl
omit [GT] in
theorem kst_lp (n : Nat) (c : Code) (k : List AI) : Kst P B (.lp n c :: k) = Exit.then (Code.rounds P c (Kst P B k) n) (Kst P B k) := by
  funext e a w
  cases e <;> rfl
omit [GT] in
theorem kst_hd (n : Nat) (c : Code) (k : List AI) : Kst P B (.hd n c :: k) = Exit.then (Code.rounds P c (Kst P B k) n) (Kst P B k) := by
  funext e a w
  cases e <;> rfl
omit [GT] in
theorem kst_blk (id : Nat) (k : List AI) : Kst P B (.blk id :: k) = Exit.inBlock id (Kst P B k) := by
  funext e a w
  rfl
omit [GT] in
theorem unwind_spec {id : Nat} {a : Act} {w : World} : ∀ (k k' : List AI), unwindTo id k = some k' → Kst P B k' .normal a w → Kst P B k (.exit id) a w
  | [], _, h, _ => by cases h
  | .blk i :: k, k', h, hk => by
    unfold unwindTo at h
    rw [kst_blk]
    split at h
    · rename_i hi
      have := Nat.eq_of_beq_eq_true hi
      subst this
      simp only [Option.some.injEq] at h
      subst h
      show (if i = i then _ else _)
      rw [if_pos rfl]; exact hk
    · rename_i hi
      have hne : id ≠ i := fun e => by rw [e, Nat.beq_refl] at hi; cases hi
      show (if id = i then _ else _)
      rw [if_neg hne]
      exact unwind_spec k k' h hk
  | .code _ :: k, k', h, hk => unwind_spec k k' h hk
  | .lp _ _ :: k, k', h, hk => unwind_spec k k' h hk
  | .hd _ _ :: k, k', h, hk => unwind_spec k k' h hk
  | .fin :: k, k', h, hk => unwind_spec k k' h hk
omit [GT] in
theorem kst_ret {a : Act} {w : World} : ∀ (k : List AI), B .ret a w → Kst P B k .ret a w
  | [], h => h
  | .code _ :: k, h => kst_ret k h
  | .blk id :: k, h => by rw [kst_blk]; exact kst_ret k h
  | .lp _ _ :: k, h => kst_ret k h
  | .hd _ _ :: k, h => kst_ret k h
  | .fin :: k, h => kst_ret k h

theorem arun_sound (hT : TOK P T) (hO : OOK P O) (hm : P.follows .mixedOrders = true) {H : Nat → Nat → Hint} {LH : List (Nat × Nat)} : ∀ (f : Nat) (todo : List AI) (s : St) (o : Out), arun T O H LH f todo s = some o → o.asm.holds → Runs P B N M w0 o.todo o.st → Runs P B N M w0 todo s
  | 0, _, _, _, h, _, _ => by cases h
  | f + 1, todo, s, o, h, ha, hR => by
    unfold arun at h
    split at h
    · simp only [Option.some.injEq] at h
      subst h
      exact hR
    · rename_i id k
      have ih := arun_sound hT hO hm f k s o h ha hR
      intro ρ a w hr
      rw [kst_blk]
      exact ih ρ a w hr
    · simp only [Option.some.injEq] at h
      subst h
      exact hR
    · simp only [Option.some.injEq] at h
      subst h
      exact hR
    · cases h
    · rename_i n c k
      have ih := arun_sound hT hO hm f _ s o h ha hR
      intro ρ a w hr
      have := ih ρ a w hr
      show c.wp P (Exit.then (Code.rounds P c (Kst P B k) n) (Kst P B k)) a w
      rw [← kst_lp]
      exact this
    · rename_i c k
      split at h
      · have ih := arun_sound hT hO hm f _ s o h ha hR
        exact fun ρ a w hr => wp_skip (ih ρ a w hr)
      · rename_i x y
        have ih := arun_sound hT hO hm f _ s o h ha hR
        intro ρ a w hr
        refine wp_seq ?_
        rw [← kst_then]
        exact ih ρ a w hr
      · rename_i id x
        have ih := arun_sound hT hO hm f _ s o h ha hR
        intro ρ a w hr
        refine wp_block ?_
        rw [← kst_blk]
        exact ih ρ a w hr
      · rename_i x
        split at h
        · rename_i n hn
          have ih := arun_sound hT hO hm f _ s o h ha hR
          exact fun ρ a w hr => wp_loop_rounds n (ih ρ a w hr)
        · simp only [Option.some.injEq] at h
          subst h
          exact hR
      · rename_i c x y
        split at h
        · rename_i hc
          have ih := arun_sound hT hO hm f _ s o h ha hR
          exact fun ρ a w hr => wp_cond_true (hr.rel.ev c _ hc).1 (ih ρ a w hr)
        · rename_i hc
          have ih := arun_sound hT hO hm f _ s o h ha hR
          exact fun ρ a w hr => wp_cond_false (hr.rel.ev c _ hc).1 (ih ρ a w hr)
        · cases h
      · rename_i id
        split at h
        · rename_i k' hk
          have ih := arun_sound hT hO hm f _ s o h ha hR
          exact fun ρ a w hr => wp_exit (unwind_spec k k' hk (ih ρ a w hr))
        · cases h
      · simp only [Option.some.injEq] at h
        subst h
        exact fun ρ a w hr => wp_ret (kst_ret k (hR ρ a w hr))
      · rename_i id ops draw
        split at h
        · rename_i s' p hs
          cases hrest : arun T O H LH f k s' with
          | none => rw [hrest] at h; cases h
          | some o' =>
            rw [hrest] at h
            simp only [andAsm, Option.some.injEq] at h
            subst h
            have ih := arun_sound hT hO hm f k s' o' hrest ha.2 hR
            intro ρ a w hr
            cases draw with
            | false =>
              simp only at hs
              exact wp_region_list (seq_sound hT hO ops.toList 0 s s' p ρ a w hs ha.1 hr fun ρ' a' w' h' => ih ρ' a' w' h')
            | true =>
              simp only at hs
              have := draw_sound (id := id) (Q := Kst P B k) hT hO hm hs ha.1 hr fun ρ' a' w' h' => NoPanic.normal (ih ρ' a' w' h')
              have e : ops.toList.toArray = ops := by simp
              rw [e] at this
              exact this
        · cases h
      · cases h
/-! ### What a function hands back -/
omit [GT] in
def resOne (T : List (Nat × Ty)) (s : St) : ResultVar → Option AV
  | .tmp t => match s.get t with
    | some (.av a) => some a
    | _ => none
  | .cell t ty => match s.get t, look T ty with
    | some (.av (.one (.p id off))), some q => match look s.hp id with
      | some b => match readAt q false b.c off with
        | some (.av a, _) => some a
        | _ => none
      | none => none
    | _, _ => none
omit [GT] in
def resAll (T : List (Nat × Ty)) (s : St) : List ResultVar → Option (List AV)
  | [] => some []
  | r :: l => match resOne T s r, resAll T s l with
    | some a, some q => some (a :: q)
    | _, _ => none
omit [GT] in
def resVal (T : List (Nat × Ty)) (s : St) (l : List ResultVar) : Option SV :=
  match resAll T s l with
  | some [a] => some (.av a)
  | some l => some (.tup l)
  | none => none

theorem readAt_asm {ty : Ty} {c : List Seg} {off : Nat} {v : SV} {p : Asm} (h : readAt ty false c off = some (v, p)) : p.holds := by
  unfold readAt at h
  cases hagg : ty.u.agg with
  | true =>
    rw [hagg] at h
    simp only at h
    split at h
    · simp only [Option.some.injEq, Prod.mk.injEq] at h; rw [← h.2]; trivial
    · cases h
  | false =>
    rw [hagg] at h
    simp only at h
    split at h
    · simp only [Option.some.injEq, Prod.mk.injEq] at h; rw [← h.2]; trivial
    · cases h
omit [GT] in
def resF (tmps : Array Value) : ResultVar → Sem Value
  | .tmp t => pure (tmps.getD t undef)
  | .cell a t => do loadVar t (← asAddr (tmps.getD a undef))
theorem resOne_spec (hT : TOK P T) {s : St} {ρ : Nat → Loc} {a : Act} {w : World} (h : RelS ρ N M w0 s a w) {r : ResultVar} {v : AV} (hr : resOne T s r = some v) :
    (resF a.tmps r).run P w = .ok (v.conc ρ) w := by
  cases r with
  | tmp t =>
    simp only [resOne] at hr
    split at hr
    · rename_i x hx
      simp only [Option.some.injEq] at hr
      subst hr
      have := (h.rel.slots t _ hx).1
      simp only [Act.eval, conc_av] at this
      simp only [resF, this]; rfl
    · cases hr
  | cell t ty =>
    simp only [resOne] at hr
    split at hr
    · rename_i id off q hx hq
      split at hr
      · rename_i b hb
        split at hr
        · rename_i x p hread
          simp only [Option.some.injEq] at hr
          subst hr
          have hv := (h.rel.slots t _ hx).1
          have hty := hT ty q hq
          have hp := readAt_asm hread
          obtain ⟨_, h2, h3⟩ := readAt_spec (P := P) (ρ := ρ) (w := w) hty hread hp
          simp only [Act.eval] at hv
          simp only [resF, hv]
          cases hagg : q.u.agg with
          | true =>
            obtain ⟨l, hl, he, hpos⟩ := h3 hagg
            obtain ⟨_, hlen⟩ := getSegs_spec ρ hl
            obtain ⟨y, hy, hc⟩ := cells_at (l := segsVals ρ l) h.rel.hr hb (getSegs_at ρ hl) (by omega)
            have e : x.conc ρ = .agg (segsVals ρ l).toArray := by
              have : SV.conc ρ (.av x) = SV.conc ρ (.av (mkAgg l)) := by rw [he]
              rw [conc_av, conc_av, mkAgg_conc] at this
              exact this
            rw [conc_p, hy, e]
            have hlc := run_loadCells_list (P := P) w (y.add off) (segsVals ρ l) hc
            rw [hlen] at hlc
            simp only [Option.map_some, asAddr, loadVar, Sem.run_bind, Sem.run_pure, Result.andThen_ok, hty.agg, hagg, if_true, hty.run_size, hlc]
          | false =>
            have h4 := h2 hagg
            obtain ⟨y, hy, hc⟩ := cells_at (l := [x.conc ρ]) (off := off) h.rel.hr hb (fun j u hj => by
              cases j with
              | zero => simp only [List.getElem?_cons_zero, Option.some.injEq] at hj; subst hj; exact h4
              | succ j => simp at hj) (by simp)
            rw [conc_p, hy]
            have hc0 := hc 0 _ rfl
            have : (y.add off).add 0 = y.add off := by simp [Addr.add]
            rw [this] at hc0
            simp [asAddr, loadVar, hty.agg, hagg, hc0]
        · cases hr
      · cases hr
    · cases hr
theorem resAll_spec (hT : TOK P T) {s : St} {ρ : Nat → Loc} {a : Act} {w : World} (h : RelS ρ N M w0 s a w) : ∀ (l : List ResultVar) (vs : List AV), resAll T s l = some vs →
    (l.mapM (resF a.tmps)).run P w = Result.ok (vs.map (AV.conc ρ)) w
  | [], vs, hr => by
    simp only [resAll, Option.some.injEq] at hr
    subst hr
    rfl
  | r :: l, vs, hr => by
    unfold resAll at hr
    split at hr
    · rename_i v q hv hq
      simp only [Option.some.injEq] at hr
      subst hr
      rw [List.mapM_cons, Sem.run_bind, resOne_spec hT h hv]
      simp only [Result.andThen_ok]
      rw [Sem.run_bind, resAll_spec hT h l q hq]
      rfl
    · cases hr
theorem resVal_spec (hT : TOK P T) {s : St} {ρ : Nat → Loc} {a : Act} {w : World} (h : RelS ρ N M w0 s a w) {fn : Func} {v : SV} (hr : resVal T s fn.results.toList = some v) : (results fn a.tmps).run P w = .ok (v.conc ρ) w := by
  unfold resVal at hr
  have key : ∀ vs, resAll T s fn.results.toList = some vs → (results fn a.tmps).run P w = .ok (if h : (vs.map (AV.conc ρ)).toArray.size = 1 then (vs.map (AV.conc ρ)).toArray[0] else .tuple (vs.map (AV.conc ρ)).toArray) w := by
    intro vs hvs
    have h1 := resAll_spec hT h _ _ hvs
    have e : results fn a.tmps = (do
      let vs ← fn.results.mapM (resF a.tmps)
      pure (if h : vs.size = 1 then vs[0] else .tuple vs)) := rfl
    rw [e, Sem.run_bind, Array.mapM_eq_mapM_toList]
    have h2 : (List.toArray <$> fn.results.toList.mapM (resF a.tmps)).run P w = .ok (vs.map (AV.conc ρ)).toArray w := by
      rw [← bind_pure_comp, Sem.run_bind, h1]
      rfl
    rw [h2]
    rfl
  split at hr
  · rename_i x hx
    simp only [Option.some.injEq] at hr
    subst hr
    rw [key _ hx]
    rfl
  · rename_i l hl hx
    simp only [Option.some.injEq] at hr
    subst hr
    rw [key _ hx, dif_neg]
    · rfl
    · intro h1
      simp at h1
      match l, h1, hl with
      | [x], _, hl => exact hl x rfl
  · cases hr
end
end Go.Proofs.Ytgeldhdijochdaa.Am
/- The abstract machine: contracts out of runs. Conditions: none. -/
namespace Go.Proofs.Ytgeldhdijochdaa.Am
set_option linter.unusedVariables false
set_option linter.unusedSimpArgs false
open Go Go.RowKit

theorem info_some {P : Program} {t : TypeId} {n : Nat} (h : (P.info? t).map (fun i => i.size) = some n) : ∃ i, P.info? t = some i ∧ i.size = n := by
  rw [Option.map_eq_some_iff] at h
  exact h
theorem info_of {P : Program} {t : TypeId} {size bytes : Nat} {z : Value} (h : (P.info? t).map (fun i => (i.size, i.bytes, i.zero)) = some (size, bytes, some z)) : ∃ i, P.info? t = some i ∧ i.size = size ∧ i.bytes = bytes ∧ i.zero = some z := by
  rw [Option.map_eq_some_iff] at h
  obtain ⟨i, hi, he⟩ := h
  simp only [Prod.mk.injEq] at he
  exact ⟨i, hi, he.1, he.2.1, he.2.2⟩
def stView (P : Program) (t : TypeId) : Option (List (Nat × TypeId) × Option (List (Nat × Nat))) :=
  match P.underlying t with
  | some (.struct fs) => some (fs.toList.map (fun f => (f.offset, f.type)), fs.toList.mapM (fun f => (P.info? f.type).map fun i => (f.offset, i.size)))
  | _ => none
theorem st_of {P : Program} {t : TypeId} {l : List (Nat × TypeId)} {pls : List (Nat × Nat)} (h : stView P t = some (l, some pls)) : UOK P t (.st l) := by
  unfold stView at h
  split at h
  · rename_i fs hu
    simp only [Option.some.injEq, Prod.mk.injEq] at h
    exact ⟨fs, hu, h.1.symm, pls, h.2⟩
  · cases h
def TyAll (P : Program) : List (Nat × Ty) → Prop
  | [] => True
  | x :: l => TyOK P x.1 x.2 ∧ TyAll P l
theorem tok_of {P : Program} : ∀ {l : List (Nat × Ty)}, TyAll P l → TOK P l
  | [], _ => fun t ty h => by cases h
  | (k, x) :: l, h => fun t ty ht => by
    rw [look_cons] at ht
    by_cases hk : k = t
    · rw [if_pos hk] at ht
      injection ht with ht
      subst hk ht
      exact h.1
    · rw [if_neg hk] at ht
      exact tok_of h.2 t ty ht
def EntAll [GT] (P : Program) : List (Nat × Ent) → Prop
  | [] => True
  | x :: l => EntOK P x.1 x.2 ∧ EntAll P l
theorem ook_of [GT] {P : Program} : ∀ {l : List (Nat × Ent)}, EntAll P l → OOK P l
  | [], _ => fun t ty h => by cases h
  | (k, x) :: l, h => fun t ty ht => by
    rw [look_cons] at ht
    by_cases hk : k = t
    · rw [if_pos hk] at ht
      injection ht with ht
      subst hk ht
      exact h.1
    · rw [if_neg hk] at ht
      exact ook_of h.2 t ty ht

section
variable {P : Program} {T : List (Nat × Ty)} {O : List (Nat × Ent)}
variable [GT]

omit [GT] in
/-- The state at a function's beginning. -/
def start (avs : List SV) (n : Nat) (hp : List (Nat × Blk)) (nx : Nat) (gl : List (Nat × Nat)) : St :=
  { tm := avs.map some ++ List.replicate (n - avs.length) none, hp, nx, gl }
omit [GT] in
theorem nth_get? {α : Type} : ∀ (l : List α) (n : Nat), nth l n = l[n]?
  | [], _ => by simp [nth]
  | _ :: _, 0 => rfl
  | _ :: l, n + 1 => by rw [nth, nth_get? l n]; rfl
theorem rel_start {ρ : Nat → Loc} {M : List Nat} {w : World} {avs : List SV} {n nx : Nat} {hp : List (Nat × Blk)} {gl : List (Nat × Nat)} (hin : ∀ s ∈ avs, s.In (· < nx)) (hlen : avs.length ≤ n) (hG : HR ρ (· < nx) w.heap.size M (look hp) w) {lk : Nat → Option Addr} (hgl : ∀ x id, LkOK gl lk x id → (ρ id).a = some x ∧ id < nx) :
    RelS ρ w.heap.size M ⟨w, lk⟩ (start avs n hp nx gl) { tmps := (avs.map (SV.conc ρ)).toArray ++ Array.replicate (n - (avs.map (SV.conc ρ)).toArray.size) undef, defers := [] } w := by
  refine ⟨⟨fun t sv ht => ?_, hgl, hG, Kept.refl _ _ _, rfl⟩, by simp [start]⟩
  unfold St.get start at ht
  simp only [nth_get?] at ht
  split at ht
  · rename_i v hv
    simp only [Option.some.injEq] at ht
    subst ht
    rw [List.getElem?_append] at hv
    split at hv
    · rename_i hl
      rw [List.getElem?_map, Option.map_eq_some_iff] at hv
      obtain ⟨x, hx, he⟩ := hv
      injection he with he
      subst he
      refine ⟨?_, hin x (List.mem_of_getElem? hx)⟩
      have hl' : t < avs.length := by simpa using hl
      simp only [Act.eval, Array.getD_eq_getD_getElem?]
      rw [Array.getElem?_append_left (by simpa using hl')]
      simp [hx]
    · rw [List.getElem?_replicate] at hv
      split at hv
      · cases hv
      · cases hv
  · cases ht
/-- A call, out of a run from its function's beginning. -/
theorem calls_am {f : FuncId} {fn : Func} {c : Code} (hf : P.funcs[f]? = some fn) (hb : fn.body = some c) {ρ : Nat → Loc} {M : List Nat} {w : World} {avs : List SV} {nx : Nat} {hp : List (Nat × Blk)} {gl : List (Nat × Nat)} {args : Array Value} (hargs : args = (avs.map (SV.conc ρ)).toArray) (hin : ∀ s ∈ avs, s.In (· < nx)) (hlen : avs.length ≤ fn.ntmps) (hG : HR ρ (· < nx) w.heap.size M (look hp) w) {lk : Nat → Option Addr} (hgl : ∀ x id, LkOK gl lk x id → (ρ id).a = some x ∧ id < nx) {R : Ending → World → Prop}
    (h : Runs P (bodyPost P fn R) w.heap.size M ⟨w, lk⟩ [.code c] (start avs fn.ntmps hp nx gl)) : Calls P f args w R := by
  refine calls_of_wp hf hb ?_
  subst hargs
  exact h ρ _ w (rel_start hin hlen hG hgl)
/-- The end of a run. -/
theorem runs_end (hT : TOK P T) {fn : Func} {R : Ending → World → Prop} {N : Nat} {M : List Nat} {w0 : Wd} {todo : List AI} {s : St} {v : SV} (ht : todo = [] ∨ todo = [.fin]) (hv : resVal T s fn.results.toList = some v) (hR : ∀ ρ a w, RelS ρ N M w0 s a w → R (.returned (v.conc ρ)) w) : Runs P (bodyPost P fn R) N M w0 todo s := by
  intro ρ a w h
  have h1 := resVal_spec (P := P) hT h hv
  rcases ht with rfl | rfl
  · exact ⟨h.rel.defers, _, h1, hR ρ a w h⟩
  · exact ⟨h.rel.defers, _, h1, hR ρ a w h⟩
omit [GT] in
/-- A run whose every step the machine makes. -/
def whole (T : List (Nat × Ty)) (O : List (Nat × Ent)) (H : Nat → Nat → Hint) (LH : List (Nat × Nat)) (fuel : Nat) (rs : List ResultVar) (todo : List AI) (s : St) : Option (SV × St × Asm) :=
  match arun T O H LH fuel todo s with
  | some o => match o.todo with
    | [] => match resVal T o.st rs with
      | some v => some (v, o.st, o.asm)
      | none => none
    | [.fin] => match resVal T o.st rs with
      | some v => some (v, o.st, o.asm)
      | none => none
    | _ => none
  | none => none
theorem whole_runs (hT : TOK P T) (hO : OOK P O) (hm : P.follows .mixedOrders = true) {H : Nat → Nat → Hint} {LH : List (Nat × Nat)} {fuel : Nat} {fn : Func} {R : Ending → World → Prop} {N : Nat} {M : List Nat} {w0 : Wd} {todo : List AI} {s : St} {v : SV} {st : St} {p : Asm} (h : whole T O H LH fuel fn.results.toList todo s = some (v, st, p)) (hp' : p.holds)
    (hR : ∀ ρ w, HR ρ (· < st.nx) N M (look st.hp) w → Kept N M w0.w w → (∀ id x, w0.lk id = some x → (ρ id).a = some x) → R (.returned (v.conc ρ)) w) : Runs P (bodyPost P fn R) N M w0 todo s := by
  unfold whole at h
  split at h
  · rename_i o ho
    split at h
    · rename_i ht
      split at h
      · rename_i v' hv
        simp only [Option.some.injEq, Prod.mk.injEq] at h
        obtain ⟨rfl, rfl, rfl⟩ := h
        exact arun_sound hT hO hm _ _ _ _ ho hp' (runs_end hT (.inl ht) hv fun ρ a w h => hR ρ w h.rel.hr h.rel.kept (fun id x hx => (h.rel.globals x id (.inr hx)).1))
      · cases h
    · rename_i ht
      split at h
      · rename_i v' hv
        simp only [Option.some.injEq, Prod.mk.injEq] at h
        obtain ⟨rfl, rfl, rfl⟩ := h
        exact arun_sound hT hO hm _ _ _ _ ho hp' (runs_end hT (.inr ht) hv fun ρ a w h => hR ρ w h.rel.hr h.rel.kept (fun id x hx => (h.rel.globals x id (.inr hx)).1))
      · cases h
    · cases h
  · cases h

omit [GT] in
/-- What a whole run hands back, and what it leans on. -/
def wholeV (T : List (Nat × Ty)) (O : List (Nat × Ent)) (H : Nat → Nat → Hint) (LH : List (Nat × Nat)) (fuel : Nat) (fn : Func) (avs : List SV) : Option (SV × List Prop) :=
  match fn.body with
  | some c => match whole T O H LH fuel fn.results.toList [.code c] (start avs fn.ntmps [] 0 []) with
    | some (v, _, p) => some (v, p.list [])
    | none => none
  | none => none
/-- A function of values to a value. -/
theorem am_val (hT : TOK P T) (hO : OOK P O) (hm : P.follows .mixedOrders = true) {H : Nat → Nat → Hint} {LH : List (Nat × Nat)} {fuel : Nat} {f : FuncId} {fn : Func} (hf : P.funcs[f]? = some fn) {avs : List SV} (hlen : Nat.ble avs.length fn.ntmps = true) {v : SV} {ps : List Prop} (h : wholeV T O H LH fuel fn avs = some (v, ps)) (hps : AllP ps) (hin : avs.all (svB fun _ => false) = true) (hv : svB (fun _ => false) v = true) (ρ : Nat → Loc) (w : World) (hgw : GWok w.heap.size [] w) :
    Calls P f (avs.map (SV.conc ρ)).toArray w fun e w' => e = .returned (v.conc ρ) ∧ Below w.heap.size w w' := by
  unfold wholeV at h
  split at h
  · rename_i c hb
    split at h
    · rename_i v' hp p hw
      simp only [Option.some.injEq, Prod.mk.injEq] at h
      obtain ⟨rfl, rfl⟩ := h
      have hav : ∀ s ∈ avs, s.In (fun _ => False) := fun s hs => svB_in (f := fun _ => false) (fun _ h => by cases h) (List.all_eq_true.1 hin s hs)
      refine calls_am hf hb (ρ := ρ) (M := []) (nx := 0) (hp := []) (gl := []) rfl (fun s hs => (hav s hs).mono fun _ h => h.elim) (Nat.le_of_ble_eq_true hlen) ⟨Nat.le_refl _, fun id b h => (by cases h), fun id b x h => (by cases h), fun id b x h => (by cases h), fun i j bi bj x y h => (by cases h), hgw⟩ (lk := fun _ => none) (fun x id h => by rcases h with ⟨_, _, h⟩ | h <;> cases h) ?_
      refine whole_runs hT hO hm hw (Asm.of_list _ _ hps).1 fun ρ' w' _ hk _ => ⟨?_, hk.below⟩
      rw [SV.conc_congr (D := fun _ => False) (ρ := ρ) (ρ' := ρ') (fun _ h => h.elim) (svB_in (f := fun _ => false) (fun _ h => by cases h) hv)]
    · cases h
  · cases h
/-- A contract of a function that gives a value and leaves old memory alone, as the machine takes it. -/
theorem ent_val {f : FuncId} {args : Array Value} {w : World} {v : Value} (h : Calls P f args w fun e w' => e = .returned v ∧ Below w.heap.size w w') {ρ : Nat → Loc} {D : Nat → Prop} {N : Nat} {M : List Nat} {G : Nat → Option Blk} {base : Nat} {r : Res} (hG : HR ρ D N M G w) (hv : v = r.val.conc ρ) (hn : r.new = []) (hu : r.upd = []) :
    Calls P f args w fun e w' => ∃ v, e = .returned v ∧ ∃ ρ', Fits ρ D N M G base r w ρ' v w' := by
  refine h.mono fun e w' ⟨he, hb⟩ => ⟨v, he, ρ, fun _ _ => rfl, hv, ?_, Kept.of_below (hb.mono hG.size), fun _ => ⟨hb, fun k b x hk => by rw [hn] at hk; cases hk⟩⟩
  have : appl G base r = G := by
    funext id
    unfold appl
    rw [hu, hn]
    simp only [look, List.length_nil]
    rw [if_neg (by omega)]
  rw [this]
  exact hG.step (U := fun _ => False) (fun _ _ => rfl) (fun id h => .inl h) (Kept.of_below (hb.mono hG.size)) (fun _ _ h _ => h) (fun id b x hb' _ hx => hb.block _ (hG.lt id b x hb' hx)) (fun _ _ _ h => h.elim) (fun _ _ _ _ h => h.elim) (fun _ _ _ _ h => h.elim) (fun _ _ _ _ _ _ _ _ _ h => (h.elim id id).elim)
end
end Go.Proofs.Ytgeldhdijochdaa.Am
/- The abstract machine: contracts that hand back a new row, or a row to be read. Conditions: none. -/
namespace Go.Proofs.Ytgeldhdijochdaa.Am
set_option linter.unusedVariables false
set_option linter.unusedSimpArgs false
open Go Go.RowKit

section
variable {P : Program} {ρ : Nat → Loc} {D : Nat → Prop} {N : Nat} {M : List Nat} {G : Nat → Option Blk} {base : Nat}
variable [GT]

theorem ent_row {f : FuncId} {args : Array Value} {w : World} {ty : TypeId} {n : Nat} {xs : List Value} (h : Calls P f args w fun e w' => (∃ v, e = .returned v ∧ w'.ownsRow w.heap.size ty 1 v n xs) ∧ Below w.heap.size w w') (hG : HR ρ D N M G w) {c : List Seg} {r : Res} (hf : ¬ D base) (hn : r.new = [⟨1, ty, c⟩]) (hu : r.upd = []) (hin : segsIn D c) (hc : segsVals ρ c = xs) (hv : r.val = .av (.one (.r base 0 n 0))) :
    Calls P f args w fun e w' => ∃ v, e = .returned v ∧ ∃ ρ', Fits ρ D N M G base r w ρ' v w' := by
  refine h.mono fun e w' ⟨⟨v, he, ho⟩, hb⟩ => ?_
  obtain ⟨ad, cap, hvv⟩ : ∃ ad cap, v = .slice ad n cap := by
    rcases ho.2 with ⟨rfl, h⟩ | ⟨g, cap, cur, rfl, _⟩
    · exact ⟨none, 0, by rw [h]⟩
    · exact ⟨_, cap, rfl⟩
  have hl : xs.length = n := by have := ho.1; omega
  have hag : ∀ i, D i → up ρ base ⟨ad, cap⟩ i = ρ i := up_agree hf
  refine ⟨v, he, _, fits_fresh (l := ⟨ad, cap⟩) hG hb hf hn hu hin ?_ ?_ ?_⟩
  · show w'.ownsRow 0 ty 1 _ _ _
    simp only [up_self]
    rw [segsVals_congr hag hin, hc, hl, ← hvv]
    refine ⟨ho.1, ?_⟩
    rcases ho.2 with h | ⟨g, cap, cur, h1, h2, h3⟩
    · exact .inl h
    · exact .inr ⟨g, cap, cur, h1, Nat.zero_le _, h3⟩
  · intro x hx
    have := ho.lt x.block (by rw [hvv]; simp only at hx; rw [hx]; rfl)
    exact this
  · rw [hv, hvv]
    simp only [SV.conc, AV.conc, Seg.conc, up_self, radr, Nat.sub_zero]
    congr 1
    cases ad <;> simp [Addr.add]
end

/-! numbers -/
def wd (n j : Nat) : Nat := n / 18446744073709551616 ^ j % 18446744073709551616
theorem wd_lt (n j : Nat) : wd n j < 18446744073709551616 := Nat.mod_lt _ (by decide)
theorem word_wd (n j : Nat) : word n j = (wd n j : Int) := rfl

end Go.Proofs.Ytgeldhdijochdaa.Am
/- Plain law: a number out of four words: sums, differences, products, word by word. Conditions: words are below 2^64. -/
namespace Go.Proofs.Ytgeldhdijochdaa
set_option linter.unusedVariables false
set_option linter.unusedSimpArgs false
namespace Pl
def V (a0 a1 a2 a3 : Nat) : Nat := a0 + 18446744073709551616 * a1 + 340282366920938463463374607431768211456 * a2 + 6277101735386680763835789423207666416102355444464034512896 * a3
def W4 (a0 a1 a2 a3 : Nat) : Prop := a0 < 18446744073709551616 ∧ a1 < 18446744073709551616 ∧ a2 < 18446744073709551616 ∧ a3 < 18446744073709551616
/-- 2^256 -/
def T256 : Nat := 115792089237316195423570985008687907853269984665640564039457584007913129639936
def T64 : Nat := 18446744073709551616

theorem V_lt {a0 a1 a2 a3 : Nat} (h : W4 a0 a1 a2 a3) : V a0 a1 a2 a3 < T256 := by unfold W4 at h; unfold V T256; omega
theorem V_inj {a0 a1 a2 a3 b0 b1 b2 b3 : Nat} (ha : W4 a0 a1 a2 a3) (hb : W4 b0 b1 b2 b3) (h : V a0 a1 a2 a3 = V b0 b1 b2 b3) : a0 = b0 ∧ a1 = b1 ∧ a2 = b2 ∧ a3 = b3 := by
  unfold W4 at ha hb; unfold V at h
  refine ⟨?_, ?_, ?_, ?_⟩ <;> omega
theorem V_zero {a0 a1 a2 a3 : Nat} : V a0 a1 a2 a3 = 0 ↔ a0 = 0 ∧ a1 = 0 ∧ a2 = 0 ∧ a3 = 0 := by unfold V; omega
/-- The words of a number. -/
theorem words (n : Nat) (h : n < T256) : ∃ a0 a1 a2 a3, W4 a0 a1 a2 a3 ∧ V a0 a1 a2 a3 = n := by
  unfold T256 at h
  refine ⟨n % 18446744073709551616, n / 18446744073709551616 % 18446744073709551616, n / 340282366920938463463374607431768211456 % 18446744073709551616, n / 6277101735386680763835789423207666416102355444464034512896, ?_, ?_⟩
  · unfold W4; omega
  · unfold V; omega

def sbl (x y b : Nat) : Nat := (x + 18446744073709551616 - y - b) % 18446744073709551616
def sbb (x y b : Nat) : Nat := if x < y + b then 1 else 0
theorem sbb_le (x y b : Nat) : sbb x y b ≤ 1 := by unfold sbb; split <;> omega
theorem sb_spec {x y b r c : Nat} (hx : x < 18446744073709551616) (hy : y < 18446744073709551616) (hb : b ≤ 1) (h : sbl x y b = r ∧ sbb x y b = c) : r < 18446744073709551616 ∧ c ≤ 1 ∧ r + y + b = x + 18446744073709551616 * c := by
  obtain ⟨rfl, rfl⟩ := h
  unfold sbl sbb
  split <;> omega
theorem minus_spec {a0 a1 a2 a3 b0 b1 b2 b3 r0 r1 r2 r3 c0 c1 c2 c3 : Nat} (ha : W4 a0 a1 a2 a3) (hb : W4 b0 b1 b2 b3) (h0 : sbl a0 b0 0 = r0 ∧ sbb a0 b0 0 = c0) (h1 : sbl a1 b1 c0 = r1 ∧ sbb a1 b1 c0 = c1) (h2 : sbl a2 b2 c1 = r2 ∧ sbb a2 b2 c1 = c2) (h3 : sbl a3 b3 c2 = r3 ∧ sbb a3 b3 c2 = c3) :
    W4 r0 r1 r2 r3 ∧ c3 ≤ 1 ∧ V r0 r1 r2 r3 + V b0 b1 b2 b3 = V a0 a1 a2 a3 + T256 * c3 := by
  unfold W4 at *
  have e0 := sb_spec ha.1 hb.1 (by omega) h0
  have e1 := sb_spec ha.2.1 hb.2.1 e0.2.1 h1
  have e2 := sb_spec ha.2.2.1 hb.2.2.1 e1.2.1 h2
  have e3 := sb_spec ha.2.2.2 hb.2.2.2 e2.2.1 h3
  unfold V T256
  omega

def adl (x y c : Nat) : Nat := (x + y + c) % 18446744073709551616
def adc (x y c : Nat) : Nat := (x + y + c) / 18446744073709551616
theorem ad_spec {x y b r c : Nat} (hx : x < 18446744073709551616) (hy : y < 18446744073709551616) (hb : b ≤ 1) (h : adl x y b = r ∧ adc x y b = c) : r < 18446744073709551616 ∧ c ≤ 1 ∧ r + 18446744073709551616 * c = x + y + b := by
  obtain ⟨rfl, rfl⟩ := h
  unfold adl adc
  omega
theorem plus_spec {a0 a1 a2 a3 b0 b1 b2 b3 r0 r1 r2 r3 c0 c1 c2 c3 : Nat} (ha : W4 a0 a1 a2 a3) (hb : W4 b0 b1 b2 b3) (h0 : adl a0 b0 0 = r0 ∧ adc a0 b0 0 = c0) (h1 : adl a1 b1 c0 = r1 ∧ adc a1 b1 c0 = c1) (h2 : adl a2 b2 c1 = r2 ∧ adc a2 b2 c1 = c2) (h3 : adl a3 b3 c2 = r3 ∧ adc a3 b3 c2 = c3) :
    W4 r0 r1 r2 r3 ∧ c3 ≤ 1 ∧ V r0 r1 r2 r3 + T256 * c3 = V a0 a1 a2 a3 + V b0 b1 b2 b3 := by
  unfold W4 at *
  have e0 := ad_spec ha.1 hb.1 (by omega) h0
  have e1 := ad_spec ha.2.1 hb.2.1 e0.2.1 h1
  have e2 := ad_spec ha.2.2.1 hb.2.2.1 e1.2.1 h2
  have e3 := ad_spec ha.2.2.2 hb.2.2.2 e2.2.1 h3
  unfold V T256
  omega
theorem adc_le {x y b : Nat} (hx : x < 18446744073709551616) (hy : y < 18446744073709551616) (hb : b ≤ 1) : adc x y b ≤ 1 := by unfold adc; omega


theorem mulw_le {x y : Nat} (hx : x < 18446744073709551616) (hy : y < 18446744073709551616) : x * y ≤ 340282366920938463426481119284349108225 := Nat.mul_le_mul (Nat.le_sub_one_of_lt hx) (Nat.le_sub_one_of_lt hy)
/-- One word of a product with a word. -/
theorem times_word {a w k h l s c : Nat} (ha : a < 18446744073709551616) (hw : w < 18446744073709551616) (hk : k < 18446744073709551616) (h1 : l + 18446744073709551616 * h = a * w) (hl : l < 18446744073709551616) (h2 : adl l k 0 = s ∧ adc l k 0 = c) :
    s < 18446744073709551616 ∧ c ≤ 1 ∧ h + c < 18446744073709551616 ∧ s + 18446744073709551616 * (h + c) = a * w + k := by
  have e := ad_spec hl hk (by omega) h2
  have := mulw_le ha hw
  omega
theorem times_spec {a0 a1 a2 a3 w s0 s1 s2 s3 k1 k2 k3 k4 : Nat} (e0 : s0 + 18446744073709551616 * k1 = a0 * w + 0) (e1 : s1 + 18446744073709551616 * k2 = a1 * w + k1) (e2 : s2 + 18446744073709551616 * k3 = a2 * w + k2) (e3 : s3 + 18446744073709551616 * k4 = a3 * w + k3) :
    V s0 s1 s2 s3 + T256 * k4 = V a0 a1 a2 a3 * w := by
  unfold V T256
  have : (a0 + 18446744073709551616 * a1 + 340282366920938463463374607431768211456 * a2 + 6277101735386680763835789423207666416102355444464034512896 * a3) * w = a0 * w + 18446744073709551616 * (a1 * w) + 340282366920938463463374607431768211456 * (a2 * w) + 6277101735386680763835789423207666416102355444464034512896 * (a3 * w) := by
    simp only [Nat.add_mul, Nat.mul_assoc]
  rw [this]
  omega

/-- A number of eight words. -/
def V8 (x0 x1 x2 x3 x4 x5 x6 x7 : Nat) : Nat := V x0 x1 x2 x3 + T256 * V x4 x5 x6 x7
/-- The first words of a number. -/
def lowW (b0 b1 b2 b3 : Nat) : Nat → Nat
  | 0 => 0
  | 1 => b0
  | 2 => b0 + 18446744073709551616 * b1
  | 3 => b0 + 18446744073709551616 * b1 + 340282366920938463463374607431768211456 * b2
  | _ => V b0 b1 b2 b3
theorem mulV_le {a0 a1 a2 a3 w : Nat} (ha : W4 a0 a1 a2 a3) (hw : w < 18446744073709551616) : V a0 a1 a2 a3 * w ≤ 2135987035920910082279229616932235919179133537347964862093771623156579161741164519270975247745025 :=
  Nat.le_trans (Nat.mul_le_mul (Nat.le_sub_one_of_lt (V_lt ha)) (Nat.le_sub_one_of_lt hw)) (by decide +kernel)
theorem row_top {a0 a1 a2 a3 w o0 o1 o2 o3 r0 r1 r2 r3 ov s0 s1 s2 s3 c : Nat} (ha : W4 a0 a1 a2 a3) (hw : w < 18446744073709551616) (ho : W4 o0 o1 o2 o3) (hr : V r0 r1 r2 r3 + T256 * ov = V a0 a1 a2 a3 * w)
    (hs : W4 s0 s1 s2 s3 ∧ c ≤ 1 ∧ V s0 s1 s2 s3 + T256 * c = V o0 o1 o2 o3 + V r0 r1 r2 r3) : ov + c < 18446744073709551616 ∧ V s0 s1 s2 s3 + T256 * (ov + c) = V o0 o1 o2 o3 + V a0 a1 a2 a3 * w := by
  have h1 := mulV_le ha hw
  have h2 := V_lt ho
  have h3 := V_lt hs.1
  refine ⟨?_, by rw [← hr, Nat.mul_add]; omega⟩
  have h4 := hs.2.2
  rw [← hr] at h1
  unfold T256 at *
  omega
theorem prod0 {A b0 b1 b2 b3 x0 x1 x2 x3 s0 s1 s2 s3 t : Nat} (h0 : V8 x0 x1 x2 x3 0 0 0 0 = A * lowW b0 b1 b2 b3 0) (h : V s0 s1 s2 s3 + T256 * t = V x0 x1 x2 x3 + A * b0) : V8 s0 s1 s2 s3 t 0 0 0 = A * lowW b0 b1 b2 b3 1 := by
  have : lowW b0 b1 b2 b3 1 = b0 := rfl
  rw [this]
  have e : lowW b0 b1 b2 b3 0 = 0 := rfl
  rw [e, Nat.mul_zero] at h0
  unfold V8 T256 at *
  unfold V at *
  omega
theorem prod1 {A b0 b1 b2 b3 x0 x1 x2 x3 x4 s0 s1 s2 s3 t : Nat} (h0 : V8 x0 x1 x2 x3 x4 0 0 0 = A * lowW b0 b1 b2 b3 1) (h : V s0 s1 s2 s3 + T256 * t = V x1 x2 x3 x4 + A * b1) : V8 x0 s0 s1 s2 s3 t 0 0 = A * lowW b0 b1 b2 b3 2 := by
  have e : lowW b0 b1 b2 b3 2 = lowW b0 b1 b2 b3 1 + 18446744073709551616 * b1 := rfl
  rw [e, Nat.mul_add, ← h0, Nat.mul_left_comm]
  unfold V8 T256 at *
  unfold V at *
  omega
theorem prod2 {A b0 b1 b2 b3 x0 x1 x2 x3 x4 x5 s0 s1 s2 s3 t : Nat} (h0 : V8 x0 x1 x2 x3 x4 x5 0 0 = A * lowW b0 b1 b2 b3 2) (h : V s0 s1 s2 s3 + T256 * t = V x2 x3 x4 x5 + A * b2) : V8 x0 x1 s0 s1 s2 s3 t 0 = A * lowW b0 b1 b2 b3 3 := by
  have e : lowW b0 b1 b2 b3 3 = lowW b0 b1 b2 b3 2 + 340282366920938463463374607431768211456 * b2 := rfl
  rw [e, Nat.mul_add, ← h0, Nat.mul_left_comm]
  unfold V8 T256 at *
  unfold V at *
  omega
theorem prod3 {A b0 b1 b2 b3 x0 x1 x2 x3 x4 x5 x6 s0 s1 s2 s3 t : Nat} (h0 : V8 x0 x1 x2 x3 x4 x5 x6 0 = A * lowW b0 b1 b2 b3 3) (h : V s0 s1 s2 s3 + T256 * t = V x3 x4 x5 x6 + A * b3) : V8 x0 x1 x2 s0 s1 s2 s3 t = A * lowW b0 b1 b2 b3 4 := by
  have e : lowW b0 b1 b2 b3 4 = lowW b0 b1 b2 b3 3 + 6277101735386680763835789423207666416102355444464034512896 * b3 := rfl
  rw [e, Nat.mul_add, ← h0, Nat.mul_left_comm]
  unfold V8 T256 at *
  unfold V at *
  omega
theorem lowW_lt {b0 b1 b2 b3 : Nat} : lowW b0 b1 b2 b3 4 = V b0 b1 b2 b3 := rfl
theorem word_lt_of_V8 {x0 x1 x2 x3 x4 x5 x6 x7 : Nat} (h : W4 x0 x1 x2 x3) (h' : W4 x4 x5 x6 x7) : V8 x0 x1 x2 x3 x4 x5 x6 x7 < T256 * T256 := by
  have h1 := V_lt h
  have h2 := V_lt h'
  unfold V8
  unfold T256 at *
  omega
end Pl
end Go.Proofs.Ytgeldhdijochdaa
/- Plain law: powers modulo a number by a short computation; a number with an element of full order is prime (Lucas), every residue but 0 is a power of that element. -/
namespace Go.Proofs.Ytgeldhdijochdaa
set_option linter.unusedVariables false
set_option linter.unusedSimpArgs false
namespace Pl

/-- b^e modulo n by halving e. -/
def powm (n : Nat) : Nat → Nat → Nat → Nat
  | 0, _, _ => 1 % n
  | f + 1, b, e => if e % 2 = 1 then powm n f (b * b % n) (e / 2) * b % n else powm n f (b * b % n) (e / 2)

theorem pow_mod_congr (a b k n : Nat) (h : a % n = b % n) : a ^ k % n = b ^ k % n := by
  rw [Nat.pow_mod, h, ← Nat.pow_mod]

theorem powm_eq (n : Nat) : ∀ (f b e : Nat), e < 2 ^ f → powm n f b e = b ^ e % n
  | 0, b, e, h => by
    have : e = 0 := by simpa using h
    subst this; simp [powm]
  | f + 1, b, e, h => by
    have h2 : e / 2 < 2 ^ f := by rw [Nat.pow_succ] at h; omega
    have ih := powm_eq n f (b * b % n) (e / 2) h2
    have e1 : (b * b % n) ^ (e / 2) % n = b ^ (2 * (e / 2)) % n := by
      rw [pow_mod_congr (b * b % n) (b * b) (e / 2) n (Nat.mod_mod _ _), Nat.pow_mul, Nat.pow_two]
    unfold powm
    rw [ih, e1]
    split
    · rename_i h1
      have : e = 2 * (e / 2) + 1 := by omega
      conv => rhs; rw [this, Nat.pow_succ]
      rw [Nat.mod_mul_mod]
    · rename_i h1
      have : e = 2 * (e / 2) := by omega
      conv => rhs; rw [this]

theorem inj_surj : ∀ (N : Nat) (f : Nat → Nat), (∀ i, i < N → f i < N) → (∀ i j, i < N → j < N → f i = f j → i = j) → ∀ y, y < N → ∃ i, i < N ∧ f i = y
  | 0, _, _, _, y, h => absurd h (Nat.not_lt_zero y)
  | N + 1, f, hr, hi, y, hy => by
    have hv := hr N (Nat.lt_succ_self N)
    have key := inj_surj N (fun i => if f i = N then f N else f i)
      (fun i h => by
        have h1 := hr i (by omega)
        try dsimp only
        split
        · rename_i e
          have : f N ≠ N := fun e2 => by have := hi i N (by omega) (by omega) (e.trans e2.symm); omega
          omega
        · omega)
      (fun i j h k e => by
        try dsimp only at e
        split at e <;> split at e
        · rename_i a b; exact hi i j (by omega) (by omega) (a.trans b.symm)
        · have := hi N j (by omega) (by omega) e; omega
        · have := hi i N (by omega) (by omega) e; omega
        · exact hi i j (by omega) (by omega) e)
    by_cases e1 : y = f N
    · exact ⟨N, by omega, e1.symm⟩
    · by_cases e2 : y = N
      · have hlt : f N < N := by omega
        obtain ⟨i, hi1, hi2⟩ := key (f N) hlt
        try dsimp only at hi2
        split at hi2
        · rename_i e; exact ⟨i, by omega, by omega⟩
        · have := hi i N (by omega) (by omega) hi2; omega
      · obtain ⟨i, hi1, hi2⟩ := key y (by omega)
        try dsimp only at hi2
        split at hi2
        · exact absurd hi2.symm e1
        · exact ⟨i, by omega, hi2⟩

/-- A map into fewer places meets one twice. -/
theorem pigeon (N M : Nat) (f : Nat → Nat) (hr : ∀ i, i < N → f i < M) (hi : ∀ i j, i < N → j < N → f i = f j → i = j) : N ≤ M := by
  by_cases h : N ≤ M
  · exact h
  · exfalso
    obtain ⟨i, hi1, hi2⟩ := inj_surj (M + 1) f (fun i h' => by have := hr i (by omega); omega) (fun i j a b => hi i j (by omega) (by omega)) M (by omega)
    have := hr i (by omega)
    omega

def Prm (q : Nat) : Prop := 1 < q ∧ ∀ m, m ∣ q → m = 1 ∨ m = q

theorem Prm.coprime {q m : Nat} (h : Prm q) (hn : ¬ q ∣ m) : Nat.Coprime q m := by
  rcases h.2 (Nat.gcd q m) (Nat.gcd_dvd_left q m) with e | e
  · exact e
  · exact absurd (e ▸ Nat.gcd_dvd_right q m) hn

theorem Prm.dvd_mul {q a b : Nat} (h : Prm q) (hd : q ∣ a * b) : q ∣ a ∨ q ∣ b := by
  by_cases ha : q ∣ a
  · exact .inl ha
  · exact .inr ((h.coprime ha).dvd_of_dvd_mul_left hd)

def prod : List Nat → Nat
  | [] => 1
  | q :: l => q * prod l

theorem prime_factor (m : Nat) (hm : 1 < m) : ∀ (l : List Nat), (∀ q, q ∈ l → Prm q) → m ∣ prod l → ∃ q, q ∈ l ∧ q ∣ m := by
  intro l hl hd
  apply Classical.byContradiction
  intro hno
  have hc : ∀ (l : List Nat), (∀ q, q ∈ l → Prm q ∧ ¬ q ∣ m) → Nat.Coprime (prod l) m := by
    intro l
    induction l with
    | nil => intro _; simp [prod, Nat.Coprime]
    | cons q l ih =>
      intro h
      exact Nat.Coprime.mul_left ((h q (by simp)).1.coprime (h q (by simp)).2) (ih fun x hx => h x (by simp [hx]))
  have := hc l fun q hq => ⟨hl q hq, fun hd => hno ⟨q, hq, hd⟩⟩
  have h1 : Nat.gcd (prod l) m = m := Nat.gcd_eq_right hd
  unfold Nat.Coprime at this
  omega

theorem prod_div {l : List Nat} {q : Nat} (h : q ∈ l) : q ∣ prod l := by
  induction l with
  | nil => simp at h
  | cons x l ih =>
    rcases List.mem_cons.1 h with e | e
    · subst e; exact ⟨_, rfl⟩
    · exact Nat.dvd_trans (ih e) ⟨x, by simp [prod, Nat.mul_comm]⟩

theorem least (p : Nat → Prop) (n : Nat) (h : p n) : ∃ d, p d ∧ ∀ j, j < d → ¬ p j := by
  induction n using Nat.strongRecOn with
  | ind n ih =>
    by_cases hx : ∃ j, j < n ∧ p j
    · obtain ⟨j, hj, hp⟩ := hx
      exact ih j hj hp
    · exact ⟨n, h, fun j hj hp => hx ⟨j, hj, hp⟩⟩

theorem pow_mul_one {n g a : Nat} (h1 : 1 < n) (h : g ^ a % n = 1) (k : Nat) : g ^ (a * k) % n = 1 := by
  rw [Nat.pow_mul, Nat.pow_mod, h, Nat.one_pow, Nat.mod_eq_of_lt h1]

/-- If g has order n - 1 modulo n, each residue but 0 is a power of g. -/
theorem lucas_gen (n g : Nat) (fs : List Nat) (h1 : 1 < n) (hp : ∀ q, q ∈ fs → Prm q) (hprod : prod fs = n - 1) (hg : g ^ (n - 1) % n = 1)
    (hq : ∀ q, q ∈ fs → g ^ ((n - 1) / q) % n ≠ 1) : (∀ i j, i < n - 1 → j < n - 1 → g ^ i % n = g ^ j % n → i = j) ∧ ∀ a, 0 < a → a < n → ∃ k, k < n - 1 ∧ g ^ k % n = a := by
  obtain ⟨d, ⟨hd0, hd1⟩, hmin⟩ := least (fun d => 0 < d ∧ g ^ d % n = 1) (n - 1) ⟨by omega, hg⟩
  have hdiv : d ∣ n - 1 := by
    apply Nat.dvd_of_mod_eq_zero
    have e : g ^ (n - 1) % n = g ^ ((n - 1) % d) % n := by
      conv => lhs; rw [← Nat.div_add_mod (n - 1) d, Nat.pow_add, Nat.mul_mod, pow_mul_one h1 hd1, Nat.one_mul, Nat.mod_mod]
    rw [hg] at e
    have hlt := Nat.mod_lt (n - 1) hd0
    by_cases h0 : (n - 1) % d = 0
    · exact h0
    · exact absurd ⟨by omega, e.symm⟩ (hmin _ hlt)
  have hfull : d = n - 1 := by
    apply Classical.byContradiction
    intro hne
    obtain ⟨m, hm⟩ := hdiv
    have hm1 : 1 < m := by
      rcases m with _ | _ | m
      · simp at hm; omega
      · simp at hm; omega
      · omega
    obtain ⟨q, hqm, hqd⟩ := prime_factor m hm1 fs hp (by rw [hprod, hm]; exact ⟨d, Nat.mul_comm _ _⟩)
    obtain ⟨t, ht⟩ := hqd
    have hq0 : 0 < q := by have := (hp q hqm).1; omega
    have e : (n - 1) / q = d * t := by
      rw [hm, ht, Nat.mul_comm q t, ← Nat.mul_assoc, Nat.mul_div_cancel _ hq0]
    apply hq q hqm
    rw [e]
    exact pow_mul_one h1 hd1 t
  subst hfull
  have hinj : ∀ i j, i < n - 1 → j < n - 1 → i < j → g ^ i % n ≠ g ^ j % n := by
    intro i j hi hj hij e
    have e2 : (g ^ (n - 1 - i) * g ^ i) % n = (g ^ (n - 1 - i) * g ^ j) % n := by rw [Nat.mul_mod, e, ← Nat.mul_mod]
    rw [← Nat.pow_add, ← Nat.pow_add, show n - 1 - i + i = n - 1 from by omega, show n - 1 - i + j = (n - 1) + (j - i) from by omega, Nat.pow_add, Nat.mul_mod, hg, Nat.one_mul, Nat.mod_mod] at e2
    exact hmin (j - i) (by omega) ⟨by omega, e2.symm⟩
  have hne : ∀ i, i < n - 1 → g ^ i % n ≠ 0 := by
    intro i hi e
    have : g ^ (n - 1) % n = 0 := by
      rw [show n - 1 = i + (n - 1 - i) from by omega, Nat.pow_add, Nat.mul_mod, e, Nat.zero_mul, Nat.zero_mod]
    omega
  have hinj' : ∀ i j, i < n - 1 → j < n - 1 → g ^ i % n = g ^ j % n → i = j := by
    intro i j a b e
    rcases Nat.lt_trichotomy i j with h | h | h
    · exact absurd e (hinj i j a b h)
    · exact h
    · exact absurd e.symm (hinj j i b a h)
  refine ⟨hinj', fun a ha0 ha => ?_⟩
  obtain ⟨i, hi, he⟩ := inj_surj (n - 1) (fun i => g ^ i % n - 1)
    (fun i h => by have := hne i h; have := Nat.mod_lt (g ^ i) (show 0 < n by omega); omega)
    (fun i j h k e => by
      try dsimp only at e
      have := hne i h; have := hne j k
      exact hinj' i j h k (by omega))
    (a - 1) (by omega)
  try dsimp only at he
  have := hne i hi
  exact ⟨i, hi, by omega⟩

theorem lucas (n g : Nat) (fs : List Nat) (h1 : 1 < n) (hp : ∀ q, q ∈ fs → Prm q) (hprod : prod fs = n - 1) (hg : g ^ (n - 1) % n = 1)
    (hq : ∀ q, q ∈ fs → g ^ ((n - 1) / q) % n ≠ 1) : Prm n := by
  refine ⟨h1, fun m hm => ?_⟩
  have hle := Nat.le_of_dvd (by omega) hm
  by_cases e : m = n
  · exact .inr e
  · left
    have hm0 : 0 < m := Nat.pos_of_dvd_of_pos hm (by omega)
    obtain ⟨k, hk, hk2⟩ := (lucas_gen n g fs h1 hp hprod hg hq).2 m hm0 (by omega)
    have e1 : (m * g ^ (n - 1 - k)) % n = 1 := by
      rw [← hk2, Nat.mod_mul_mod, ← Nat.pow_add, show k + (n - 1 - k) = n - 1 from by omega, hg]
    have : m ∣ 1 := by
      rw [← e1]
      exact (Nat.dvd_mod_iff hm).2 ⟨_, rfl⟩
    exact Nat.dvd_one.1 this

/-- What the kernel is asked of a number: the powers of g. -/
def certOk (n g : Nat) (fs : List Nat) : Bool := decide (1 < n) && decide (prod fs = n - 1) && decide (n < 2 ^ 260) && (powm n 260 g (n - 1) == 1) && fs.all fun q => !(powm n 260 g ((n - 1) / q) == 1)

theorem cert_gen {n g : Nat} {fs : List Nat} (h : certOk n g fs = true) (hp : ∀ q, q ∈ fs → Prm q) :
    Prm n ∧ ((∀ i j, i < n - 1 → j < n - 1 → g ^ i % n = g ^ j % n → i = j) ∧ ∀ a, 0 < a → a < n → ∃ k, k < n - 1 ∧ g ^ k % n = a) ∧ g ^ (n - 1) % n = 1 := by
  simp only [certOk, Bool.and_eq_true, decide_eq_true_eq, beq_iff_eq, List.all_eq_true, Bool.not_eq_true', beq_eq_false_iff_ne] at h
  obtain ⟨⟨⟨⟨h1, h2⟩, h3⟩, h4⟩, h5⟩ := h
  have e : g ^ (n - 1) % n = 1 := by rw [← powm_eq n 260 g (n - 1) (by omega)]; exact h4
  have e2 : ∀ q, q ∈ fs → g ^ ((n - 1) / q) % n ≠ 1 := by
    intro q hq
    rw [← powm_eq n 260 g ((n - 1) / q) (Nat.lt_of_le_of_lt (Nat.div_le_self _ _) (by omega))]
    exact h5 q hq
  exact ⟨lucas n g fs h1 hp h2 e e2, lucas_gen n g fs h1 hp h2 e e2, e⟩

/-- Small primes by trial. -/
def smallOk (n : Nat) : Bool := decide (1 < n) && (List.range 300).all fun d => decide (d < 2) || decide (n ≤ d) || !(n % d == 0)

theorem small_prime {n : Nat} (hn : n < 90000) (h : smallOk n = true) : Prm n := by
  simp only [smallOk, Bool.and_eq_true, decide_eq_true_eq, List.all_eq_true, List.mem_range, Bool.or_eq_true, Bool.not_eq_true', beq_eq_false_iff_ne] at h
  obtain ⟨h1, h2⟩ := h
  refine ⟨h1, fun m ⟨t, ht⟩ => ?_⟩
  have hm0 : 0 < m := by rcases m with _ | m; simp at ht; omega; omega
  have ht0 : 0 < t := by rcases t with _ | t; simp at ht; omega; omega
  by_cases hm : m < 300
  · rcases h2 m hm with (h | h) | h
    · left; omega
    · right
      have : m ≤ n := by rw [ht]; exact Nat.le_mul_of_pos_right m ht0
      omega
    · exact absurd (by rw [ht]; exact Nat.mul_mod_right m t) h
  · have hs : t < 300 := by
      apply Classical.byContradiction
      intro hge
      have : 300 * 300 ≤ m * t := Nat.mul_le_mul (by omega) (by omega)
      omega
    rcases h2 t hs with (h | h) | h
    · right
      have : t = 1 := by omega
      subst this; omega
    · left
      have : m * t = t * m := Nat.mul_comm _ _
      have h3 : t ≤ n := by rw [ht]; exact Nat.le_mul_of_pos_left t hm0
      have h4 : n = t := by omega
      have h5 : m * t = 1 * t := by omega
      exact Nat.eq_of_mul_eq_mul_right ht0 h5
    · exact absurd (by rw [ht, Nat.mul_comm]; exact Nat.mul_mod_right t m) h

theorem prm_2 : Prm 2 := small_prime (by decide) (by decide +kernel)
theorem prm_3 : Prm 3 := small_prime (by decide) (by decide +kernel)
theorem prm_65147 : Prm 65147 := small_prime (by decide) (by decide +kernel)
theorem prm_353 : Prm 353 := small_prime (by decide) (by decide +kernel)
theorem prm_57467 : Prm 57467 := small_prime (by decide) (by decide +kernel)
theorem prm_7 : Prm 7 := small_prime (by decide) (by decide +kernel)
theorem prm_131 : Prm 131 := small_prime (by decide) (by decide +kernel)
theorem cert_132049 : certOk 132049 26 [2, 2, 2, 2, 3, 3, 7, 131] = true := by decide +kernel
theorem fac_132049 : ∀ q, q ∈ [2, 2, 2, 2, 3, 3, 7, 131] → Prm q := by
  intro q hq
  simp only [List.mem_cons, List.not_mem_nil, or_false] at hq
  rcases hq with rfl | rfl | rfl | rfl | rfl | rfl | rfl | rfl
  · exact prm_2
  · exact prm_2
  · exact prm_2
  · exact prm_2
  · exact prm_3
  · exact prm_3
  · exact prm_7
  · exact prm_131
theorem prm_132049 : Prm 132049 := (cert_gen cert_132049 fac_132049).1
theorem prm_43 : Prm 43 := small_prime (by decide) (by decide +kernel)
theorem prm_3727 : Prm 3727 := small_prime (by decide) (by decide +kernel)
theorem cert_1923133 : certOk 1923133 2 [2, 2, 3, 43, 3727] = true := by decide +kernel
theorem fac_1923133 : ∀ q, q ∈ [2, 2, 3, 43, 3727] → Prm q := by
  intro q hq
  simp only [List.mem_cons, List.not_mem_nil, or_false] at hq
  rcases hq with rfl | rfl | rfl | rfl | rfl
  · exact prm_2
  · exact prm_2
  · exact prm_3
  · exact prm_43
  · exact prm_3727
theorem prm_1923133 : Prm 1923133 := (cert_gen cert_1923133 fac_1923133).1
theorem prm_31 : Prm 31 := small_prime (by decide) (by decide +kernel)
theorem prm_107 : Prm 107 := small_prime (by decide) (by decide +kernel)
theorem prm_223 : Prm 223 := small_prime (by decide) (by decide +kernel)
theorem prm_4153 : Prm 4153 := small_prime (by decide) (by decide +kernel)
theorem prm_5 : Prm 5 := small_prime (by decide) (by decide +kernel)
theorem prm_1723 : Prm 1723 := small_prime (by decide) (by decide +kernel)
theorem cert_430751 : certOk 430751 17 [2, 5, 5, 5, 1723] = true := by decide +kernel
theorem fac_430751 : ∀ q, q ∈ [2, 5, 5, 5, 1723] → Prm q := by
  intro q hq
  simp only [List.mem_cons, List.not_mem_nil, or_false] at hq
  rcases hq with rfl | rfl | rfl | rfl | rfl
  · exact prm_2
  · exact prm_5
  · exact prm_5
  · exact prm_5
  · exact prm_1723
theorem prm_430751 : Prm 430751 := (cert_gen cert_430751 fac_430751).1
theorem cert_17d_855353 : certOk 31757755568855353 10 [2, 2, 2, 3, 31, 107, 223, 4153, 430751] = true := by decide +kernel
theorem fac_17d_855353 : ∀ q, q ∈ [2, 2, 2, 3, 31, 107, 223, 4153, 430751] → Prm q := by
  intro q hq
  simp only [List.mem_cons, List.not_mem_nil, or_false] at hq
  rcases hq with rfl | rfl | rfl | rfl | rfl | rfl | rfl | rfl | rfl
  · exact prm_2
  · exact prm_2
  · exact prm_2
  · exact prm_3
  · exact prm_31
  · exact prm_107
  · exact prm_223
  · exact prm_4153
  · exact prm_430751
theorem prm_17d_855353 : Prm 31757755568855353 := (cert_gen cert_17d_855353 fac_17d_855353).1
theorem prm_37853 : Prm 37853 := small_prime (by decide) (by decide +kernel)
theorem cert_75707 : certOk 75707 2 [2, 37853] = true := by decide +kernel
theorem fac_75707 : ∀ q, q ∈ [2, 37853] → Prm q := by
  intro q hq
  simp only [List.mem_cons, List.not_mem_nil, or_false] at hq
  rcases hq with rfl | rfl
  · exact prm_2
  · exact prm_37853
theorem prm_75707 : Prm 75707 := (cert_gen cert_75707 fac_75707).1
theorem prm_13 : Prm 13 := small_prime (by decide) (by decide +kernel)
theorem prm_2437 : Prm 2437 := small_prime (by decide) (by decide +kernel)
theorem prm_97 : Prm 97 := small_prime (by decide) (by decide +kernel)
theorem prm_419 : Prm 419 := small_prime (by decide) (by decide +kernel)
theorem cert_569003 : certOk 569003 2 [2, 7, 97, 419] = true := by decide +kernel
theorem fac_569003 : ∀ q, q ∈ [2, 7, 97, 419] → Prm q := by
  intro q hq
  simp only [List.mem_cons, List.not_mem_nil, or_false] at hq
  rcases hq with rfl | rfl | rfl | rfl
  · exact prm_2
  · exact prm_7
  · exact prm_97
  · exact prm_419
theorem prm_569003 : Prm 569003 := (cert_gen cert_569003 fac_569003).1
theorem cert_2773320623 : certOk 2773320623 5 [2, 2437, 569003] = true := by decide +kernel
theorem fac_2773320623 : ∀ q, q ∈ [2, 2437, 569003] → Prm q := by
  intro q hq
  simp only [List.mem_cons, List.not_mem_nil, or_false] at hq
  rcases hq with rfl | rfl | rfl
  · exact prm_2
  · exact prm_2437
  · exact prm_569003
theorem prm_2773320623 : Prm 2773320623 := (cert_gen cert_2773320623 fac_2773320623).1
theorem cert_72106336199 : certOk 72106336199 7 [2, 13, 2773320623] = true := by decide +kernel
theorem fac_72106336199 : ∀ q, q ∈ [2, 13, 2773320623] → Prm q := by
  intro q hq
  simp only [List.mem_cons, List.not_mem_nil, or_false] at hq
  rcases hq with rfl | rfl | rfl
  · exact prm_2
  · exact prm_13
  · exact prm_2773320623
theorem prm_72106336199 : Prm 72106336199 := (cert_gen cert_72106336199 fac_72106336199).1
theorem prm_19 : Prm 19 := small_prime (by decide) (by decide +kernel)
theorem prm_47 : Prm 47 := small_prime (by decide) (by decide +kernel)
theorem prm_127 : Prm 127 := small_prime (by decide) (by decide +kernel)
theorem prm_103 : Prm 103 := small_prime (by decide) (by decide +kernel)
theorem prm_991 : Prm 991 := small_prime (by decide) (by decide +kernel)
theorem cert_8574133 : certOk 8574133 2 [2, 2, 3, 7, 103, 991] = true := by decide +kernel
theorem fac_8574133 : ∀ q, q ∈ [2, 2, 3, 7, 103, 991] → Prm q := by
  intro q hq
  simp only [List.mem_cons, List.not_mem_nil, or_false] at hq
  rcases hq with rfl | rfl | rfl | rfl | rfl | rfl
  · exact prm_2
  · exact prm_2
  · exact prm_3
  · exact prm_7
  · exact prm_103
  · exact prm_991
theorem prm_8574133 : Prm 8574133 := (cert_gen cert_8574133 fac_8574133).1
theorem cert_16d_386763 : certOk 1919519569386763 2 [2, 3, 7, 19, 47, 47, 127, 8574133] = true := by decide +kernel
theorem fac_16d_386763 : ∀ q, q ∈ [2, 3, 7, 19, 47, 47, 127, 8574133] → Prm q := by
  intro q hq
  simp only [List.mem_cons, List.not_mem_nil, or_false] at hq
  rcases hq with rfl | rfl | rfl | rfl | rfl | rfl | rfl | rfl
  · exact prm_2
  · exact prm_3
  · exact prm_7
  · exact prm_19
  · exact prm_47
  · exact prm_47
  · exact prm_127
  · exact prm_8574133
theorem prm_16d_386763 : Prm 1919519569386763 := (cert_gen cert_16d_386763 fac_16d_386763).1
theorem cert_35d_864801 : certOk 75445702479781427272750846543864801 7 [2, 2, 2, 2, 2, 3, 3, 5, 5, 75707, 72106336199, 1919519569386763] = true := by decide +kernel
theorem fac_35d_864801 : ∀ q, q ∈ [2, 2, 2, 2, 2, 3, 3, 5, 5, 75707, 72106336199, 1919519569386763] → Prm q := by
  intro q hq
  simp only [List.mem_cons, List.not_mem_nil, or_false] at hq
  rcases hq with rfl | rfl | rfl | rfl | rfl | rfl | rfl | rfl | rfl | rfl | rfl | rfl
  · exact prm_2
  · exact prm_2
  · exact prm_2
  · exact prm_2
  · exact prm_2
  · exact prm_3
  · exact prm_3
  · exact prm_5
  · exact prm_5
  · exact prm_75707
  · exact prm_72106336199
  · exact prm_16d_386763
theorem prm_35d_864801 : Prm 75445702479781427272750846543864801 := (cert_gen cert_35d_864801 fac_35d_864801).1
theorem cert_71d_340907 : certOk 74058212732561358302231226437062788676166966415465897661863160754340907 2 [2, 3, 353, 57467, 132049, 1923133, 31757755568855353, 75445702479781427272750846543864801] = true := by decide +kernel
theorem fac_71d_340907 : ∀ q, q ∈ [2, 3, 353, 57467, 132049, 1923133, 31757755568855353, 75445702479781427272750846543864801] → Prm q := by
  intro q hq
  simp only [List.mem_cons, List.not_mem_nil, or_false] at hq
  rcases hq with rfl | rfl | rfl | rfl | rfl | rfl | rfl | rfl
  · exact prm_2
  · exact prm_3
  · exact prm_353
  · exact prm_57467
  · exact prm_132049
  · exact prm_1923133
  · exact prm_17d_855353
  · exact prm_35d_864801
theorem prm_71d_340907 : Prm 74058212732561358302231226437062788676166966415465897661863160754340907 := (cert_gen cert_71d_340907 fac_71d_340907).1
theorem cert_77d_819949 : certOk 57896044618658097711785492504343953926634992332820282019728792003956564819949 2 [2, 2, 3, 65147, 74058212732561358302231226437062788676166966415465897661863160754340907] = true := by decide +kernel
theorem fac_77d_819949 : ∀ q, q ∈ [2, 2, 3, 65147, 74058212732561358302231226437062788676166966415465897661863160754340907] → Prm q := by
  intro q hq
  simp only [List.mem_cons, List.not_mem_nil, or_false] at hq
  rcases hq with rfl | rfl | rfl | rfl | rfl
  · exact prm_2
  · exact prm_2
  · exact prm_3
  · exact prm_65147
  · exact prm_71d_340907
theorem prm_77d_819949 : Prm 57896044618658097711785492504343953926634992332820282019728792003956564819949 := (cert_gen cert_77d_819949 fac_77d_819949).1

end Pl
end Go.Proofs.Ytgeldhdijochdaa
