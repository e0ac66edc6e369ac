/- The abstract machine: a region that draws its order comes to what was reckoned. Conditions: none. -/
import Derived.Test.YtpefomdegbmecaaDoorZ4
set_option linter.unusedSectionVars false
namespace Go.Proofs.YtpefomdegbmecaaDoor.Am
set_option linter.unusedVariables false
set_option linter.unusedSimpArgs false
open Go Go.RowKit
open Rg (gives at_ writerOf dstOf)

section
variable {P : Program} {T : List (Nat × Ty)} {O : List (Nat × Ent)} {N : Nat} {M : List Nat} {w0 : Wd} {ops : Array Oper} {A K : List Nat} {H : Nat → Hint} {s : St}
variable [GT]

omit [GT] in
theorem anc_bit (hc : Rg.Check ops A K) {i : Nat} {o : Oper} (ho : ops[i]? = some o) {d : Nat} (h : (at_ A i).testBit d = true) : d < i := Rg.anc_lt hc i o ho d h

omit [GT] in
theorem getI_congr {rs rs' : List (Nat × Res)} {i : Nat} {o : Oper} (hc : Rg.Check ops A K) (ho : ops[i]? = some o) (h : ∀ j, j < i → look rs' j = look rs j) (get : Nat → Option SV) : getI ops A rs' get i = getI ops A rs get i := by
  funext t
  unfold getI
  cases writerOf ops t with
  | none => rfl
  | some d =>
    simp only
    cases hb : (at_ A i).testBit d with
    | true => simp only; rw [h d (anc_bit hc ho hb)]
    | false => rfl
omit [GT] in
theorem any_congr_ {f g : Nat → Bool} {l : List Nat} (h : ∀ k, f k = g k) : l.any f = l.any g := by rw [funext h]
theorem killed_congr {rs rs' : List (Nat × Res)} {L : Nat → Bool} {n : Nat} (h : ∀ j, L j = true → look rs' j = look rs j) (id : Nat) : killed n rs' L id = killed n rs L id := by
  unfold killed
  refine any_congr_ fun k => ?_
  cases hk : L k with
  | true => rw [h k hk]
  | false => rfl
theorem heapI_congr {rs rs' : List (Nat × Res)} {i : Nat} {o : Oper} (hc : Rg.Check ops A K) (ho : ops[i]? = some o) (h : ∀ j, j < i → look rs' j = look rs j) (n nx : Nat) (hp : Nat → Option Blk) : heapI n nx rs' hp (fun d => (at_ A i).testBit d) = heapI n nx rs hp (fun d => (at_ A i).testBit d) := by
  funext id
  unfold heapI
  rw [killed_congr (L := fun d => (at_ A i).testBit d) (fun j hj => h j (anc_bit hc ho hj)) id]
  cases Nat.blt id nx with
  | true => rfl
  | false =>
    simp only
    cases hb : (at_ A i).testBit ((id - nx) / 4) with
    | true => simp only [Bool.true_and]; rw [h _ (anc_bit hc ho hb)]
    | false => rfl

omit [GT] in
/-- What is known of a head's operation. -/
def HeadOK (T : List (Nat × Ty)) (O : List (Nat × Ent)) (ops : Array Oper) (A : List Nat) (H : Nat → Hint) (s : St) (rs : List (Nat × Res)) (i : Nat) (o : Oper) : Prop :=
  ∃ r, look rs i = some r ∧ opRes T O ops (getI ops A rs s.get i) s.gl (heapI ops.size s.nx rs (look s.hp) (fun d => (at_ A i).testBit d)) (H i) (s.nx + 4 * i) (fun id => Nat.blt id s.nx || (at_ A i).testBit ((id - s.nx) / 4)) o = some r ∧ r.asm.holds ∧ r.new.length ≤ 4 ∧ (r.upd = [] ∨ ∃ id, r.upd = [(id, none)] ∧ appO o.op = true ∧ s.nx ≤ id ∧ (at_ A i).testBit ((id - s.nx) / 4) = true)

theorem headOps_spec (hc : Rg.Check ops A K) : ∀ (l : List Oper) (i : Nat) (rs rs' : List (Nat × Res)) (p : Asm), headOps T O ops A H s l i rs = some (rs', p) → p.holds → (∀ j r, look rs j = some r → j < i) → (∀ k o, l[k]? = some o → ops[i + k]? = some o) →
    (∀ j, j < i → look rs' j = look rs j) ∧ ∀ k o, l[k]? = some o → HeadOK T O ops A H s rs' (i + k) o
  | [], i, rs, rs', p, h, hp, hlt, hl => by
    simp only [headOps, Option.some.injEq, Prod.mk.injEq] at h
    obtain ⟨rfl, _⟩ := h
    exact ⟨fun _ _ => rfl, fun k o hk => by simp at hk⟩
  | o :: l, i, rs, rs', p, h, hp, hlt, hl => by
    unfold headOps at h
    split at h
    · rename_i r hr
      have main : ∀ (hlen : Nat.ble r.new.length 4 = true) (hupd : r.upd = [] ∨ ∃ id, r.upd = [(id, none)] ∧ appO o.op = true ∧ s.nx ≤ id ∧ (at_ A i).testBit ((id - s.nx) / 4) = true), (match headOps T O ops A H s l (i + 1) ((i, r) :: rs) with
          | some (rs', p) => some (rs', r.asm.and p)
          | none => none) = some (rs', p) → (∀ j, j < i → look rs' j = look rs j) ∧ ∀ k o', (o :: l)[k]? = some o' → HeadOK T O ops A H s rs' (i + k) o' := by
        intro hlen hupd h
        split at h
        · rename_i rs1 p1 h1
          simp only [Option.some.injEq, Prod.mk.injEq] at h
          obtain ⟨rfl, rfl⟩ := h
          have hstep : ∀ j r', look ((i, r) :: rs) j = some r' → j < i + 1 := fun j r' hj => by
            rw [look_cons] at hj
            by_cases hij : i = j
            · omega
            · rw [if_neg hij] at hj; have := hlt j r' hj; omega
          obtain ⟨e1, e2⟩ := headOps_spec hc l (i + 1) _ _ _ h1 hp.2 hstep (fun k o' hk => by have := hl (k + 1) o' (by simpa using hk); rw [show i + 1 + k = i + (k + 1) by omega]; exact this)
          have e0 : ∀ j, j < i → look rs1 j = look rs j := fun j hj => by
            rw [e1 j (by omega), look_cons, if_neg (by omega)]
          refine ⟨e0, fun k o' hk => ?_⟩
          cases k with
          | zero =>
            simp only [List.getElem?_cons_zero, Option.some.injEq] at hk
            subst hk
            have ho := hl 0 o rfl
            simp only [Nat.add_zero] at ho ⊢
            refine ⟨r, by rw [e1 i (by omega), look_cons, if_pos rfl], ?_, hp.1, Nat.le_of_ble_eq_true hlen, hupd⟩
            rw [getI_congr hc ho e0, heapI_congr hc ho e0]
            exact hr
          | succ k =>
            have := e2 k o' (by simpa using hk)
            rw [show i + (k + 1) = i + 1 + k by omega]
            exact this
        · cases h
      split at h
      · rename_i hlen hupd
        exact main hlen (.inl hupd) h
      · rename_i id hlen hupd
        split at h
        · rename_i hk
          simp only [Bool.and_eq_true] at hk
          exact main hlen (.inr ⟨id, hupd, hk.1, Nat.le_of_ble_eq_true hk.2.1, hk.2.2⟩) h
        · cases h
      · cases h
    · cases h

omit [GT] in
def DL (nx : Nat) (L : Array Bool) : Nat → Prop := fun id => id < nx ∨ (nx ≤ id ∧ L.getD ((id - nx) / 4) false = true)
omit [GT] in
def resOf (rs : List (Nat × Res)) (d : Nat) : Res := match look rs d with
  | some r => r
  | none => { val := ofV undef }

/-- What holds while the head's operations come up. -/
structure RInv (ops : Array Oper) (K : List Nat) (rs : List (Nat × Res)) (s : St) (N : Nat) (M : List Nat) (w0 : Wd) (ρ0 : Nat → Loc) (a0 : Act) (L : Array Bool) (a : Act) (w : World) : Prop where
  size : L.size = ops.size
  closed : ∀ j oj, ops[j]? = some oj → L.getD j false = true → ∀ e ∈ oj.after, Region.binds .any e = true → L.getD e.on false = true
  notail : ∀ j, j < ops.size → at_ K j = 2 → L.getD j false = false
  defers : a.defers = []
  tmps : a.tmps.size = a0.tmps.size
  ex : ∃ ρ, (∀ id, id < s.nx → ρ id = ρ0 id) ∧
    (∀ t, match writerOf ops t with
      | some d => if L.getD d false = true then a.eval (.tmp t) = (resOf rs d).val.conc ρ ∧ (resOf rs d).val.In (DL s.nx L) else a.eval (.tmp t) = a0.eval (.tmp t)
      | none => a.eval (.tmp t) = a0.eval (.tmp t)) ∧
    HR ρ (DL s.nx L) N M (heapI ops.size s.nx rs (look s.hp) fun d => L.getD d false) w ∧ Kept N M w0.w w

omit [GT] in
theorem heapI_lt {n nx : Nat} {rs : List (Nat × Res)} {hp : Nat → Option Blk} {L : Nat → Bool} {id : Nat} (h : id < nx) : heapI n nx rs hp L id = hp id := by
  unfold heapI
  have : Nat.blt id nx = true := Nat.ble_eq_true_of_le h
  rw [this]
omit [GT] in
theorem heapI_ge {n nx : Nat} {rs : List (Nat × Res)} {hp : Nat → Option Blk} {L : Nat → Bool} {id : Nat} (h : nx ≤ id) : heapI n nx rs hp L id = match L ((id - nx) / 4) && !(killed n rs L id) with
    | true => match look rs ((id - nx) / 4) with
      | some r => r.new[(id - nx) % 4]?
      | none => none
    | false => none := by
  unfold heapI
  have : Nat.blt id nx = false := by
    cases hq : Nat.blt id nx
    · rfl
    · have := Nat.le_of_ble_eq_true hq; omega
  rw [this] <;> rfl
omit [GT] in
theorem heapI_some {n nx : Nat} {rs : List (Nat × Res)} {hp : Nat → Option Blk} {L : Nat → Bool} {id : Nat} {b : Blk} (h : nx ≤ id) (hb : heapI n nx rs hp L id = some b) : L ((id - nx) / 4) = true ∧ killed n rs L id = false ∧ ∃ r, look rs ((id - nx) / 4) = some r ∧ r.new[(id - nx) % 4]? = some b := by
  rw [heapI_ge h] at hb
  split at hb
  · rename_i hL
    rw [Bool.and_eq_true, Bool.not_eq_true'] at hL
    split at hb
    · rename_i r hr
      exact ⟨hL.1, hL.2, r, hr, hb⟩
    · cases hb
  · cases hb
omit [GT] in
theorem heapI_mk {n nx : Nat} {rs : List (Nat × Res)} {hp : Nat → Option Blk} {L : Nat → Bool} {id : Nat} {b : Blk} {r : Res} (h : nx ≤ id) (h1 : L ((id - nx) / 4) = true) (h2 : killed n rs L id = false) (h3 : look rs ((id - nx) / 4) = some r) (h4 : r.new[(id - nx) % 4]? = some b) : heapI n nx rs hp L id = some b := by
  rw [heapI_ge h, h1, h2, h3]
  exact h4
omit [GT] in
theorem killed_iff {n : Nat} {rs : List (Nat × Res)} {L : Nat → Bool} {id : Nat} : killed n rs L id = true ↔ ∃ k r, k < n ∧ L k = true ∧ look rs k = some r ∧ killsOf r id = true := by
  unfold killed
  rw [List.any_eq_true]
  constructor
  · rintro ⟨k, hk, h⟩
    rw [Bool.and_eq_true] at h
    obtain ⟨h1, h2⟩ := h
    split at h2
    · rename_i r hr
      exact ⟨k, r, List.mem_range.1 hk, h1, hr, h2⟩
    · cases h2
  · rintro ⟨k, r, hk, h1, h2, h3⟩
    exact ⟨k, List.mem_range.2 hk, by rw [h1, h2]; exact h3⟩
omit [GT] in
theorem killed_mono {n : Nat} {rs : List (Nat × Res)} {L L' : Nat → Bool} {id : Nat} (h : ∀ d, L d = true → L' d = true) (hk : killed n rs L' id = false) : killed n rs L id = false := by
  cases hq : killed n rs L id with
  | false => rfl
  | true =>
    obtain ⟨k, r, h1, h2, h3, h4⟩ := killed_iff.1 hq
    rw [killed_iff.2 ⟨k, r, h1, h k h2, h3, h4⟩] at hk
    cases hk
omit [GT] in
theorem kills_upd {r : Res} {id : Nat} (h : killsOf r id = true) : r.upd = [(id, none)] := by
  unfold killsOf at h
  split at h
  · rename_i j hj
    rw [Nat.eq_of_beq_eq_true h] at hj
    exact hj
  · cases h
omit [GT] in
/-- What the check of the rows that are taken says. -/
def KillOK (ops : Array Oper) (A K : List Nat) (nx : Nat) (rs : List (Nat × Res)) : Prop :=
  ∀ k r id, look rs k = some r → r.upd = [(id, none)] → at_ K k ≠ 2 → k < ops.size → ∀ i, i < ops.size → at_ K i ≠ 2 → i ≠ k → (at_ A i).testBit ((id - nx) / 4) = true → (at_ A i).testBit k = true ∨ (at_ A k).testBit i = true

/-- What an operation of the head may lean on. -/
theorem RInv.rel (hc : Rg.Check ops A K) {rs : List (Nat × Res)} {ρ0 : Nat → Loc} {a0 : Act} {L : Array Bool} {a : Act} {w w1 : World} (h : RInv ops K rs s N M w0 ρ0 a0 L a w) (h0 : Rel ρ0 (· < s.nx) N M w0 s.gl s.get (look s.hp) a0 w1) {i : Nat} {o : Oper} (ho : ops[i]? = some o) (hr : i ∈ Region.ready .any ops L) (hrs : ∀ d, (at_ A i).testBit d = true → ∃ r, look rs d = some r) (hk2 : at_ K i ≠ 2) (hKO : KillOK ops A K s.nx rs) :
    ∃ ρ, (∀ id, id < s.nx → ρ id = ρ0 id) ∧ Rel ρ (DL s.nx L) N M w0 s.gl (getI ops A rs s.get i) (heapI ops.size s.nx rs (look s.hp) (fun d => (at_ A i).testBit d)) a w ∧ HR ρ (DL s.nx L) N M (heapI ops.size s.nx rs (look s.hp) fun d => L.getD d false) w ∧
      (∀ t, match writerOf ops t with
        | some d => if L.getD d false = true then a.eval (.tmp t) = (resOf rs d).val.conc ρ ∧ (resOf rs d).val.In (DL s.nx L) else a.eval (.tmp t) = a0.eval (.tmp t)
        | none => a.eval (.tmp t) = a0.eval (.tmp t)) ∧
      ∀ id b, heapI ops.size s.nx rs (look s.hp) (fun d => (at_ A i).testBit d) id = some b → heapI ops.size s.nx rs (look s.hp) (fun d => L.getD d false) id = some b := by
  obtain ⟨ρ, hag, hsl, hHR, hK⟩ := h.ex
  obtain ⟨_, o', ho', hall⟩ := mem_ready.1 hr
  have : o' = o := Option.some.inj (ho'.symm.trans ho)
  subst this
  have hanc : ∀ d, (at_ A i).testBit d = true → L.getD d false = true := fun d hd => Rg.closed_anc hc h.closed i o' ho hall d hd
  have hview : ∀ id b, heapI ops.size s.nx rs (look s.hp) (fun d => (at_ A i).testBit d) id = some b → heapI ops.size s.nx rs (look s.hp) (fun d => L.getD d false) id = some b := fun id b hb => by
    rcases Nat.lt_or_ge id s.nx with h1 | h1
    · rw [heapI_lt h1] at hb ⊢; exact hb
    · obtain ⟨e1, e2, r, e3, e4⟩ := heapI_some h1 hb
      refine heapI_mk h1 (hanc _ e1) ?_ e3 e4
      cases hq : killed ops.size rs (fun d => L.getD d false) id with
      | false => rfl
      | true =>
        obtain ⟨k, rk, k1, k2, k3, k4⟩ := killed_iff.1 hq
        have hik : i ≠ k := fun e => by
          subst e
          have := Rg.getD_of_ready hr
          rw [this] at k2; cases k2
        have hkk : at_ K k ≠ 2 := fun e => by
          have := h.notail k k1 e
          rw [this] at k2; cases k2
        have hil := (Array.getElem?_eq_some_iff.1 ho).1
        rcases hKO k rk id k3 (kills_upd k4) hkk k1 i hil hk2 hik e1 with hh | hh
        · rw [killed_iff.2 ⟨k, rk, k1, hh, k3, k4⟩] at e2
          cases e2
        · have hok : ops[k]? = some (ops[k]'k1) := by rw [Array.getElem?_eq_getElem]
          have := Rg.closed_anc hc h.closed k _ hok (h.closed k _ hok k2) i hh
          rw [Rg.getD_of_ready hr] at this
          cases this
  have h0c : ∀ t sv, s.get t = some sv → a0.eval (.tmp t) = sv.conc ρ ∧ sv.In (DL s.nx L) := fun t sv ht => by
    obtain ⟨h1, h2⟩ := h0.slots t sv ht
    exact ⟨by rw [h1, SV.conc_congr hag h2], h2.mono fun id hid => .inl hid⟩
  refine ⟨ρ, hag, ⟨fun t sv ht => ?_, fun g id hg => ?_, hHR.weaken hview, hK, h.defers⟩, hHR, hsl, hview⟩
  · have hst := hsl t
    unfold getI at ht
    cases hw : writerOf ops t with
    | none =>
      rw [hw] at ht hst
      simp only at ht hst
      rw [hst]
      exact h0c t sv ht
    | some d =>
      rw [hw] at ht hst
      simp only at ht hst
      cases hb : (at_ A i).testBit d with
      | true =>
        rw [hb] at ht
        simp only at ht
        obtain ⟨r, hr'⟩ := hrs d hb
        rw [hr'] at ht
        simp only [Option.some.injEq] at ht
        subst ht
        rw [if_pos (hanc d hb)] at hst
        have e : resOf rs d = r := by unfold resOf; rw [hr']
        rw [e] at hst
        exact hst
      | false =>
        rw [hb] at ht
        simp only at ht
        split at ht
        · rename_i hd
          have hnl : L.getD d false = false := by
            rw [Bool.or_eq_true] at hd
            rcases hd with hd | hd
            · have := Nat.eq_of_beq_eq_true hd
              subst this
              exact Rg.getD_of_ready hr
            · have hdlt : d < ops.size := by
                unfold writerOf at hw
                exact List.mem_range.1 (List.mem_of_find?_eq_some hw)
              cases hl : L.getD d false with
              | false => rfl
              | true =>
                have := Rg.closed_anc hc h.closed d ops[d] (by rw [Array.getElem?_eq_getElem hdlt]) (h.closed d _ (by rw [Array.getElem?_eq_getElem hdlt]) hl) i hd
                rw [Rg.getD_of_ready hr] at this
                cases this
          rw [if_neg (by rw [hnl]; exact Bool.false_ne_true)] at hst
          rw [hst]
          exact h0c t sv ht
        · cases ht
  · obtain ⟨h1, h2⟩ := h0.globals g id hg
    exact ⟨by rw [hag id h2]; exact h1, .inl h2⟩

omit [GT] in
theorem DL_set {nx i id : Nat} {L : Array Bool} (hi : i < L.size) : DL nx (L.setIfInBounds i true) id ↔ DL nx L id ∨ (nx ≤ id ∧ (id - nx) / 4 = i) := by
  unfold DL
  rw [Rg.getD_set hi]
  by_cases h : i = (id - nx) / 4
  · rw [if_pos h]
    constructor
    · rintro (h1 | ⟨h1, _⟩)
      · exact .inl (.inl h1)
      · exact .inr ⟨h1, h.symm⟩
    · rintro ((h1 | ⟨h1, _⟩) | ⟨h1, _⟩)
      · exact .inl h1
      · exact .inr ⟨h1, rfl⟩
      · exact .inr ⟨h1, rfl⟩
  · rw [if_neg h]
    constructor
    · exact .inl
    · rintro (h1 | ⟨_, h2⟩)
      · exact h1
      · exact absurd h2.symm h

/-- Behind an operation of the head. -/
theorem RInv.put (hc : Rg.Check ops A K) {rs : List (Nat × Res)} {ρ0 ρ ρ' : Nat → Loc} {a0 : Act} {L : Array Bool} {a : Act} {w w' : World} (h : RInv ops K rs s N M w0 ρ0 a0 L a w) (hag : ∀ id, id < s.nx → ρ id = ρ0 id)
    (hHR : HR ρ (DL s.nx L) N M (heapI ops.size s.nx rs (look s.hp) fun d => L.getD d false) w) (hsl : ∀ t, match writerOf ops t with
      | some d => if L.getD d false = true then a.eval (.tmp t) = (resOf rs d).val.conc ρ ∧ (resOf rs d).val.In (DL s.nx L) else a.eval (.tmp t) = a0.eval (.tmp t)
      | none => a.eval (.tmp t) = a0.eval (.tmp t)) (hK : Kept N M w0.w w)
    {i : Nat} {o : Oper} {t0 : Tmp} (ho : ops[i]? = some o) (hr : i ∈ Region.ready .any ops L) (hk : at_ K i ≠ 2) (hd : o.dst = some t0) (hlt : t0 < a0.tmps.size) {r : Res} (hri : look rs i = some r) (hlen : r.new.length ≤ 4) (hupd : r.upd = []) {Gi : Nat → Option Blk} (hGi : ∀ id, s.nx + 4 * i ≤ id → Gi id = none ∨ True)
    {v : Value} (hF : Fits ρ (DL s.nx L) N M Gi (s.nx + 4 * i) r w ρ' v w') (hin : r.val.In (Dn (DL s.nx L) (s.nx + 4 * i) r.new.length)) :
    RInv ops K rs s N M w0 ρ0 a0 (L.setIfInBounds i true) (a.put o.dst v) w' := by
  have hsz := (Array.getElem?_eq_some_iff.1 ho).1
  have hL : i < L.size := by rw [h.size]; exact hsz
  obtain ⟨_, o', ho', hall⟩ := mem_ready.1 hr
  have : o' = o := Option.some.inj (ho'.symm.trans ho)
  subst this
  have hDL : ∀ id, DL s.nx L id → DL s.nx (L.setIfInBounds i true) id := fun id hid => (DL_set hL).2 (.inl hid)
  have hDn : ∀ id, Dn (DL s.nx L) (s.nx + 4 * i) r.new.length id → DL s.nx (L.setIfInBounds i true) id := fun id hid => by
    rcases hid with hid | hid
    · exact hDL id hid
    · exact (DL_set hL).2 (.inr ⟨by omega, by omega⟩)
  obtain ⟨hbel, hfr⟩ := hF.fresh hupd
  refine ⟨by simp [h.size], fun j oj hj hl e he hbd => ?_, fun j hj hkj => ?_, ?_, ?_, ρ', fun id hid => ?_, fun t => ?_, ?_, hK.trans hF.kept⟩
  · rw [Rg.getD_set hL] at hl ⊢
    by_cases hij : i = j
    · subst hij
      have : oj = o' := Option.some.inj (hj.symm.trans ho)
      subst this
      split
      · rfl
      · exact hall e he hbd
    · rw [if_neg hij] at hl
      split
      · rfl
      · exact h.closed j oj hj hl e he hbd
  · rw [Rg.getD_set hL, if_neg (fun (e : i = j) => hk (e ▸ hkj))]; exact h.notail j hj hkj
  · rw [hd]; exact h.defers
  · rw [hd]; simp [Act.put, h.tmps]
  · rw [hF.agree id (.inl hid)]; exact hag id hid
  · have h1 := hsl t
    have hw := hc.one i o' t0 ho hd
    by_cases hst' : t0 = t
    · subst hst'
      rw [hw]
      simp only
      rw [Rg.getD_set hL, if_pos rfl, if_pos rfl, hd, Rg.eval_put_self (by rw [h.tmps]; exact hlt)]
      have e : resOf rs i = r := by unfold resOf; rw [hri]
      rw [e]
      exact ⟨hF.val, hin.mono hDn⟩
    · have hev : (a.put o'.dst v).eval (.tmp t) = a.eval (.tmp t) := by rw [hd]; exact eval_put_ne hst'
      rw [hev]
      split
      · rename_i d hd'
        simp only [hd'] at h1
        rw [Rg.getD_set hL]
        by_cases hid : i = d
        · subst hid
          exfalso
          unfold writerOf at hd'
          have := List.find?_some hd'
          simp only [ho, Option.bind_some, hd, beq_iff_eq, Option.some.injEq] at this
          exact hst' this
        · rw [if_neg hid]
          split
          · rename_i hld
            rw [if_pos hld] at h1
            exact ⟨by rw [SV.conc_congr hF.agree h1.2]; exact h1.1, h1.2.mono hDL⟩
          · rename_i hld
            rw [if_neg hld] at h1
            exact h1
      · rename_i hd'
        simp only [hd'] at h1
        exact h1
  · -- the blocks
    have hLm : ∀ d, L.getD d false = true → (L.setIfInBounds i true).getD d false = true := fun d hd => by
      rw [Rg.getD_set hL]; split
      · rfl
      · exact hd
    have hnew : ∀ id b, (s.nx ≤ id ∧ (id - s.nx) / 4 = i) → heapI ops.size s.nx rs (look s.hp) (fun d => (L.setIfInBounds i true).getD d false) id = some b → (s.nx + 4 * i ≤ id ∧ id < s.nx + 4 * i + r.new.length) ∧ r.new[id - (s.nx + 4 * i)]? = some b := by
      intro id b hid hb
      obtain ⟨_, _, r', e3, e4⟩ := heapI_some hid.1 hb
      rw [hid.2, hri] at e3
      injection e3 with e3
      subst e3
      have e : (id - s.nx) % 4 = id - (s.nx + 4 * i) := by omega
      rw [e] at e4
      have := (List.getElem?_eq_some_iff.1 e4).1
      exact ⟨⟨by omega, by omega⟩, e4⟩
    have hoth : ∀ id b, ¬ (s.nx ≤ id ∧ (id - s.nx) / 4 = i) → heapI ops.size s.nx rs (look s.hp) (fun d => (L.setIfInBounds i true).getD d false) id = some b → heapI ops.size s.nx rs (look s.hp) (fun d => L.getD d false) id = some b := by
      intro id b hid hb
      rcases Nat.lt_or_ge id s.nx with h1 | h1
      · rw [heapI_lt h1] at hb ⊢; exact hb
      · obtain ⟨e1, e2, r', e3, e4⟩ := heapI_some h1 hb
        have : i ≠ (id - s.nx) / 4 := fun e => hid ⟨h1, e.symm⟩
        rw [Rg.getD_set hL, if_neg this] at e1
        exact heapI_mk h1 e1 (killed_mono hLm e2) e3 e4
    have hap : ∀ id b, s.nx + 4 * i ≤ id ∧ id < s.nx + 4 * i + r.new.length → r.new[id - (s.nx + 4 * i)]? = some b → appl Gi (s.nx + 4 * i) r id = some b := by
      intro id b hid hb
      unfold appl
      rw [hupd]
      simp only [look]
      rw [if_pos hid]; exact hb
    have hfr' : ∀ id b x, s.nx + 4 * i ≤ id ∧ id < s.nx + 4 * i + r.new.length → r.new[id - (s.nx + 4 * i)]? = some b → (ρ' id).a = some x → w.heap.size ≤ x.block := by
      intro id b x hid hb hx
      refine hfr (id - (s.nx + 4 * i)) b x hb ?_
      rw [show s.nx + 4 * i + (id - (s.nx + 4 * i)) = id by omega]; exact hx
    refine hHR.step (U := fun id => s.nx ≤ id ∧ (id - s.nx) / 4 = i) hF.agree hDL hF.kept (fun id b hb hU => hoth id b hU hb) (fun id b x hb hU hx => ?_) (fun id b hb hU => ?_) (fun id b x hb hU hx => ?_) (fun id b x hb hU hk hx => ?_) (fun j k bj bk x y hj hk' hjk hU hkk hx hy => ?_)
    · exact hbel.block _ (hHR.lt id b x (hoth id b hU hb) hx)
    · obtain ⟨h1, h2⟩ := hnew id b hU hb
      obtain ⟨e1, e2, e3⟩ := hF.hr.blk id b (hap id b h1 h2)
      exact ⟨hDn id e1, e2.mono hDn, e3⟩
    · obtain ⟨h1, h2⟩ := hnew id b hU hb
      exact hF.hr.lt id b x (hap id b h1 h2) hx
    · obtain ⟨h1, h2⟩ := hnew id b hU hb
      exact hF.hr.own id b x (hap id b h1 h2) hk hx
    · by_cases hUj : s.nx ≤ j ∧ (j - s.nx) / 4 = i
      · obtain ⟨h1, h2⟩ := hnew j bj hUj hj
        by_cases hUk : s.nx ≤ k ∧ (k - s.nx) / 4 = i
        · obtain ⟨h3, h4⟩ := hnew k bk hUk hk'
          exact hF.hr.dist j k bj bk x y (hap j bj h1 h2) (hap k bk h3 h4) hjk hkk hx hy
        · have h3 := hoth k bk hUk hk'
          rw [hF.agree k (hHR.blk k bk h3).1] at hy
          have h4 := hHR.lt k bk y h3 hy
          have h5 := hfr' j bj x h1 h2 hx
          omega
      · have hUk := hU.resolve_left hUj
        obtain ⟨h1, h2⟩ := hnew k bk hUk hk'
        have h3 := hoth j bj hUj hj
        rw [hF.agree j (hHR.blk j bj h3).1] at hx
        have h4 := hHR.lt j bj x h3 hx
        have h5 := hfr' k bk y h1 h2 hy
        omega

/-- Behind an append of the head that takes a row of the region's own. -/
theorem RInv.putK (hc : Rg.Check ops A K) {rs : List (Nat × Res)} {ρ0 ρ ρ' : Nat → Loc} {a0 : Act} {L : Array Bool} {a : Act} {w w' : World} (h : RInv ops K rs s N M w0 ρ0 a0 L a w) (hag : ∀ id, id < s.nx → ρ id = ρ0 id)
    (hsl : ∀ t, match writerOf ops t with
      | some d => if L.getD d false = true then a.eval (.tmp t) = (resOf rs d).val.conc ρ ∧ (resOf rs d).val.In (DL s.nx L) else a.eval (.tmp t) = a0.eval (.tmp t)
      | none => a.eval (.tmp t) = a0.eval (.tmp t)) (hK : Kept N M w0.w w)
    {i : Nat} {o : Oper} {t0 : Tmp} (ho : ops[i]? = some o) (hr : i ∈ Region.ready .any ops L) (hk : at_ K i ≠ 2) (hd : o.dst = some t0) (hlt : t0 < a0.tmps.size) {r : Res} (hri : look rs i = some r) (hlen : r.new.length ≤ 4) {kid : Nat} (hupd : r.upd = [(kid, none)]) (hkx : s.nx ≤ kid) (hka : (at_ A i).testBit ((kid - s.nx) / 4) = true)
    {v : Value} (hF : Fits ρ (DL s.nx L) N M (heapI ops.size s.nx rs (look s.hp) fun d => L.getD d false) (s.nx + 4 * i) r w ρ' v w') (hin : r.val.In (Dn (DL s.nx L) (s.nx + 4 * i) r.new.length)) :
    RInv ops K rs s N M w0 ρ0 a0 (L.setIfInBounds i true) (a.put o.dst v) w' := by
  have hsz := (Array.getElem?_eq_some_iff.1 ho).1
  have hL : i < L.size := by rw [h.size]; exact hsz
  obtain ⟨_, o', ho', hall⟩ := mem_ready.1 hr
  have : o' = o := Option.some.inj (ho'.symm.trans ho)
  subst this
  have hDL : ∀ id, DL s.nx L id → DL s.nx (L.setIfInBounds i true) id := fun id hid => (DL_set hL).2 (.inl hid)
  have hDn : ∀ id, Dn (DL s.nx L) (s.nx + 4 * i) r.new.length id → DL s.nx (L.setIfInBounds i true) id := fun id hid => by
    rcases hid with hid | hid
    · exact hDL id hid
    · exact (DL_set hL).2 (.inr ⟨by omega, by omega⟩)
  refine ⟨by simp [h.size], fun j oj hj hl e he hbd => ?_, fun j hj hkj => ?_, ?_, ?_, ρ', fun id hid => ?_, fun t => ?_, ?_, hK.trans hF.kept⟩
  · rw [Rg.getD_set hL] at hl ⊢
    by_cases hij : i = j
    · subst hij
      have : oj = o' := Option.some.inj (hj.symm.trans ho)
      subst this
      split
      · rfl
      · exact hall e he hbd
    · rw [if_neg hij] at hl
      split
      · rfl
      · exact h.closed j oj hj hl e he hbd
  · rw [Rg.getD_set hL, if_neg (fun (e : i = j) => hk (e ▸ hkj))]; exact h.notail j hj hkj
  · rw [hd]; exact h.defers
  · rw [hd]; simp [Act.put, h.tmps]
  · rw [hF.agree id (.inl hid)]; exact hag id hid
  · have h1 := hsl t
    have hw := hc.one i o' t0 ho hd
    by_cases hst' : t0 = t
    · subst hst'
      rw [hw]
      simp only
      rw [Rg.getD_set hL, if_pos rfl, if_pos rfl, hd, Rg.eval_put_self (by rw [h.tmps]; exact hlt)]
      have e : resOf rs i = r := by unfold resOf; rw [hri]
      rw [e]
      exact ⟨hF.val, hin.mono hDn⟩
    · have hev : (a.put o'.dst v).eval (.tmp t) = a.eval (.tmp t) := by rw [hd]; exact eval_put_ne hst'
      rw [hev]
      split
      · rename_i d hd'
        simp only [hd'] at h1
        rw [Rg.getD_set hL]
        by_cases hid : i = d
        · subst hid
          exfalso
          unfold writerOf at hd'
          have := List.find?_some hd'
          simp only [ho, Option.bind_some, hd, beq_iff_eq, Option.some.injEq] at this
          exact hst' this
        · rw [if_neg hid]
          split
          · rename_i hld
            rw [if_pos hld] at h1
            exact ⟨by rw [SV.conc_congr hF.agree h1.2]; exact h1.1, h1.2.mono hDL⟩
          · rename_i hld
            rw [if_neg hld] at h1
            exact h1
      · rename_i hd'
        simp only [hd'] at h1
        exact h1
  · have hLm : ∀ d, L.getD d false = true → (L.setIfInBounds i true).getD d false = true := fun d hd => by
      rw [Rg.getD_set hL]; split
      · rfl
      · exact hd
    have hdi := Rg.anc_lt hc i o' ho _ hka
    refine (hF.hr.monoD hDn).weaken fun id b hb => ?_
    unfold appl
    rw [hupd]
    rcases Nat.lt_or_ge id s.nx with h1 | h1
    · rw [heapI_lt h1] at hb
      have hne : Nat.beq kid id = false := by
        cases hq : Nat.beq kid id
        · rfl
        · have := Nat.eq_of_beq_eq_true hq; omega
      simp only [look, hne]
      rw [if_neg (by omega), heapI_lt h1]
      exact hb
    · obtain ⟨e1, e2, r', e3, e4⟩ := heapI_some h1 hb
      have hne : Nat.beq kid id = false := by
        cases hq : Nat.beq kid id with
        | false => rfl
        | true =>
          have he := Nat.eq_of_beq_eq_true hq
          subst he
          rw [killed_iff.2 ⟨i, r, hsz, by rw [Rg.getD_set hL, if_pos rfl], hri, by unfold killsOf; rw [hupd]; exact Nat.beq_refl _⟩] at e2
          cases e2
      simp only [look, hne]
      by_cases hid : (id - s.nx) / 4 = i
      · rw [hid, hri] at e3
        injection e3 with e3
        subst e3
        have e : (id - s.nx) % 4 = id - (s.nx + 4 * i) := by omega
        rw [e] at e4
        have := (List.getElem?_eq_some_iff.1 e4).1
        rw [if_pos ⟨by omega, by omega⟩]
        exact e4
      · rw [if_neg (by omega)]
        rw [Rg.getD_set hL, if_neg (fun e => hid e.symm)] at e1
        exact heapI_mk h1 e1 (killed_mono hLm e2) e3 e4

end
end Go.Proofs.YtpefomdegbmecaaDoor.Am
/- The abstract machine: a region that draws its order, whole. Conditions: none. -/
namespace Go.Proofs.YtpefomdegbmecaaDoor.Am
set_option linter.unusedVariables false
set_option linter.unusedSimpArgs false
open Go Go.RowKit
open Rg (gives at_ writerOf dstOf)

section
variable {P : Program} {T : List (Nat × Ty)} {O : List (Nat × Ent)} {N : Nat} {M : List Nat} {w0 : Wd} {ops : Array Oper} {A K : List Nat} {H : Nat → Hint} {s : St}
variable [GT]

omit [GT] in
theorem pure_run {o : Oper} {a : Act} (h : pureO o.op = true) : (∃ v, ∀ w, (execOp a.eval o).run P w = .ok (.value v) w) ∨ ∀ w, ∃ q, (execOp a.eval o).run P w = .halt q w := by
  unfold pureO at h
  split at h
  · rename_i x hop; exact .inl ⟨a.eval x, fun w => by unfold execOp; rw [hop]; first | done | rfl⟩
  · rename_i x hop; exact .inl ⟨a.eval x, fun w => by unfold execOp; rw [hop]; first | done | rfl⟩
  · rename_i x i hop
    have e : execOp a.eval o = (Instr.extract (a.eval x) i >>= fun v => pure (.value v)) := by unfold execOp; rw [hop]; first | done | rfl
    cases hx : a.eval x with
    | tuple vs =>
      cases hv : vs[i]? with
      | some v => exact .inl ⟨v, fun w => by rw [e, hx]; simp [Instr.extract, hv]⟩
      | none => exact .inr fun w => ⟨_, by rw [e, hx, Sem.run_bind]; simp only [Instr.extract, hv]; rfl⟩
    | _ => exact .inr fun w => ⟨_, by rw [e, hx, Sem.run_bind]; first | done | rfl⟩
  · cases h

/-- What the region leaves, its tail still to come. -/
def Heads (ops : Array Oper) (K : List Nat) (rs : List (Nat × Res)) (s : St) (N : Nat) (M : List Nat) (w0 : Wd) (ρ0 : Nat → Loc) (a0 : Act) (Z : Act → World → Prop) : Prop :=
  ∀ L a w, RInv ops K rs s N M w0 ρ0 a0 L a w → (∀ j, j < ops.size → at_ K j ≠ 2 → L.getD j false = true) → Z a w

theorem draw_finish (hc : Rg.Check ops A K) {Q : Exit → Act → World → Prop} {rs : List (Nat × Res)} {ρ0 : Nat → Loc} {a0 : Act} (hfin : Heads ops K rs s N M w0 ρ0 a0 (wpList P ops (NoPanic Q) ((Rg.tailL ops K).filterMap (ops[·]?)))) {n : Nat} (L : Array Bool) (a : Act) (w : World) (hn : Rg.unl ops L = n) (hI : RInv ops K rs s N M w0 ρ0 a0 L a w) (hdone : ∀ j, j < ops.size → at_ K j ≠ 2 → L.getD j false = true) : wpAny P .any ops (NoPanic Q) n L a w := by
  rw [← hn]
  refine Rg.tail_any hc (Rg.tailL ops K) L a w hI.size (List.Pairwise.sublist List.filter_sublist List.pairwise_lt_range) (fun j hj => ?_) (fun j hj => ?_) hI.closed (hfin L a w hI hdone)
  · unfold Rg.tailL at hj
    rw [List.mem_filter, List.mem_range] at hj
    exact ⟨hj.1, by simpa using hj.2⟩
  · unfold Rg.tailL
    rw [List.mem_filter, List.mem_range]
    constructor
    · intro hl
      refine ⟨hj, ?_⟩
      by_cases hk : at_ K j = 2
      · simp [hk]
      · rw [hdone j hj hk] at hl; cases hl
    · rintro ⟨_, hk⟩
      exact hI.notail j hj (by simpa using hk)

theorem draw_any (hT : TOK P T) (hO : OOK P O) (hc : Rg.Check ops A K) (hpu : ∀ i o, ops[i]? = some o → at_ K i = 0 → pureO o.op = true) {Q : Exit → Act → World → Prop} {rs : List (Nat × Res)} {ρ0 : Nat → Loc} {a0 : Act} {w1 : World} (h0 : Rel ρ0 (· < s.nx) N M w0 s.gl s.get (look s.hp) a0 w1)
    (hsl : ∀ (i : Nat) (o : Oper) (t : Tmp), ops[i]? = some o → o.dst = some t → t < a0.tmps.size) (hhd : ∀ i o, ops[i]? = some o → at_ K i ≠ 2 → HeadOK T O ops A H s rs i o) (hKO : KillOK ops A K s.nx rs)
    (hfin : Heads ops K rs s N M w0 ρ0 a0 (wpList P ops (NoPanic Q) ((Rg.tailL ops K).filterMap (ops[·]?)))) :
    ∀ (n : Nat) (L : Array Bool) (a : Act) (w : World), Rg.unl ops L = n → RInv ops K rs s N M w0 ρ0 a0 L a w → wpAny P .any ops (NoPanic Q) n L a w := by
  intro n
  induction n with
  | zero =>
    intro L a w hn hI
    have hall : ∀ j, j < ops.size → L.getD j false = true := fun j hj => by
      unfold Rg.unl at hn
      rw [List.countP_eq_zero] at hn
      simpa using hn j (List.mem_range.2 hj)
    exact draw_finish hc hfin L a w hn hI fun j hj _ => hall j hj
  | succ n ih =>
    intro L a w hn hI
    by_cases hdone : ∀ j, j < ops.size → at_ K j ≠ 2 → L.getD j false = true
    · exact draw_finish hc hfin L a w hn hI hdone
    · have hex : ∃ j, j < ops.size ∧ at_ K j ≠ 2 ∧ L.getD j false = false := by
        apply Classical.byContradiction
        intro hno
        exact hdone fun j hj hk => by
          cases hl : L.getD j false with
          | true => rfl
          | false => exact absurd ⟨j, hj, hk, hl⟩ hno
      obtain ⟨j0, hj0⟩ := hex
      obtain ⟨h, ⟨hh1, hh2, hh3⟩, hmin⟩ := Rg.least_unl (p := fun j => j < ops.size ∧ at_ K j ≠ 2 ∧ L.getD j false = false) j0 hj0
      obtain ⟨oh, hoh⟩ : ∃ o, ops[h]? = some o := ⟨ops[h], by rw [Array.getElem?_eq_getElem]⟩
      have hhr : h ∈ Region.ready .any ops L := by
        have hL : h < L.size := by rw [hI.size]; exact hh1
        refine mem_ready.2 ⟨by simp [hL] at hh3 ⊢; exact hh3, oh, hoh, fun e he hb => ?_⟩
        have hlt := (hc.anc h oh hoh).2 e he hb
        have hk := (hc.heads h oh hoh hh2).2 e he hb
        cases hl : L.getD e.on false with
        | true => rfl
        | false => exact absurd ⟨by omega, hk, hl⟩ (hmin e.on hlt)
      -- what is known of an operation of the head that may come up
      have step : ∀ i o, ops[i]? = some o → i ∈ Region.ready .any ops L → at_ K i ≠ 2 →
          (Region.wanted o (yielded ops a.tmps) = true ∧ gives P o a w fun v w' => RInv ops K rs s N M w0 ρ0 a0 (L.setIfInBounds i true) (a.put o.dst v) w') ∨
          (Region.wanted o (yielded ops a.tmps) = false ∧ RInv ops K rs s N M w0 ρ0 a0 (L.setIfInBounds i true) (a.put o.dst undef) w) := by
        intro i o ho hi hk
        obtain ⟨r, hri, hop, ha, hlen, hupd⟩ := hhd i o ho hk
        obtain ⟨t0, hd⟩ := (hc.heads i o ho hk).1
        have hlt := (Array.getElem?_eq_some_iff.1 ho).1
        have hLi : L.getD i false = false := Rg.getD_of_ready hi
        have hrs : ∀ d, (at_ A i).testBit d = true → ∃ r, look rs d = some r := fun d hd => by
          have hdi := Rg.anc_lt hc i o ho d hd
          have hod : ops[d]? = some (ops[d]'(by omega)) := by rw [Array.getElem?_eq_getElem]
          have hkd : at_ K d ≠ 2 := by
            intro hk2
            obtain ⟨_, o', ho', hall⟩ := mem_ready.1 hi
            have hld := Rg.closed_anc hc hI.closed i o' ho' hall d hd
            rw [hI.notail d (by omega) hk2] at hld
            cases hld
          obtain ⟨r, hr, _⟩ := hhd d _ hod hkd
          exact ⟨r, hr⟩
        obtain ⟨ρ, hag, hrel, hHR, hsl', hvw⟩ := hI.rel hc h0 ho hi hrs hk hKO
        have hfD : ∀ id, (Nat.blt id s.nx || (at_ A i).testBit ((id - s.nx) / 4)) = true → DL s.nx L id := fun id hid => by
          rw [Bool.or_eq_true] at hid
          rcases Nat.lt_or_ge id s.nx with h1 | h1
          · exact .inl h1
          · rcases hid with hid | hid
            · exact .inl (Nat.lt_of_succ_le (Nat.le_of_ble_eq_true hid))
            · obtain ⟨_, o', ho', hall⟩ := mem_ready.1 hi
              exact .inr ⟨h1, Rg.closed_anc hc hI.closed i o' ho' hall _ hid⟩
        have hfresh : ∀ id, s.nx + 4 * i ≤ id → id < s.nx + 4 * i + r.new.length → ¬ DL s.nx L id := fun id h1 h2 hD => by
          rcases hD with hD | ⟨_, hD⟩
          · omega
          · have : (id - s.nx) / 4 = i := by omega
            rw [this, hLi] at hD; cases hD
        obtain ⟨ρk, hagk, hslk, hHRk, hKk⟩ := hI.ex
        have hKept : Kept N M w0.w w := hKk
        rcases hupd with hupd | ⟨kid, hupd, happ, hkx, hka⟩
        · rcases opRes_sound hT hO hrel hfD hop ha hfresh with ⟨hw, hS, hin⟩ | ⟨hw, rfl⟩
          · refine .inl ⟨hw, ?_⟩
            have key : ∀ v w', (∃ ρ', Fits ρ (DL s.nx L) N M (heapI ops.size s.nx rs (look s.hp) (fun d => (at_ A i).testBit d)) (s.nx + 4 * i) r w ρ' v w') → RInv ops K rs s N M w0 ρ0 a0 (L.setIfInBounds i true) (a.put o.dst v) w' := by
              rintro v w' ⟨ρ', hF⟩
              exact hI.put hc hag hHR hsl' hKept ho hi hk hd (hsl i o t0 ho hd) hri hlen hupd (fun _ _ => .inr trivial) hF hin
            unfold Sn gives at hS
            unfold gives
            generalize (execOp a.eval o).run P w = q at *
            cases q with
            | ok n w1 =>
              cases n with
              | value v => exact key v w1 hS
              | skip => exact key undef w1 hS
              | enter f args => exact Calls.mono hS fun e w2 ⟨v, he, hF⟩ => ⟨v, he, key v w2 hF⟩
              | _ => exact hS.elim
            | halt x w1 => exact hS.elim
          · refine .inr ⟨hw, ?_⟩
            exact hI.put hc hag hHR hsl' hKept ho hi hk hd (hsl i o t0 ho hd) hri hlen hupd (fun _ _ => .inr trivial) (fits_same (hrel.hr) (v := undef) rfl rfl rfl) (fun s hs => by simp [AV.segs] at hs; subst hs; trivial)
        · have hrel' : Rel ρ (DL s.nx L) N M w0 s.gl (getI ops A rs s.get i) (heapI ops.size s.nx rs (look s.hp) fun d => L.getD d false) a w := ⟨hrel.slots, hrel.globals, hHR, hrel.kept, hrel.defers⟩
          have hop' := opRes_mono happ (fun id b hb => hvw id b hb) hop
          rcases opRes_sound hT hO hrel' hfD hop' ha hfresh with ⟨hw, hS, hin⟩ | ⟨hw, rfl⟩
          · refine .inl ⟨hw, ?_⟩
            have key : ∀ v w', (∃ ρ', Fits ρ (DL s.nx L) N M (heapI ops.size s.nx rs (look s.hp) fun d => L.getD d false) (s.nx + 4 * i) r w ρ' v w') → RInv ops K rs s N M w0 ρ0 a0 (L.setIfInBounds i true) (a.put o.dst v) w' := by
              rintro v w' ⟨ρ', hF⟩
              exact hI.putK hc hag hsl' hKept ho hi hk hd (hsl i o t0 ho hd) hri hlen hupd hkx hka hF hin
            unfold Sn gives at hS
            unfold gives
            generalize (execOp a.eval o).run P w = q at *
            cases q with
            | ok n w1 =>
              cases n with
              | value v => exact key v w1 hS
              | skip => exact key undef w1 hS
              | enter f args => exact Calls.mono hS fun e w2 ⟨v, he, hF⟩ => ⟨v, he, key v w2 hF⟩
              | _ => exact hS.elim
            | halt x w1 => exact hS.elim
          · cases hupd
      by_cases hpure : ∃ i, i ∈ Region.ready .any ops L ∧ at_ K i = 0
      · obtain ⟨i, hi, hk0⟩ := hpure
        obtain ⟨_, o, ho, hall⟩ := mem_ready.1 hi
        have hlt := (Array.getElem?_eq_some_iff.1 ho).1
        have hk : at_ K i ≠ 2 := by omega
        have hcount := Rg.unl_set (ops := ops) (i := i) hlt (by rw [hI.size]; exact hlt) (Rg.getD_of_ready hi)
        have hy : ∃ v, Yields P ops o v a ∧ RInv ops K rs s N M w0 ρ0 a0 (L.setIfInBounds i true) (a.put o.dst v) w := by
          rcases step i o ho hi hk with ⟨hw, hS⟩ | ⟨hw, hS⟩
          · rcases pure_run (P := P) (a := a) (hpu i o ho hk0) with ⟨v, hv⟩ | hv
            · unfold gives at hS
              rw [hv w] at hS
              exact ⟨v, .inl ⟨hw, hv⟩, hS⟩
            · obtain ⟨q, hq⟩ := hv w
              unfold gives at hS
              rw [hq] at hS
              exact hS.elim
          · exact ⟨undef, .inr ⟨hw, rfl⟩, hS⟩
        obtain ⟨v, hy, hnext⟩ := hy
        refine wpAny_first ho (fun j o cs b hj => Region.noSelect_spec hc.sel j o cs b hj) (fun c a w hq => hq.elim) n L a w (fun j oj hj hne hun hno => ?_) hi hy ?_
        · rcases hc.pure_ i o ho hk0 j oj hj hne with ⟨e, he, hb, hon⟩ | hb | hap
          · exact absurd hon (hno e he hb)
          · have := Rg.closed_anc hc hI.closed i o ho hall j hb
            have hjl : j < L.size := by rw [hI.size]; exact (Array.getElem?_eq_some_iff.1 hj).1
            simp [hjl] at this hun
            rw [this] at hun
            cases hun
          · exact hap
        · exact ih _ _ _ (by omega) hnext
      · refine ⟨fun h0 => absurd hhr (by rw [h0]; exact List.not_mem_nil), fun i hi => ?_⟩
        obtain ⟨_, o, ho, hall⟩ := mem_ready.1 hi
        have hlt := (Array.getElem?_eq_some_iff.1 ho).1
        have hk0 : at_ K i ≠ 0 := fun e => hpure ⟨i, hi, e⟩
        have hk : at_ K i ≠ 2 := by
          intro hk2
          have hkh : at_ K h ≠ 0 := fun e => hpure ⟨h, hhr, e⟩
          have := Rg.closed_anc hc hI.closed i o ho hall h ((hc.tails i o ho hk2).1 h hh1 hkh hh2)
          rw [hh3] at this
          cases this
        have hcount := Rg.unl_set (ops := ops) (i := i) hlt (by rw [hI.size]; exact hlt) (Rg.getD_of_ready hi)
        unfold wpOp
        simp only [ho]
        rcases step i o ho hi hk with ⟨hw, hS⟩ | ⟨hw, hS⟩
        · rw [if_pos hw]
          exact .inl (Rg.wp_of_gives hS fun v w' hR => ih _ _ _ (by omega) hR)
        · rw [if_neg (by rw [hw]; simp)]
          exact ih _ _ _ (by omega) hS

end
end Go.Proofs.YtpefomdegbmecaaDoor.Am
/- The abstract machine: regions, whole. Conditions: none. -/
namespace Go.Proofs.YtpefomdegbmecaaDoor.Am
set_option linter.unusedVariables false
set_option linter.unusedSimpArgs false
open Go Go.RowKit
open Rg (gives at_ writerOf dstOf)

section
variable {P : Program} {T : List (Nat × Ty)} {O : List (Nat × Ent)} {N : Nat} {M : List Nat} {w0 : Wd} {ops : Array Oper} {A K : List Nat} {H : Nat → Hint} {s : St}
variable [GT]

omit [GT] in
theorem putOne_nx (rs : List (Nat × Res)) (i : Nat) (s : St) : (putOne ops rs i s).nx = s.nx ∧ (putOne ops rs i s).gl = s.gl ∧ (putOne ops rs i s).tm.length = s.tm.length := by
  unfold putOne
  split
  · refine ⟨rfl, rfl, ?_⟩
    simp only
    split
    · rw [setNth_len]
    · rfl
  · exact ⟨rfl, rfl, rfl⟩
omit [GT] in
theorem putAll_nx (rs : List (Nat × Res)) : ∀ (l : List Nat) (s : St), (putAll ops rs l s).nx = s.nx ∧ (putAll ops rs l s).gl = s.gl ∧ (putAll ops rs l s).tm.length = s.tm.length
  | [], _ => ⟨rfl, rfl, rfl⟩
  | i :: l, s => by
    obtain ⟨h1, h2, h3⟩ := putAll_nx rs l (putOne ops rs i s)
    obtain ⟨e1, e2, e3⟩ := putOne_nx (ops := ops) rs i s
    exact ⟨h1.trans e1, h2.trans e2, h3.trans e3⟩
omit [GT] in
theorem putOne_get {rs : List (Nat × Res)} {i : Nat} {s : St} {t : Nat} {sv : SV} (h : (putOne ops rs i s).get t = some sv) : (∃ r, look rs i = some r ∧ dstOf ops i = some t ∧ sv = r.val) ∨ ((∀ r, look rs i = some r → dstOf ops i ≠ some t) ∧ s.get t = some sv) := by
  unfold putOne at h
  cases hr : look rs i with
  | none =>
    rw [hr] at h
    exact .inr ⟨(fun r hr' => by cases hr'), h⟩
  | some r =>
    rw [hr] at h
    simp only [St.get] at h
    cases hd : dstOf ops i with
    | none =>
      rw [hd] at h
      exact .inr ⟨fun r' _ => by simp, h⟩
    | some u =>
      rw [hd] at h
      simp only [nth_set] at h
      by_cases hu : u = t
      · subst hu
        rw [if_pos rfl] at h
        by_cases hl : u < s.tm.length
        · rw [if_pos hl] at h
          simp only [Option.some.injEq] at h
          exact .inl ⟨r, rfl, rfl, h.symm⟩
        · rw [if_neg hl] at h; cases h
      · rw [if_neg hu] at h
        exact .inr ⟨fun r' _ e => hu (by injection e), h⟩
omit [GT] in
theorem putAll_get (rs : List (Nat × Res)) : ∀ (l : List Nat) (s : St) (t : Nat) (sv : SV), (putAll ops rs l s).get t = some sv → (∃ i r, i ∈ l ∧ look rs i = some r ∧ dstOf ops i = some t ∧ sv = r.val) ∨ ((∀ i r, i ∈ l → look rs i = some r → dstOf ops i ≠ some t) ∧ s.get t = some sv)
  | [], _, _, _, h => .inr ⟨(fun i r hi => by cases hi), h⟩
  | i :: l, s, t, sv, h => by
    rcases putAll_get rs l _ t sv h with ⟨j, r, hj, h1, h2, h3⟩ | ⟨h1, h2⟩
    · exact .inl ⟨j, r, List.mem_cons_of_mem _ hj, h1, h2, h3⟩
    · rcases putOne_get h2 with ⟨r, hr, hd, rfl⟩ | ⟨hno, hs⟩
      · exact .inl ⟨i, r, by simp, hr, hd, rfl⟩
      · refine .inr ⟨fun j r hj hjr => ?_, hs⟩
        rcases List.mem_cons.1 hj with rfl | hj
        · exact hno r hjr
        · exact h1 j r hj hjr
omit [GT] in
theorem putOne_hp {rs : List (Nat × Res)} {i : Nat} {s : St} {id : Nat} {b : Blk} (h : look (putOne ops rs i s).hp id = some b) : (∃ r, look rs i = some r ∧ s.nx + 4 * i ≤ id ∧ id < s.nx + 4 * i + r.new.length ∧ r.new[id - (s.nx + 4 * i)]? = some b) ∨ look s.hp id = some b := by
  unfold putOne at h
  cases hr : look rs i with
  | none => rw [hr] at h; exact .inr h
  | some r =>
    rw [hr] at h
    simp only [look_newH] at h
    by_cases hc : s.nx + 4 * i ≤ id ∧ id < s.nx + 4 * i + r.new.length
    · rw [if_pos hc] at h
      exact .inl ⟨r, rfl, hc.1, hc.2, h⟩
    · rw [if_neg hc] at h
      exact .inr h
omit [GT] in
theorem putAll_hp (rs : List (Nat × Res)) : ∀ (l : List Nat) (s : St) (id : Nat) (b : Blk), look (putAll ops rs l s).hp id = some b → (∃ i r, i ∈ l ∧ look rs i = some r ∧ s.nx + 4 * i ≤ id ∧ id < s.nx + 4 * i + r.new.length ∧ r.new[id - (s.nx + 4 * i)]? = some b) ∨ look s.hp id = some b
  | [], _, _, _, h => .inr h
  | i :: l, s, id, b, h => by
    have hnx := (putOne_nx (ops := ops) rs i s).1
    rcases putAll_hp rs l _ id b h with ⟨j, r, hj, h1⟩ | h1
    · rw [hnx] at h1
      exact .inl ⟨j, r, List.mem_cons_of_mem _ hj, h1⟩
    · rcases putOne_hp h1 with ⟨r, h2⟩ | h2
      · exact .inl ⟨i, r, by simp, h2⟩
      · exact .inr h2

omit [GT] in
theorem look_killH (hp : List (Nat × Blk)) : ∀ (l : List Nat) (i : Nat) (b : Blk), look (killH hp l) i = some b → i ∉ l ∧ look hp i = some b
  | [], i, b, h => ⟨by simp, h⟩
  | id :: l, i, b, h => by
    simp only [killH] at h
    rw [look_dropH] at h
    by_cases hi : id = i
    · rw [if_pos hi] at h; cases h
    · rw [if_neg hi] at h
      obtain ⟨h1, h2⟩ := look_killH hp l i b h
      refine ⟨fun hm => ?_, h2⟩
      rcases List.mem_cons.1 hm with e | hm
      · exact hi e.symm
      · exact h1 hm
omit [GT] in
theorem mem_killIds {rs : List (Nat × Res)} {id : Nat} : ∀ (l : List Nat) (k : Nat) (r : Res), k ∈ l → look rs k = some r → r.upd = [(id, none)] → id ∈ killIds rs l
  | [], _, _, h, _, _ => by cases h
  | x :: l, k, r, h, hr, hu => by
    unfold killIds
    rcases List.mem_cons.1 h with rfl | h
    · rw [hr]
      simp only [hu]
      exact List.mem_cons_self
    · have ih := mem_killIds l k r h hr hu
      split
      · split
        · exact List.mem_cons_of_mem _ ih
        · exact ih
      · exact ih
theorem HR.drew {ρ : Nat → Loc} {D : Nat → Prop} {G : Nat → Option Blk} {w : World} (h : HR ρ D N M G w) : HR ρ D N M G w.drew :=
  h.step (U := fun _ => False) (fun _ _ => rfl) (fun _ h => h) (Kept.of_below ((Below.refl _ _).drew)) (fun _ _ h _ => h) (fun _ _ _ _ _ _ => rfl) (fun _ _ _ h => h.elim) (fun _ _ _ _ h => h.elim) (fun _ _ _ _ h => h.elim) (fun _ _ _ _ _ _ _ _ _ h => (h.elim id id).elim)

omit [GT] in
theorem rep_false (n j : Nat) : (Array.replicate n false).getD j false = false := by
  rcases Nat.lt_or_ge j n with hj | hj <;> simp [hj]
theorem drawK_sound {bb : Bool} (hT : TOK P T) (hO : OOK P O) (hm : P.follows .mixedOrders = true) {l : List Oper} {id : Nat} {Q : Exit → Act → World → Prop} {s' : St} {p : Asm} {ρ : Nat → Loc} {a : Act} {w : World} (h : drawK bb T O l H s = some (s', p)) (hp : p.holds) (hR : RelS ρ N M w0 s a w)
    (hQ : ∀ ρ' a' w', RelS ρ' N M w0 s' a' w' → NoPanic Q .normal a' w') : (Code.region id l.toArray true).wp P Q a w := by
  unfold drawK at h
  simp only at h
  split at h
  · rename_i hchk
    simp only [Bool.and_eq_true] at hchk
    obtain ⟨⟨⟨hB, hpu⟩, hdst⟩, htl⟩ := hchk
    split at h
    · rename_i rs p1 h1
      split at h
      rotate_left
      · cases h
      rename_i hkB
      split at h
      · rename_i s1 q h2
        simp only [Option.some.injEq, Prod.mk.injEq] at h
        obtain ⟨rfl, rfl⟩ := h
        generalize hA : ancL l [] = A at *
        generalize hK : kindL bb l.toArray l A 0 [] = K at *
        generalize hmm : (Rg.headL l.toArray K).length = m at *
        have hc := Rg.check_of hB
        rw [beq_iff_eq] at htl
        have hheads : ∀ i, i < l.toArray.size → at_ K i ≠ 2 → i < m := fun i hi hk => by
          rcases Nat.lt_or_ge i m with h | h
          · exact h
          · exfalso
            have : i ∈ Rg.tailL l.toArray K := by
              rw [htl]
              rw [List.mem_iff_getElem?]
              exact ⟨i - m, by rw [List.getElem?_drop, show m + (i - m) = i by omega, List.getElem?_range hi]⟩
            unfold Rg.tailL at this
            rw [List.mem_filter] at this
            exact hk (by simpa using this.2)
        obtain ⟨_, hspec⟩ := headOps_spec hc (l.take m) 0 [] rs p1 h1 hp.1 (fun j r hj => by cases hj) (fun k o hk => by
          rw [List.getElem?_take] at hk
          split at hk
          · rw [Nat.zero_add]; simpa using hk
          · cases hk)
        have hhd : ∀ i o, l.toArray[i]? = some o → at_ K i ≠ 2 → HeadOK T O l.toArray A H s rs i o := fun i o ho hk => by
          have hi := hheads i (Array.getElem?_eq_some_iff.1 ho).1 hk
          have := hspec i o (by rw [List.getElem?_take_of_lt hi]; simpa using ho)
          rwa [Nat.zero_add] at this
        have hsl : ∀ (i : Nat) (o : Oper) (t : Tmp), l.toArray[i]? = some o → o.dst = some t → t < a.tmps.size := fun i o t ho hd => by
          have hmem : o ∈ l := by have := Array.mem_of_getElem? ho; simpa using this
          have := List.all_eq_true.1 hdst o hmem
          simp only [hd, decide_eq_true_eq] at this
          rw [hR.size]; exact this
        have hpure : ∀ i o, l.toArray[i]? = some o → at_ K i = 0 → pureO o.op = true := fun i o ho hk => by
          have := List.all_eq_true.1 hpu i (List.mem_range.2 (Array.getElem?_eq_some_iff.1 ho).1)
          rw [hk, ho] at this
          simpa using this
        have hKO : KillOK l.toArray A K s.nx rs := fun k r id hr hu hk2 hks i his hi2 hne hbit => by
          have hkm := hheads k hks hk2
          have him := hheads i his hi2
          unfold killB at hkB
          have := List.all_eq_true.1 hkB k (List.mem_range.2 hkm)
          rw [hr] at this
          simp only [hu] at this
          have := List.all_eq_true.1 this i (List.mem_range.2 him)
          rw [hbit] at this
          simp only [Bool.not_true, Bool.false_or, Bool.or_eq_true] at this
          rcases this with h | h | h
          · exact absurd (Nat.eq_of_beq_eq_true h) hne
          · exact .inl h
          · exact .inr h
        refine wp_region_noPanic (wp_region_any hm ?_)
        have hrep : ∀ j, (Array.replicate l.toArray.size false).getD j false = false := rep_false _
        have hunl : Rg.unl l.toArray (Array.replicate l.toArray.size false) = l.toArray.size := by
          unfold Rg.unl
          rw [List.countP_eq_length.2 fun i _ => by rw [hrep i, Bool.not_false], List.length_range]
        refine draw_any hT hO hc hpure (a0 := a) (w1 := w) hR.rel hsl hhd hKO ?_ _ _ _ _ hunl ⟨by simp, fun j oj _ hl => absurd hl (by rw [hrep j]; exact Bool.false_ne_true), fun j _ _ => hrep j, hR.rel.defers, rfl, ρ, fun _ _ => rfl, fun t => ?_, ?_, hR.rel.kept.trans (Kept.of_below ((Below.refl _ _).drew))⟩
        · -- behind the heads
          intro L a' w' hI hall
          obtain ⟨ρ', hag, hslots, hHR, hK'⟩ := hI.ex
          have htail : (Rg.tailL l.toArray K).filterMap (l.toArray[·]?) = l.drop m := by
            rw [htl]
            exact Rg.drop_range l m
          rw [htail]
          refine seq_sound hT hO (l.drop m) m _ _ _ ρ' a' w' h2 hp.2 ⟨⟨fun t sv ht => ?_, fun g i hg => ?_, ?_, hK', hI.defers⟩, ?_⟩ hQ
          · have ht' : (putAll l.toArray rs (List.range m) s).get t = some sv := ht
            have hDn : ∀ id, DL s.nx L id → id < s.nx + 4 * m := fun id hid => by
              rcases hid with hid | ⟨h1, h2⟩
              · omega
              · have hlt : (id - s.nx) / 4 < l.toArray.size := by
                  rcases Nat.lt_or_ge ((id - s.nx) / 4) L.size with h3 | h3
                  · rw [hI.size] at h3; exact h3
                  · simp [Array.getElem?_eq_none h3] at h2
                have := hheads _ hlt (fun hk2 => by rw [hI.notail _ hlt hk2] at h2; cases h2)
                omega
            rcases putAll_get rs _ _ t sv ht' with ⟨i, r, hi, hr, hd, rfl⟩ | ⟨hno, hs⟩
            · have hil : i < l.toArray.size := by
                unfold dstOf at hd
                cases ho : l.toArray[i]? with
                | none => rw [ho] at hd; cases hd
                | some o => exact (Array.getElem?_eq_some_iff.1 ho).1
              have ho : l.toArray[i]? = some l.toArray[i] := by rw [Array.getElem?_eq_getElem]
              have hw := hc.one i _ t ho (by unfold dstOf at hd; rw [ho] at hd; exact hd)
              have hki : at_ K i ≠ 2 := fun hk2 => by
                have : i ∈ Rg.tailL l.toArray K := by
                  unfold Rg.tailL
                  rw [List.mem_filter, List.mem_range]
                  exact ⟨hil, by simp [hk2]⟩
                rw [htl] at this
                have h3 := List.mem_range.1 hi
                obtain ⟨k, hk⟩ := List.mem_iff_getElem?.1 this
                rw [List.getElem?_drop] at hk
                have hkr := List.getElem?_eq_some_iff.1 hk
                obtain ⟨hkr1, hkr2⟩ := hkr
                rw [List.getElem_range] at hkr2
                omega
              have hst := hslots t
              rw [hw] at hst
              simp only at hst
              rw [if_pos (hall i hil hki)] at hst
              have e : resOf rs i = r := by unfold resOf; rw [hr]
              rw [e] at hst
              exact ⟨hst.1, hst.2.mono hDn⟩
            · obtain ⟨h3, h4⟩ := hR.rel.slots t sv hs
              have hst := hslots t
              have hev : a'.eval (.tmp t) = a.eval (.tmp t) := by
                cases hw : writerOf l.toArray t with
                | none => rw [hw] at hst; exact hst
                | some d =>
                  rw [hw] at hst
                  simp only at hst
                  have hdlt : d < l.toArray.size := by
                    unfold writerOf at hw
                    exact List.mem_range.1 (List.mem_of_find?_eq_some hw)
                  have hdd : dstOf l.toArray d = some t := by
                    unfold writerOf at hw
                    have := List.find?_some hw
                    unfold dstOf
                    simpa using this
                  by_cases hkd : at_ K d = 2
                  · rw [if_neg (by rw [hI.notail d hdlt hkd]; exact Bool.false_ne_true)] at hst
                    exact hst
                  · obtain ⟨r, hr, _⟩ := hhd d l.toArray[d] (by rw [Array.getElem?_eq_getElem]) hkd
                    exact absurd hdd (hno d r (List.mem_range.2 (hheads d hdlt hkd)) hr)
              refine ⟨by rw [hev, h3, SV.conc_congr hag h4], h4.mono fun id hid => ?_⟩
              have : id < s.nx := hid
              show id < s.nx + 4 * m
              omega
          · have hg' : LkOK s.gl w0.lk g i := by
              have := (putAll_nx (ops := l.toArray) rs (List.range m) s).2.1
              rw [← this]; exact hg
            obtain ⟨h3, h4⟩ := hR.rel.globals g i hg'
            refine ⟨by rw [hag i h4]; exact h3, ?_⟩
            have : i < s.nx := h4
            show i < s.nx + 4 * m
            omega
          · have hDn : ∀ id, DL s.nx L id → id < s.nx + 4 * m := fun id hid => by
              rcases hid with hid | ⟨h1, h2⟩
              · omega
              · have hlt : (id - s.nx) / 4 < l.toArray.size := by
                  rcases Nat.lt_or_ge ((id - s.nx) / 4) L.size with h3 | h3
                  · rw [hI.size] at h3; exact h3
                  · simp [Array.getElem?_eq_none h3] at h2
                have := hheads _ hlt (fun hk2 => by rw [hI.notail _ hlt hk2] at h2; cases h2)
                omega
            refine (hHR.monoD hDn).weaken fun id b hb => ?_
            obtain ⟨hnk, hb⟩ := look_killH _ _ _ _ hb
            rcases putAll_hp rs _ _ id b hb with ⟨i, r, hi, hr, h3, h4, h5⟩ | h3
            · have hil : i < l.toArray.size := by
                have h6 := List.mem_range.1 hi
                have : m ≤ l.toArray.size := by
                  rw [← hmm]
                  unfold Rg.headL
                  exact Nat.le_trans (List.length_filter_le _ _) (by simp)
                omega
              have hki : at_ K i ≠ 2 := fun hk2 => by
                have : i ∈ Rg.tailL l.toArray K := by
                  unfold Rg.tailL
                  rw [List.mem_filter, List.mem_range]
                  exact ⟨hil, by simp [hk2]⟩
                rw [htl] at this
                have h6 := List.mem_range.1 hi
                obtain ⟨k, hk⟩ := List.mem_iff_getElem?.1 this
                rw [List.getElem?_drop] at hk
                obtain ⟨hkr1, hkr2⟩ := List.getElem?_eq_some_iff.1 hk
                rw [List.getElem_range] at hkr2
                omega
              obtain ⟨r', hr', _, _, hlen, _⟩ := hhd i l.toArray[i] (by rw [Array.getElem?_eq_getElem]) hki
              rw [hr] at hr'
              injection hr' with hr'
              subst hr'
              have hq : (id - s.nx) / 4 = i := by omega
              refine heapI_mk (by omega) (by rw [hq]; exact hall i hil hki) ?_ (by rw [hq]; exact hr) (by rw [show (id - s.nx) % 4 = id - (s.nx + 4 * i) by omega]; exact h5)
              cases hkq : killed l.toArray.size rs (fun d => L.getD d false) id with
              | false => rfl
              | true =>
                obtain ⟨k, rk, k1, k2, k3, k4⟩ := killed_iff.1 hkq
                have hk2' : at_ K k ≠ 2 := fun e => by rw [hI.notail k k1 e] at k2; cases k2
                exact absurd (mem_killIds _ k rk (List.mem_range.2 (hheads k k1 hk2')) k3 (kills_upd k4)) hnk
            · have h6 : id < s.nx := (hR.rel.hr.blk id b h3).1
              rw [heapI_lt h6]
              exact h3
          · rw [hI.tmps, hR.size]
            exact (putAll_nx (ops := l.toArray) rs (List.range m) s).2.2.symm
        · split
          · rename_i d _
            rw [hrep d]
            exact if_neg Bool.false_ne_true ▸ rfl
          · rfl
        · refine (hR.rel.hr.drew.monoD fun id h => .inl h).weaken fun id b hb => ?_
          rcases Nat.lt_or_ge id s.nx with h3 | h3
          · rw [heapI_lt h3] at hb; exact hb
          · have := (heapI_some h3 hb).1
            rw [hrep ((id - s.nx) / 4)] at this
            cases this
      · cases h
    · cases h
  · cases h
theorem draw_sound (hT : TOK P T) (hO : OOK P O) (hm : P.follows .mixedOrders = true) {l : List Oper} {id : Nat} {Q : Exit → Act → World → Prop} {s' : St} {p : Asm} {ρ : Nat → Loc} {a : Act} {w : World} (h : drawOps T O l H s = some (s', p)) (hp : p.holds) (hR : RelS ρ N M w0 s a w)
    (hQ : ∀ ρ' a' w', RelS ρ' N M w0 s' a' w' → NoPanic Q .normal a' w') : (Code.region id l.toArray true).wp P Q a w := by
  unfold drawOps at h
  split at h
  · rename_i r hr
    injection h with h
    subst h
    exact drawK_sound hT hO hm hr hp hR hQ
  · exact drawK_sound hT hO hm h hp hR hQ
end
end Go.Proofs.YtpefomdegbmecaaDoor.Am
/- The abstract machine: code, and calls. Conditions: none. -/
namespace Go.Proofs.YtpefomdegbmecaaDoor.Am
set_option linter.unusedVariables false
set_option linter.unusedSimpArgs false
open Go Go.RowKit

/-- What is still to do: code; the end of a block; a loop with so many rounds left; a loop at whose head the machine stops. -/
inductive AI where
  | code (c : Code)
  | blk (id : Nat)
  | lp (n : Nat) (c : Code)
  | hd (n : Nat) (c : Code)
  | fin
def Kst (P : Program) (B : Exit → Act → World → Prop) : List AI → Exit → Act → World → Prop
  | [], e, a, w => B e a w
  | .code c :: k, .normal, a, w => c.wp P (Kst P B k) a w
  | .code _ :: k, e, a, w => Kst P B k e a w
  | .blk id :: k, e, a, w => Exit.inBlock id (Kst P B k) e a w
  | .lp n c :: k, .normal, a, w => Code.rounds P c (Kst P B k) n a w
  | .lp _ _ :: k, e, a, w => Kst P B k e a w
  | .hd n c :: k, .normal, a, w => Code.rounds P c (Kst P B k) n a w
  | .hd _ _ :: k, e, a, w => Kst P B k e a w
  | .fin :: _, .normal, a, w => B .ret a w
  | .fin :: k, e, a, w => Kst P B k e a w
def unwindTo (id : Nat) : List AI → Option (List AI)
  | [] => none
  | .blk i :: k => match Nat.beq i id with
    | true => some k
    | false => unwindTo id k
  | _ :: k => unwindTo id k
def firstReg : Code → Nat
  | .region id _ _ => id
  | .seq a _ => firstReg a
  | .block _ b => firstReg b
  | .loop b => firstReg b
  | _ => 0
structure Out where
  todo : List AI
  st : St
  asm : Asm
def andAsm (p : Asm) : Option Out → Option Out
  | some o => some { o with asm := p.and o.asm }
  | none => none
/-- The machine: until the end, a return, or a loop at whose head it is to stop. -/
def arun (T : List (Nat × Ty)) (O : List (Nat × Ent)) (H : Nat → Nat → Hint) (LH : List (Nat × Nat)) : Nat → List AI → St → Option Out
  | 0, _, _ => none
  | f + 1, todo, s =>
    match todo with
    | [] => some ⟨[], s, .tt⟩
    | .blk _ :: k => arun T O H LH f k s
    | .hd n c :: k => some ⟨.hd n c :: k, s, .tt⟩
    | .fin :: k => some ⟨.fin :: k, s, .tt⟩
    | .lp 0 _ :: _ => none
    | .lp (n + 1) c :: k => arun T O H LH f (.code c :: .lp n c :: k) s
    | .code c :: k =>
      match c with
      | .skip => arun T O H LH f k s
      | .seq x y => arun T O H LH f (.code x :: .code y :: k) s
      | .block id x => arun T O H LH f (.code x :: .blk id :: k) s
      | .loop x => match look LH (firstReg x) with
        | some n => arun T O H LH f (.lp n x :: k) s
        | none => some ⟨.code (.loop x) :: k, s, .tt⟩
      | .cond c x y => match evL s.get s.gl c with
        | some (.av (.one (.v (.bool true)))) => arun T O H LH f (.code x :: k) s
        | some (.av (.one (.v (.bool false)))) => arun T O H LH f (.code y :: k) s
        | _ => none
      | .exit id => match unwindTo id k with
        | some k' => arun T O H LH f k' s
        | none => none
      | .ret => some ⟨[.fin], s, .tt⟩
      | .region id ops draw => match (match draw with
          | false => seqOps T O ops (H id) ops.toList 0 s
          | true => drawOps T O ops.toList (H id) s) with
        | some (s', p) => andAsm p (arun T O H LH f k s')
        | none => none
      | _ => none

section
variable {P : Program} {T : List (Nat × Ty)} {O : List (Nat × Ent)} {N : Nat} {M : List Nat} {w0 : Wd} {B : Exit → Act → World → Prop}
variable [GT]

/-- From what is still to do, and what is known, the end is met. -/
def Runs (P : Program) (B : Exit → Act → World → Prop) (N : Nat) (M : List Nat) (w0 : Wd) (todo : List AI) (s : St) : Prop :=
  ∀ ρ a w, RelS ρ N M w0 s a w → Kst P B todo .normal a w

omit [GT] in
theorem kst_then (y : Code) (k : List AI) : Kst P B (.code y :: k) = Exit.then (y.wp P (Kst P B k)) (Kst P B k) := by
  funext e a w
  cases e <;> rfl
omit [GT] in
theorem kst_lp (n : Nat) (c : Code) (k : List AI) : Kst P B (.lp n c :: k) = Exit.then (Code.rounds P c (Kst P B k) n) (Kst P B k) := by
  funext e a w
  cases e <;> rfl
omit [GT] in
theorem kst_hd (n : Nat) (c : Code) (k : List AI) : Kst P B (.hd n c :: k) = Exit.then (Code.rounds P c (Kst P B k) n) (Kst P B k) := by
  funext e a w
  cases e <;> rfl
omit [GT] in
theorem kst_blk (id : Nat) (k : List AI) : Kst P B (.blk id :: k) = Exit.inBlock id (Kst P B k) := by
  funext e a w
  rfl
omit [GT] in
theorem unwind_spec {id : Nat} {a : Act} {w : World} : ∀ (k k' : List AI), unwindTo id k = some k' → Kst P B k' .normal a w → Kst P B k (.exit id) a w
  | [], _, h, _ => by cases h
  | .blk i :: k, k', h, hk => by
    unfold unwindTo at h
    rw [kst_blk]
    split at h
    · rename_i hi
      have := Nat.eq_of_beq_eq_true hi
      subst this
      simp only [Option.some.injEq] at h
      subst h
      show (if i = i then _ else _)
      rw [if_pos rfl]; exact hk
    · rename_i hi
      have hne : id ≠ i := fun e => by rw [e, Nat.beq_refl] at hi; cases hi
      show (if id = i then _ else _)
      rw [if_neg hne]
      exact unwind_spec k k' h hk
  | .code _ :: k, k', h, hk => unwind_spec k k' h hk
  | .lp _ _ :: k, k', h, hk => unwind_spec k k' h hk
  | .hd _ _ :: k, k', h, hk => unwind_spec k k' h hk
  | .fin :: k, k', h, hk => unwind_spec k k' h hk
omit [GT] in
theorem kst_ret {a : Act} {w : World} : ∀ (k : List AI), B .ret a w → Kst P B k .ret a w
  | [], h => h
  | .code _ :: k, h => kst_ret k h
  | .blk id :: k, h => by rw [kst_blk]; exact kst_ret k h
  | .lp _ _ :: k, h => kst_ret k h
  | .hd _ _ :: k, h => kst_ret k h
  | .fin :: k, h => kst_ret k h

theorem arun_sound (hT : TOK P T) (hO : OOK P O) (hm : P.follows .mixedOrders = true) {H : Nat → Nat → Hint} {LH : List (Nat × Nat)} : ∀ (f : Nat) (todo : List AI) (s : St) (o : Out), arun T O H LH f todo s = some o → o.asm.holds → Runs P B N M w0 o.todo o.st → Runs P B N M w0 todo s
  | 0, _, _, _, h, _, _ => by cases h
  | f + 1, todo, s, o, h, ha, hR => by
    unfold arun at h
    split at h
    · simp only [Option.some.injEq] at h
      subst h
      exact hR
    · rename_i id k
      have ih := arun_sound hT hO hm f k s o h ha hR
      intro ρ a w hr
      rw [kst_blk]
      exact ih ρ a w hr
    · simp only [Option.some.injEq] at h
      subst h
      exact hR
    · simp only [Option.some.injEq] at h
      subst h
      exact hR
    · cases h
    · rename_i n c k
      have ih := arun_sound hT hO hm f _ s o h ha hR
      intro ρ a w hr
      have := ih ρ a w hr
      show c.wp P (Exit.then (Code.rounds P c (Kst P B k) n) (Kst P B k)) a w
      rw [← kst_lp]
      exact this
    · rename_i c k
      split at h
      · have ih := arun_sound hT hO hm f _ s o h ha hR
        exact fun ρ a w hr => wp_skip (ih ρ a w hr)
      · rename_i x y
        have ih := arun_sound hT hO hm f _ s o h ha hR
        intro ρ a w hr
        refine wp_seq ?_
        rw [← kst_then]
        exact ih ρ a w hr
      · rename_i id x
        have ih := arun_sound hT hO hm f _ s o h ha hR
        intro ρ a w hr
        refine wp_block ?_
        rw [← kst_blk]
        exact ih ρ a w hr
      · rename_i x
        split at h
        · rename_i n hn
          have ih := arun_sound hT hO hm f _ s o h ha hR
          exact fun ρ a w hr => wp_loop_rounds n (ih ρ a w hr)
        · simp only [Option.some.injEq] at h
          subst h
          exact hR
      · rename_i c x y
        split at h
        · rename_i hc
          have ih := arun_sound hT hO hm f _ s o h ha hR
          exact fun ρ a w hr => wp_cond_true (hr.rel.ev c _ hc).1 (ih ρ a w hr)
        · rename_i hc
          have ih := arun_sound hT hO hm f _ s o h ha hR
          exact fun ρ a w hr => wp_cond_false (hr.rel.ev c _ hc).1 (ih ρ a w hr)
        · cases h
      · rename_i id
        split at h
        · rename_i k' hk
          have ih := arun_sound hT hO hm f _ s o h ha hR
          exact fun ρ a w hr => wp_exit (unwind_spec k k' hk (ih ρ a w hr))
        · cases h
      · simp only [Option.some.injEq] at h
        subst h
        exact fun ρ a w hr => wp_ret (kst_ret k (hR ρ a w hr))
      · rename_i id ops draw
        split at h
        · rename_i s' p hs
          cases hrest : arun T O H LH f k s' with
          | none => rw [hrest] at h; cases h
          | some o' =>
            rw [hrest] at h
            simp only [andAsm, Option.some.injEq] at h
            subst h
            have ih := arun_sound hT hO hm f k s' o' hrest ha.2 hR
            intro ρ a w hr
            cases draw with
            | false =>
              simp only at hs
              exact wp_region_list (seq_sound hT hO ops.toList 0 s s' p ρ a w hs ha.1 hr fun ρ' a' w' h' => ih ρ' a' w' h')
            | true =>
              simp only at hs
              have := draw_sound (id := id) (Q := Kst P B k) hT hO hm hs ha.1 hr fun ρ' a' w' h' => NoPanic.normal (ih ρ' a' w' h')
              have e : ops.toList.toArray = ops := by simp
              rw [e] at this
              exact this
        · cases h
      · cases h
/-! ### What a function hands back -/
omit [GT] in
def resOne (T : List (Nat × Ty)) (s : St) : ResultVar → Option AV
  | .tmp t => match s.get t with
    | some (.av a) => some a
    | _ => none
  | .cell t ty => match s.get t, look T ty with
    | some (.av (.one (.p id off))), some q => match look s.hp id with
      | some b => match readAt q false b.c off with
        | some (.av a, _) => some a
        | _ => none
      | none => none
    | _, _ => none
omit [GT] in
def resAll (T : List (Nat × Ty)) (s : St) : List ResultVar → Option (List AV)
  | [] => some []
  | r :: l => match resOne T s r, resAll T s l with
    | some a, some q => some (a :: q)
    | _, _ => none
omit [GT] in
def resVal (T : List (Nat × Ty)) (s : St) (l : List ResultVar) : Option SV :=
  match resAll T s l with
  | some [a] => some (.av a)
  | some l => some (.tup l)
  | none => none

theorem readAt_asm {ty : Ty} {c : List Seg} {off : Nat} {v : SV} {p : Asm} (h : readAt ty false c off = some (v, p)) : p.holds := by
  unfold readAt at h
  cases hagg : ty.u.agg with
  | true =>
    rw [hagg] at h
    simp only at h
    split at h
    · simp only [Option.some.injEq, Prod.mk.injEq] at h; rw [← h.2]; trivial
    · cases h
  | false =>
    rw [hagg] at h
    simp only at h
    split at h
    · simp only [Option.some.injEq, Prod.mk.injEq] at h; rw [← h.2]; trivial
    · cases h
omit [GT] in
def resF (tmps : Array Value) : ResultVar → Sem Value
  | .tmp t => pure (tmps.getD t undef)
  | .cell a t => do loadVar t (← asAddr (tmps.getD a undef))
theorem resOne_spec (hT : TOK P T) {s : St} {ρ : Nat → Loc} {a : Act} {w : World} (h : RelS ρ N M w0 s a w) {r : ResultVar} {v : AV} (hr : resOne T s r = some v) :
    (resF a.tmps r).run P w = .ok (v.conc ρ) w := by
  cases r with
  | tmp t =>
    simp only [resOne] at hr
    split at hr
    · rename_i x hx
      simp only [Option.some.injEq] at hr
      subst hr
      have := (h.rel.slots t _ hx).1
      simp only [Act.eval, conc_av] at this
      simp only [resF, this]; rfl
    · cases hr
  | cell t ty =>
    simp only [resOne] at hr
    split at hr
    · rename_i id off q hx hq
      split at hr
      · rename_i b hb
        split at hr
        · rename_i x p hread
          simp only [Option.some.injEq] at hr
          subst hr
          have hv := (h.rel.slots t _ hx).1
          have hty := hT ty q hq
          have hp := readAt_asm hread
          obtain ⟨_, h2, h3⟩ := readAt_spec (P := P) (ρ := ρ) (w := w) hty hread hp
          simp only [Act.eval] at hv
          simp only [resF, hv]
          cases hagg : q.u.agg with
          | true =>
            obtain ⟨l, hl, he, hpos⟩ := h3 hagg
            obtain ⟨_, hlen⟩ := getSegs_spec ρ hl
            obtain ⟨y, hy, hc⟩ := cells_at (l := segsVals ρ l) h.rel.hr hb (getSegs_at ρ hl) (by omega)
            have e : x.conc ρ = .agg (segsVals ρ l).toArray := by
              have : SV.conc ρ (.av x) = SV.conc ρ (.av (mkAgg l)) := by rw [he]
              rw [conc_av, conc_av, mkAgg_conc] at this
              exact this
            rw [conc_p, hy, e]
            have hlc := run_loadCells_list (P := P) w (y.add off) (segsVals ρ l) hc
            rw [hlen] at hlc
            simp only [Option.map_some, asAddr, loadVar, Sem.run_bind, Sem.run_pure, Result.andThen_ok, hty.agg, hagg, if_true, hty.run_size, hlc]
          | false =>
            have h4 := h2 hagg
            obtain ⟨y, hy, hc⟩ := cells_at (l := [x.conc ρ]) (off := off) h.rel.hr hb (fun j u hj => by
              cases j with
              | zero => simp only [List.getElem?_cons_zero, Option.some.injEq] at hj; subst hj; exact h4
              | succ j => simp at hj) (by simp)
            rw [conc_p, hy]
            have hc0 := hc 0 _ rfl
            have : (y.add off).add 0 = y.add off := by simp [Addr.add]
            rw [this] at hc0
            simp [asAddr, loadVar, hty.agg, hagg, hc0]
        · cases hr
      · cases hr
    · cases hr
theorem resAll_spec (hT : TOK P T) {s : St} {ρ : Nat → Loc} {a : Act} {w : World} (h : RelS ρ N M w0 s a w) : ∀ (l : List ResultVar) (vs : List AV), resAll T s l = some vs →
    (l.mapM (resF a.tmps)).run P w = Result.ok (vs.map (AV.conc ρ)) w
  | [], vs, hr => by
    simp only [resAll, Option.some.injEq] at hr
    subst hr
    rfl
  | r :: l, vs, hr => by
    unfold resAll at hr
    split at hr
    · rename_i v q hv hq
      simp only [Option.some.injEq] at hr
      subst hr
      rw [List.mapM_cons, Sem.run_bind, resOne_spec hT h hv]
      simp only [Result.andThen_ok]
      rw [Sem.run_bind, resAll_spec hT h l q hq]
      rfl
    · cases hr
theorem resVal_spec (hT : TOK P T) {s : St} {ρ : Nat → Loc} {a : Act} {w : World} (h : RelS ρ N M w0 s a w) {fn : Func} {v : SV} (hr : resVal T s fn.results.toList = some v) : (results fn a.tmps).run P w = .ok (v.conc ρ) w := by
  unfold resVal at hr
  have key : ∀ vs, resAll T s fn.results.toList = some vs → (results fn a.tmps).run P w = .ok (if h : (vs.map (AV.conc ρ)).toArray.size = 1 then (vs.map (AV.conc ρ)).toArray[0] else .tuple (vs.map (AV.conc ρ)).toArray) w := by
    intro vs hvs
    have h1 := resAll_spec hT h _ _ hvs
    have e : results fn a.tmps = (do
      let vs ← fn.results.mapM (resF a.tmps)
      pure (if h : vs.size = 1 then vs[0] else .tuple vs)) := rfl
    rw [e, Sem.run_bind, Array.mapM_eq_mapM_toList]
    have h2 : (List.toArray <$> fn.results.toList.mapM (resF a.tmps)).run P w = .ok (vs.map (AV.conc ρ)).toArray w := by
      rw [← bind_pure_comp, Sem.run_bind, h1]
      rfl
    rw [h2]
    rfl
  split at hr
  · rename_i x hx
    simp only [Option.some.injEq] at hr
    subst hr
    rw [key _ hx]
    rfl
  · rename_i l hl hx
    simp only [Option.some.injEq] at hr
    subst hr
    rw [key _ hx, dif_neg]
    · rfl
    · intro h1
      simp at h1
      match l, h1, hl with
      | [x], _, hl => exact hl x rfl
  · cases hr
end
end Go.Proofs.YtpefomdegbmecaaDoor.Am
/- The abstract machine: contracts out of runs. Conditions: none. -/
namespace Go.Proofs.YtpefomdegbmecaaDoor.Am
set_option linter.unusedVariables false
set_option linter.unusedSimpArgs false
open Go Go.RowKit

theorem info_some {P : Program} {t : TypeId} {n : Nat} (h : (P.info? t).map (fun i => i.size) = some n) : ∃ i, P.info? t = some i ∧ i.size = n := by
  rw [Option.map_eq_some_iff] at h
  exact h
theorem info_of {P : Program} {t : TypeId} {size bytes : Nat} {z : Value} (h : (P.info? t).map (fun i => (i.size, i.bytes, i.zero)) = some (size, bytes, some z)) : ∃ i, P.info? t = some i ∧ i.size = size ∧ i.bytes = bytes ∧ i.zero = some z := by
  rw [Option.map_eq_some_iff] at h
  obtain ⟨i, hi, he⟩ := h
  simp only [Prod.mk.injEq] at he
  exact ⟨i, hi, he.1, he.2.1, he.2.2⟩
def stView (P : Program) (t : TypeId) : Option (List (Nat × TypeId) × Option (List (Nat × Nat))) :=
  match P.underlying t with
  | some (.struct fs) => some (fs.toList.map (fun f => (f.offset, f.type)), fs.toList.mapM (fun f => (P.info? f.type).map fun i => (f.offset, i.size)))
  | _ => none
theorem st_of {P : Program} {t : TypeId} {l : List (Nat × TypeId)} {pls : List (Nat × Nat)} (h : stView P t = some (l, some pls)) : UOK P t (.st l) := by
  unfold stView at h
  split at h
  · rename_i fs hu
    simp only [Option.some.injEq, Prod.mk.injEq] at h
    exact ⟨fs, hu, h.1.symm, pls, h.2⟩
  · cases h
def TyAll (P : Program) : List (Nat × Ty) → Prop
  | [] => True
  | x :: l => TyOK P x.1 x.2 ∧ TyAll P l
theorem tok_of {P : Program} : ∀ {l : List (Nat × Ty)}, TyAll P l → TOK P l
  | [], _ => fun t ty h => by cases h
  | (k, x) :: l, h => fun t ty ht => by
    rw [look_cons] at ht
    by_cases hk : k = t
    · rw [if_pos hk] at ht
      injection ht with ht
      subst hk ht
      exact h.1
    · rw [if_neg hk] at ht
      exact tok_of h.2 t ty ht
def EntAll [GT] (P : Program) : List (Nat × Ent) → Prop
  | [] => True
  | x :: l => EntOK P x.1 x.2 ∧ EntAll P l
theorem ook_of [GT] {P : Program} : ∀ {l : List (Nat × Ent)}, EntAll P l → OOK P l
  | [], _ => fun t ty h => by cases h
  | (k, x) :: l, h => fun t ty ht => by
    rw [look_cons] at ht
    by_cases hk : k = t
    · rw [if_pos hk] at ht
      injection ht with ht
      subst hk ht
      exact h.1
    · rw [if_neg hk] at ht
      exact ook_of h.2 t ty ht

section
variable {P : Program} {T : List (Nat × Ty)} {O : List (Nat × Ent)}
variable [GT]

omit [GT] in
/-- The state at a function's beginning. -/
def start (avs : List SV) (n : Nat) (hp : List (Nat × Blk)) (nx : Nat) (gl : List (Nat × Nat)) : St :=
  { tm := avs.map some ++ List.replicate (n - avs.length) none, hp, nx, gl }
omit [GT] in
theorem nth_get? {α : Type} : ∀ (l : List α) (n : Nat), nth l n = l[n]?
  | [], _ => by simp [nth]
  | _ :: _, 0 => rfl
  | _ :: l, n + 1 => by rw [nth, nth_get? l n]; rfl
theorem rel_start {ρ : Nat → Loc} {M : List Nat} {w : World} {avs : List SV} {n nx : Nat} {hp : List (Nat × Blk)} {gl : List (Nat × Nat)} (hin : ∀ s ∈ avs, s.In (· < nx)) (hlen : avs.length ≤ n) (hG : HR ρ (· < nx) w.heap.size M (look hp) w) {lk : Nat → Option Addr} (hgl : ∀ x id, LkOK gl lk x id → (ρ id).a = some x ∧ id < nx) :
    RelS ρ w.heap.size M ⟨w, lk⟩ (start avs n hp nx gl) { tmps := (avs.map (SV.conc ρ)).toArray ++ Array.replicate (n - (avs.map (SV.conc ρ)).toArray.size) undef, defers := [] } w := by
  refine ⟨⟨fun t sv ht => ?_, hgl, hG, Kept.refl _ _ _, rfl⟩, by simp [start]⟩
  unfold St.get start at ht
  simp only [nth_get?] at ht
  split at ht
  · rename_i v hv
    simp only [Option.some.injEq] at ht
    subst ht
    rw [List.getElem?_append] at hv
    split at hv
    · rename_i hl
      rw [List.getElem?_map, Option.map_eq_some_iff] at hv
      obtain ⟨x, hx, he⟩ := hv
      injection he with he
      subst he
      refine ⟨?_, hin x (List.mem_of_getElem? hx)⟩
      have hl' : t < avs.length := by simpa using hl
      simp only [Act.eval, Array.getD_eq_getD_getElem?]
      rw [Array.getElem?_append_left (by simpa using hl')]
      simp [hx]
    · rw [List.getElem?_replicate] at hv
      split at hv
      · cases hv
      · cases hv
  · cases ht
/-- A call, out of a run from its function's beginning. -/
theorem calls_am {f : FuncId} {fn : Func} {c : Code} (hf : P.funcs[f]? = some fn) (hb : fn.body = some c) {ρ : Nat → Loc} {M : List Nat} {w : World} {avs : List SV} {nx : Nat} {hp : List (Nat × Blk)} {gl : List (Nat × Nat)} {args : Array Value} (hargs : args = (avs.map (SV.conc ρ)).toArray) (hin : ∀ s ∈ avs, s.In (· < nx)) (hlen : avs.length ≤ fn.ntmps) (hG : HR ρ (· < nx) w.heap.size M (look hp) w) {lk : Nat → Option Addr} (hgl : ∀ x id, LkOK gl lk x id → (ρ id).a = some x ∧ id < nx) {R : Ending → World → Prop}
    (h : Runs P (bodyPost P fn R) w.heap.size M ⟨w, lk⟩ [.code c] (start avs fn.ntmps hp nx gl)) : Calls P f args w R := by
  refine calls_of_wp hf hb ?_
  subst hargs
  exact h ρ _ w (rel_start hin hlen hG hgl)
/-- The end of a run. -/
theorem runs_end (hT : TOK P T) {fn : Func} {R : Ending → World → Prop} {N : Nat} {M : List Nat} {w0 : Wd} {todo : List AI} {s : St} {v : SV} (ht : todo = [] ∨ todo = [.fin]) (hv : resVal T s fn.results.toList = some v) (hR : ∀ ρ a w, RelS ρ N M w0 s a w → R (.returned (v.conc ρ)) w) : Runs P (bodyPost P fn R) N M w0 todo s := by
  intro ρ a w h
  have h1 := resVal_spec (P := P) hT h hv
  rcases ht with rfl | rfl
  · exact ⟨h.rel.defers, _, h1, hR ρ a w h⟩
  · exact ⟨h.rel.defers, _, h1, hR ρ a w h⟩
omit [GT] in
/-- A run whose every step the machine makes. -/
def whole (T : List (Nat × Ty)) (O : List (Nat × Ent)) (H : Nat → Nat → Hint) (LH : List (Nat × Nat)) (fuel : Nat) (rs : List ResultVar) (todo : List AI) (s : St) : Option (SV × St × Asm) :=
  match arun T O H LH fuel todo s with
  | some o => match o.todo with
    | [] => match resVal T o.st rs with
      | some v => some (v, o.st, o.asm)
      | none => none
    | [.fin] => match resVal T o.st rs with
      | some v => some (v, o.st, o.asm)
      | none => none
    | _ => none
  | none => none
theorem whole_runs (hT : TOK P T) (hO : OOK P O) (hm : P.follows .mixedOrders = true) {H : Nat → Nat → Hint} {LH : List (Nat × Nat)} {fuel : Nat} {fn : Func} {R : Ending → World → Prop} {N : Nat} {M : List Nat} {w0 : Wd} {todo : List AI} {s : St} {v : SV} {st : St} {p : Asm} (h : whole T O H LH fuel fn.results.toList todo s = some (v, st, p)) (hp' : p.holds)
    (hR : ∀ ρ w, HR ρ (· < st.nx) N M (look st.hp) w → Kept N M w0.w w → (∀ id x, w0.lk id = some x → (ρ id).a = some x) → R (.returned (v.conc ρ)) w) : Runs P (bodyPost P fn R) N M w0 todo s := by
  unfold whole at h
  split at h
  · rename_i o ho
    split at h
    · rename_i ht
      split at h
      · rename_i v' hv
        simp only [Option.some.injEq, Prod.mk.injEq] at h
        obtain ⟨rfl, rfl, rfl⟩ := h
        exact arun_sound hT hO hm _ _ _ _ ho hp' (runs_end hT (.inl ht) hv fun ρ a w h => hR ρ w h.rel.hr h.rel.kept (fun id x hx => (h.rel.globals x id (.inr hx)).1))
      · cases h
    · rename_i ht
      split at h
      · rename_i v' hv
        simp only [Option.some.injEq, Prod.mk.injEq] at h
        obtain ⟨rfl, rfl, rfl⟩ := h
        exact arun_sound hT hO hm _ _ _ _ ho hp' (runs_end hT (.inr ht) hv fun ρ a w h => hR ρ w h.rel.hr h.rel.kept (fun id x hx => (h.rel.globals x id (.inr hx)).1))
      · cases h
    · cases h
  · cases h

omit [GT] in
/-- What a whole run hands back, and what it leans on. -/
def wholeV (T : List (Nat × Ty)) (O : List (Nat × Ent)) (H : Nat → Nat → Hint) (LH : List (Nat × Nat)) (fuel : Nat) (fn : Func) (avs : List SV) : Option (SV × List Prop) :=
  match fn.body with
  | some c => match whole T O H LH fuel fn.results.toList [.code c] (start avs fn.ntmps [] 0 []) with
    | some (v, _, p) => some (v, p.list [])
    | none => none
  | none => none
/-- A function of values to a value. -/
theorem am_val (hT : TOK P T) (hO : OOK P O) (hm : P.follows .mixedOrders = true) {H : Nat → Nat → Hint} {LH : List (Nat × Nat)} {fuel : Nat} {f : FuncId} {fn : Func} (hf : P.funcs[f]? = some fn) {avs : List SV} (hlen : Nat.ble avs.length fn.ntmps = true) {v : SV} {ps : List Prop} (h : wholeV T O H LH fuel fn avs = some (v, ps)) (hps : AllP ps) (hin : avs.all (svB fun _ => false) = true) (hv : svB (fun _ => false) v = true) (ρ : Nat → Loc) (w : World) (hgw : GWok w.heap.size [] w) :
    Calls P f (avs.map (SV.conc ρ)).toArray w fun e w' => e = .returned (v.conc ρ) ∧ Below w.heap.size w w' := by
  unfold wholeV at h
  split at h
  · rename_i c hb
    split at h
    · rename_i v' hp p hw
      simp only [Option.some.injEq, Prod.mk.injEq] at h
      obtain ⟨rfl, rfl⟩ := h
      have hav : ∀ s ∈ avs, s.In (fun _ => False) := fun s hs => svB_in (f := fun _ => false) (fun _ h => by cases h) (List.all_eq_true.1 hin s hs)
      refine calls_am hf hb (ρ := ρ) (M := []) (nx := 0) (hp := []) (gl := []) rfl (fun s hs => (hav s hs).mono fun _ h => h.elim) (Nat.le_of_ble_eq_true hlen) ⟨Nat.le_refl _, fun id b h => (by cases h), fun id b x h => (by cases h), fun id b x h => (by cases h), fun i j bi bj x y h => (by cases h), hgw⟩ (lk := fun _ => none) (fun x id h => by rcases h with ⟨_, _, h⟩ | h <;> cases h) ?_
      refine whole_runs hT hO hm hw (Asm.of_list _ _ hps).1 fun ρ' w' _ hk _ => ⟨?_, hk.below⟩
      rw [SV.conc_congr (D := fun _ => False) (ρ := ρ) (ρ' := ρ') (fun _ h => h.elim) (svB_in (f := fun _ => false) (fun _ h => by cases h) hv)]
    · cases h
  · cases h
/-- A contract of a function that gives a value and leaves old memory alone, as the machine takes it. -/
theorem ent_val {f : FuncId} {args : Array Value} {w : World} {v : Value} (h : Calls P f args w fun e w' => e = .returned v ∧ Below w.heap.size w w') {ρ : Nat → Loc} {D : Nat → Prop} {N : Nat} {M : List Nat} {G : Nat → Option Blk} {base : Nat} {r : Res} (hG : HR ρ D N M G w) (hv : v = r.val.conc ρ) (hn : r.new = []) (hu : r.upd = []) :
    Calls P f args w fun e w' => ∃ v, e = .returned v ∧ ∃ ρ', Fits ρ D N M G base r w ρ' v w' := by
  refine h.mono fun e w' ⟨he, hb⟩ => ⟨v, he, ρ, fun _ _ => rfl, hv, ?_, Kept.of_below (hb.mono hG.size), fun _ => ⟨hb, fun k b x hk => by rw [hn] at hk; cases hk⟩⟩
  have : appl G base r = G := by
    funext id
    unfold appl
    rw [hu, hn]
    simp only [look, List.length_nil]
    rw [if_neg (by omega)]
  rw [this]
  exact hG.step (U := fun _ => False) (fun _ _ => rfl) (fun id h => .inl h) (Kept.of_below (hb.mono hG.size)) (fun _ _ h _ => h) (fun id b x hb' _ hx => hb.block _ (hG.lt id b x hb' hx)) (fun _ _ _ h => h.elim) (fun _ _ _ _ h => h.elim) (fun _ _ _ _ h => h.elim) (fun _ _ _ _ _ _ _ _ _ h => (h.elim id id).elim)
end
end Go.Proofs.YtpefomdegbmecaaDoor.Am
/- The abstract machine: contracts that hand back a new row, or a row to be read. Conditions: none. -/
namespace Go.Proofs.YtpefomdegbmecaaDoor.Am
set_option linter.unusedVariables false
set_option linter.unusedSimpArgs false
open Go Go.RowKit

section
variable {P : Program} {ρ : Nat → Loc} {D : Nat → Prop} {N : Nat} {M : List Nat} {G : Nat → Option Blk} {base : Nat}
variable [GT]

theorem ent_row {f : FuncId} {args : Array Value} {w : World} {ty : TypeId} {n : Nat} {xs : List Value} (h : Calls P f args w fun e w' => (∃ v, e = .returned v ∧ w'.ownsRow w.heap.size ty 1 v n xs) ∧ Below w.heap.size w w') (hG : HR ρ D N M G w) {c : List Seg} {r : Res} (hf : ¬ D base) (hn : r.new = [⟨1, ty, c⟩]) (hu : r.upd = []) (hin : segsIn D c) (hc : segsVals ρ c = xs) (hv : r.val = .av (.one (.r base 0 n 0))) :
    Calls P f args w fun e w' => ∃ v, e = .returned v ∧ ∃ ρ', Fits ρ D N M G base r w ρ' v w' := by
  refine h.mono fun e w' ⟨⟨v, he, ho⟩, hb⟩ => ?_
  obtain ⟨ad, cap, hvv⟩ : ∃ ad cap, v = .slice ad n cap := by
    rcases ho.2 with ⟨rfl, h⟩ | ⟨g, cap, cur, rfl, _⟩
    · exact ⟨none, 0, by rw [h]⟩
    · exact ⟨_, cap, rfl⟩
  have hl : xs.length = n := by have := ho.1; omega
  have hag : ∀ i, D i → up ρ base ⟨ad, cap⟩ i = ρ i := up_agree hf
  refine ⟨v, he, _, fits_fresh (l := ⟨ad, cap⟩) hG hb hf hn hu hin ?_ ?_ ?_⟩
  · show w'.ownsRow 0 ty 1 _ _ _
    simp only [up_self]
    rw [segsVals_congr hag hin, hc, hl, ← hvv]
    refine ⟨ho.1, ?_⟩
    rcases ho.2 with h | ⟨g, cap, cur, h1, h2, h3⟩
    · exact .inl h
    · exact .inr ⟨g, cap, cur, h1, Nat.zero_le _, h3⟩
  · intro x hx
    have := ho.lt x.block (by rw [hvv]; simp only at hx; rw [hx]; rfl)
    exact this
  · rw [hv, hvv]
    simp only [SV.conc, AV.conc, Seg.conc, up_self, radr, Nat.sub_zero]
    congr 1
    cases ad <;> simp [Addr.add]
end

/-! numbers -/
def wd (n j : Nat) : Nat := n / 18446744073709551616 ^ j % 18446744073709551616
theorem wd_lt (n j : Nat) : wd n j < 18446744073709551616 := Nat.mod_lt _ (by decide)
theorem word_wd (n j : Nat) : word n j = (wd n j : Int) := rfl

end Go.Proofs.YtpefomdegbmecaaDoor.Am
/- The abstract machine: a call that the machine runs through itself. Conditions: none. -/
namespace Go.Proofs.YtpefomdegbmecaaDoor.Am
set_option linter.unusedVariables false
set_option linter.unusedSimpArgs false
open Go Go.RowKit

def Seg.ren (f : Nat → Nat) : Seg → Seg
  | .v x => .v x
  | .num n => .num n
  | .arr k l => .arr k l
  | .ap k F n => .ap k F n
  | .vs l => .vs l
  | .p id off => .p (f id) off
  | .s id off len cap => .s (f id) off len cap
  | .r id off len ad => .r (f id) off len ad
  | .m id => .m (f id)
def renL (f : Nat → Nat) : List Seg → List Seg
  | [] => []
  | x :: l => x.ren f :: renL f l
def AV.ren (f : Nat → Nat) : AV → AV
  | .one s => .one (s.ren f)
  | .agg l => .agg (renL f l)
def renT (f : Nat → Nat) : List AV → List AV
  | [] => []
  | x :: l => x.ren f :: renT f l
def SV.ren (f : Nat → Nat) : SV → SV
  | .av a => .av (a.ren f)
  | .tup l => .tup (renT f l)
def Seg.ids : Seg → List Nat
  | .p id _ => [id]
  | .s id _ _ _ => [id]
  | .r id _ _ _ => [id]
  | .m id => [id]
  | _ => []
def idsL : List Seg → List Nat
  | [] => []
  | x :: l => x.ids ++ idsL l
def idsT : List AV → List Nat
  | [] => []
  | x :: l => idsL x.segs ++ idsT l
def SV.ids : SV → List Nat
  | .av a => idsL a.segs
  | .tup l => idsT l
def memB (n : Nat) : List Nat → Bool
  | [] => false
  | x :: l => match Nat.beq x n with
    | true => true
    | false => memB n l
def idx (n : Nat) : List Nat → Nat
  | [] => 0
  | x :: l => match Nat.beq x n with
    | true => 0
    | false => idx n l + 1

theorem memB_mem {n : Nat} : ∀ {l : List Nat}, memB n l = true ↔ n ∈ l
  | [] => by simp [memB]
  | x :: l => by
    unfold memB
    split
    · rename_i h
      have := Nat.eq_of_beq_eq_true h
      subst this
      simp
    · rename_i h
      have hne : n ≠ x := fun e => by rw [e, Nat.beq_refl] at h; cases h
      rw [memB_mem]
      simp [hne]
theorem idx_get {n : Nat} : ∀ {l : List Nat}, n ∈ l → l[idx n l]? = some n
  | [], h => by cases h
  | x :: l, h => by
    unfold idx
    split
    · rename_i hx
      have := Nat.eq_of_beq_eq_true hx
      subst this
      rfl
    · rename_i hx
      have hne : n ≠ x := fun e => by rw [e, Nat.beq_refl] at hx; cases hx
      rw [List.getElem?_cons_succ]
      exact idx_get ((List.mem_cons.1 h).resolve_left hne)
theorem idx_lt {n : Nat} {l : List Nat} (h : n ∈ l) : idx n l < l.length := by
  have := idx_get h
  rcases Nat.lt_or_ge (idx n l) l.length with h | h
  · exact h
  · rw [List.getElem?_eq_none h] at this; cases this

/-- Renamed values are what they were, if their places are. -/
theorem Seg.ren_conc {f : Nat → Nat} {ρ ρ' : Nat → Loc} {s : Seg} (h : ∀ id, id ∈ s.ids → (ρ' (f id)).a = (ρ id).a) (hr : ∀ id o l a, s = .r id o l a → ρ' (f id) = ρ id) : (s.ren f).conc ρ' = s.conc ρ := by
  cases s with
  | v | num | arr | ap | vs => rfl
  | p id off => simp [Seg.ren, Seg.conc, h id (by simp [Seg.ids])]
  | s id off len cap => simp [Seg.ren, Seg.conc, h id (by simp [Seg.ids])]
  | r id off len ad => simp [Seg.ren, Seg.conc, hr id off len ad rfl]
  | m id => simp [Seg.ren, Seg.conc, h id (by simp [Seg.ids])]
theorem Seg.ren_vals {f : Nat → Nat} {ρ ρ' : Nat → Loc} {s : Seg} (h : ∀ id, id ∈ s.ids → (ρ' (f id)).a = (ρ id).a) (hr : ∀ id o l a, s = .r id o l a → ρ' (f id) = ρ id) : (s.ren f).vals ρ' = s.vals ρ := by
  have := Seg.ren_conc h hr
  cases s <;> first | rfl | simpa [Seg.ren, Seg.vals] using this
/-- Are the places of a segment the same? -/
def Same (f : Nat → Nat) (ρ ρ' : Nat → Loc) (s : Seg) : Prop := (∀ id, id ∈ s.ids → (ρ' (f id)).a = (ρ id).a) ∧ ∀ id o l a, s = .r id o l a → ρ' (f id) = ρ id
theorem renL_vals {f : Nat → Nat} {ρ ρ' : Nat → Loc} : ∀ {l : List Seg}, (∀ s ∈ l, Same f ρ ρ' s) → segsVals ρ' (renL f l) = segsVals ρ l
  | [], _ => rfl
  | x :: l, h => by
    rw [renL, segsVals_cons, segsVals_cons, renL_vals fun s hs => h s (by simp [hs]), Seg.ren_vals (h x (by simp)).1 (h x (by simp)).2]
theorem AV.ren_conc {f : Nat → Nat} {ρ ρ' : Nat → Loc} {a : AV} (h : ∀ s ∈ a.segs, Same f ρ ρ' s) : (a.ren f).conc ρ' = a.conc ρ := by
  cases a with
  | one s => exact Seg.ren_conc (h s (by simp [AV.segs])).1 (h s (by simp [AV.segs])).2
  | agg l => simp only [AV.ren, AV.conc, renL_vals (l := l) h]
def SV.All (p : Seg → Prop) : SV → Prop
  | .av a => ∀ s ∈ a.segs, p s
  | .tup l => ∀ a ∈ l, ∀ s ∈ a.segs, p s
theorem renT_map (f : Nat → Nat) : ∀ l, renT f l = l.map (AV.ren f)
  | [] => rfl
  | x :: l => by rw [renT, renT_map]; rfl
theorem renL_map (f : Nat → Nat) : ∀ l, renL f l = l.map (Seg.ren f)
  | [] => rfl
  | x :: l => by rw [renL, renL_map]; rfl
theorem SV.ren_conc {f : Nat → Nat} {ρ ρ' : Nat → Loc} {s : SV} (h : s.All (Same f ρ ρ')) : (s.ren f).conc ρ' = s.conc ρ := by
  cases s with
  | av a => exact AV.ren_conc h
  | tup l =>
    simp only [SV.ren, SV.conc, renT_map, List.map_map]
    congr 2
    exact List.map_congr_left fun a ha => AV.ren_conc (h a ha)
theorem Seg.ren_in {f : Nat → Nat} {D : Nat → Prop} {s : Seg} (h : ∀ id, id ∈ s.ids → D (f id)) : (s.ren f).In D := by
  cases s <;> first | trivial | exact h _ (by simp [Seg.ids])
theorem segs_ren (f : Nat → Nat) (a : AV) : (a.ren f).segs = renL f a.segs := by cases a <;> rfl
theorem renL_in {f : Nat → Nat} {D : Nat → Prop} {l : List Seg} (h : ∀ s ∈ l, ∀ id, id ∈ s.ids → D (f id)) : segsIn D (renL f l) := by
  intro s hs
  rw [renL_map, List.mem_map] at hs
  obtain ⟨x, hx, rfl⟩ := hs
  exact Seg.ren_in (h x hx)
theorem SV.ren_in {f : Nat → Nat} {D : Nat → Prop} {s : SV} (h : s.All fun x => ∀ id, id ∈ x.ids → D (f id)) : (s.ren f).In D := by
  cases s with
  | av a =>
    show segsIn D (a.ren f).segs
    rw [segs_ren]
    exact renL_in h
  | tup l =>
    intro a ha
    rw [renT_map, List.mem_map] at ha
    obtain ⟨x, hx, rfl⟩ := ha
    show segsIn D (x.ren f).segs
    rw [segs_ren]
    exact renL_in (h x hx)

section
variable {P : Program} {ρ ρ1 : Nat → Loc} {D : Nat → Prop} {N : Nat} {M Mc : List Nat} {G G1 : Nat → Option Blk} {base : Nat} {w w1 : World} {σ es mu : List Nat} {nx : Nat}
variable [GT]

/-- What was run through is a call's end, to the one who called. -/
theorem inl_fits (hG : HR ρ D N M G w) (hσD : ∀ i id : Nat, σ[i]? = some id → D id) (hσn : ∀ i j id : Nat, σ[i]? = some id → σ[j]? = some id → i = j) (hfr : ∀ id, base ≤ id → id < base + es.length → ¬ D id)
    (h1 : HR ρ1 (· < nx) w.heap.size Mc G1 w1) (hk : Kept w.heap.size Mc w w1) (hlk : ∀ (i id : Nat) (x : Addr), σ[i]? = some id → (ρ id).a = some x → (ρ1 i).a = some x)
    (hMc : ∀ g ∈ Mc, ∃ (i id : Nat) (x : Addr), i ∈ mu ∧ σ[i]? = some id ∧ (ρ id).a = some x ∧ x.block = g)
    (hmu : ∀ i ∈ mu, ∃ (id : Nat) (b0 b : Blk), σ[i]? = some id ∧ G id = some b0 ∧ b0.k = 0 ∧ G1 i = some b ∧ b.k = 0)
    (hes : ∀ e ∈ es, σ.length ≤ e ∧ ∃ b, G1 e = some b ∧ b.k < 2) (hesn : ∀ i j e : Nat, es[i]? = some e → es[j]? = some e → i = j)
    {τ : Nat → Nat} (hτ1 : ∀ i id : Nat, σ[i]? = some id → τ i = id) (hτ2 : ∀ j e : Nat, es[j]? = some e → τ e = base + j)
    {r : Res} {v : SV} (hval : r.val = v.ren τ) (hnl : r.new.length = es.length) (hnew : ∀ (j e : Nat) (b : Blk), es[j]? = some e → G1 e = some b → r.new[j]? = some ⟨b.k, b.ty, renL τ b.c⟩)
    (hupd : ∀ (i id : Nat) (b : Blk), i ∈ mu → σ[i]? = some id → G1 i = some b → look r.upd id = some (some ⟨0, b.ty, renL τ b.c⟩)) (hupn : ∀ id : Nat, (∀ i : Nat, i ∈ mu → σ[i]? ≠ some id) → look r.upd id = none) (hup0 : r.upd = [] → mu = [])
    (X : Seg → Prop) (hX : ∀ s, X s → (∀ id, id ∈ s.ids → id ∈ es ∨ ∃ (i : Nat) (x : Addr), σ[id]? = some i ∧ (ρ i).a = some x) ∧ ∀ id o l a, s = .r id o l a → id ∈ es)
    (hXv : v.All X) (hXe : ∀ e ∈ es, ∀ b, G1 e = some b → ∀ s ∈ b.c, X s) (hXm : ∀ i ∈ mu, ∀ b, G1 i = some b → ∀ s ∈ b.c, X s) :
    ∃ ρ', Fits ρ D N M G base r w ρ' (v.conc ρ1) w1 := by
  obtain ⟨ρ', hρ'⟩ : ∃ ρ' : Nat → Loc, (fun id : Nat => if base ≤ id ∧ id < base + es.length then ρ1 (es.getD (id - base) 0) else ρ id) = ρ' := ⟨_, rfl⟩
  refine ⟨ρ', ?_⟩
  have hag : ∀ id, D id → ρ' id = ρ id := fun id hid => by
    rw [← hρ']
    exact if_neg fun ⟨h1, h2⟩ => hfr id h1 h2 hid
  have hne : ∀ j e : Nat, es[j]? = some e → ρ' (base + j) = ρ1 e := fun j e he => by
    have hj : j < es.length := by
      rcases Nat.lt_or_ge j es.length with h | h
      · exact h
      · rw [List.getElem?_eq_none h] at he; cases he
    rw [← hρ']
    simp only
    rw [if_pos ⟨by omega, by omega⟩, Nat.add_sub_cancel_left, List.getD_eq_getElem?_getD, he]
    rfl
  have hmem : ∀ e, e ∈ es → ∃ j : Nat, es[j]? = some e ∧ j < es.length := fun e he => by
    obtain ⟨j, hj, rfl⟩ := List.getElem_of_mem he
    exact ⟨j, List.getElem?_eq_getElem hj, hj⟩
  have hSame : ∀ s, X s → Same τ ρ1 ρ' s := fun s hs => by
    obtain ⟨ha, hb⟩ := hX s hs
    refine ⟨fun id hid => ?_, fun id o l a he => ?_⟩
    · rcases ha id hid with h | ⟨i, x, hi, hx⟩
      · obtain ⟨j, hj, _⟩ := hmem id h
        rw [hτ2 j id hj, hne j id hj]
      · rw [hτ1 id i hi, hag i (hσD id i hi), hx, hlk id i x hi hx]
    · obtain ⟨j, hj, _⟩ := hmem id (hb id o l a he)
      rw [hτ2 j id hj, hne j id hj]
  have hDs : ∀ s, X s → ∀ id, id ∈ s.ids → Dn D base es.length (τ id) := fun s hs id hid => by
    rcases (hX s hs).1 id hid with h | ⟨i, x, hi, hx⟩
    · obtain ⟨j, hj, hjl⟩ := hmem id h
      rw [hτ2 j id hj]
      exact .inr ⟨by omega, by omega⟩
    · rw [hτ1 id i hi]
      exact .inl (hσD id i hi)
  -- what is new is not of the old
  have hfresh : ∀ e b x, e ∈ es → G1 e = some b → (ρ1 e).a = some x → w.heap.size ≤ x.block := fun e b x he hb hx => by
    obtain ⟨hel, b', hb', hk'⟩ := hes e he
    rw [hb] at hb'
    injection hb' with hb'
    subst hb'
    rcases h1.own e b x hb hk' hx with h | h
    · exact h
    · obtain ⟨i, id, y, hi, hid, hy, he'⟩ := hMc _ h
      obtain ⟨id', b0, bb, hid', hG0, hk0, hb1, hk1⟩ := hmu i hi
      have hil : i < σ.length := by
        rcases Nat.lt_or_ge i σ.length with h | h
        · exact h
        · rw [List.getElem?_eq_none h] at hid; cases hid
      exact absurd he'.symm (h1.dist e i b bb x y hb hb1 (by omega) hk' hx (hlk i id y hid hy))
  have happl_m : ∀ (i id : Nat) (b : Blk), i ∈ mu → σ[i]? = some id → G1 i = some b → appl G base r id = some ⟨0, b.ty, renL τ b.c⟩ := fun i id b hi hid hb => by
    unfold appl
    rw [hupd i id b hi hid hb]
  have hnotm : ∀ id : Nat, base ≤ id → id < base + es.length → ∀ i : Nat, i ∈ mu → σ[i]? ≠ some id := fun id h1 h2 i _ hi => hfr id h1 h2 (hσD i id hi)
  have happl_n : ∀ (j e : Nat) (b : Blk), es[j]? = some e → G1 e = some b → appl G base r (base + j) = some ⟨b.k, b.ty, renL τ b.c⟩ := fun j e b he hb => by
    have hj : j < es.length := by
      rcases Nat.lt_or_ge j es.length with h | h
      · exact h
      · rw [List.getElem?_eq_none h] at he; cases he
    unfold appl
    rw [hupn _ (hnotm _ (by omega) (by omega)), hnl]
    simp only
    rw [if_pos ⟨by omega, by omega⟩, Nat.add_sub_cancel_left, hnew j e b he hb]
  have happl_o : ∀ id : Nat, (∀ i : Nat, i ∈ mu → σ[i]? ≠ some id) → ¬ (base ≤ id ∧ id < base + es.length) → appl G base r id = G id := fun id h1 h2 => by
    unfold appl
    rw [hupn id h1, hnl]
    simp only
    rw [if_neg h2]
  have hstay : ∀ (id : Nat) (b : Blk) (x : Addr), G id = some b → (∀ i : Nat, i ∈ mu → σ[i]? ≠ some id) → (ρ id).a = some x → w1.heap[x.block]? = w.heap[x.block]? := fun id b x hb hn hx => by
    refine hk.block _ (hG.lt id b x hb hx) fun hm => ?_
    obtain ⟨i, id', y, hi, hid, hy, he⟩ := hMc _ hm
    obtain ⟨id2, b0, bb, hid2, hG0, hk0, _⟩ := hmu i hi
    rw [hid] at hid2
    injection hid2 with hid2
    subst hid2
    exact absurd he (hG.dist id' id b0 b y x hG0 hb (fun e => hn i hi (e ▸ hid)) (by omega) hy hx)
  have hcase : ∀ (id : Nat) (b : Blk), appl G base r id = some b → ((∃ (i : Nat) (b' : Blk), i ∈ mu ∧ σ[i]? = some id ∧ G1 i = some b' ∧ b = ⟨0, b'.ty, renL τ b'.c⟩ ∧ b'.k = 0) ∨ (∃ (j e : Nat) (b' : Blk), es[j]? = some e ∧ id = base + j ∧ G1 e = some b' ∧ b = ⟨b'.k, b'.ty, renL τ b'.c⟩) ∨ (G id = some b ∧ (∀ i : Nat, i ∈ mu → σ[i]? ≠ some id) ∧ ¬ (base ≤ id ∧ id < base + es.length))) := fun id b hb => by
    by_cases hm : ∃ i : Nat, i ∈ mu ∧ σ[i]? = some id
    · obtain ⟨i, hi, hid⟩ := hm
      obtain ⟨id2, b0, bb, hid2, hG0, hk0, hb1, hk1⟩ := hmu i hi
      rw [happl_m i id bb hi hid hb1] at hb
      injection hb with hb
      exact .inl ⟨i, bb, hi, hid, hb1, hb.symm, hk1⟩
    · have hm' : ∀ i : Nat, i ∈ mu → σ[i]? ≠ some id := fun i hi he => hm ⟨i, hi, he⟩
      by_cases hr : base ≤ id ∧ id < base + es.length
      · have hj : id - base < es.length := by omega
        obtain ⟨_, b', hb', _⟩ := hes es[id - base] (List.getElem_mem hj)
        have e1 : es[id - base]? = some es[id - base] := List.getElem?_eq_getElem hj
        have := happl_n _ _ b' e1 hb'
        rw [show base + (id - base) = id by omega, hb] at this
        injection this with this
        exact .inr (.inl ⟨_, _, b', e1, by omega, hb', this⟩)
      · rw [happl_o id hm' hr] at hb
        exact .inr (.inr ⟨hb, hm', hr⟩)
  -- where a block lies
  have hplace_m : ∀ i id : Nat, i ∈ mu → σ[i]? = some id → ∃ b0 x, G id = some b0 ∧ b0.k = 0 ∧ (ρ id).a = some x ∧ (ρ' id).a = some x ∧ (ρ1 i).a = some x := fun i id hi hid => by
    obtain ⟨id2, b0, bb, hid2, hG0, hk0, hb1, hk1⟩ := hmu i hi
    rw [hid] at hid2
    injection hid2 with hid2
    subst hid2
    obtain ⟨x, hx⟩ := (hG.blk id b0 hG0).2.2.hasA (by simp [hasA, hk0])
    exact ⟨b0, x, hG0, hk0, hx, by rw [hag id (hσD i id hid)]; exact hx, hlk i id x hid hx⟩
  have hkp : Kept N M w w1 := ⟨hk.os, hk.tape, hk.output, hk.size, fun g hg hgM => by
    refine hk.block g (Nat.lt_of_lt_of_le hg hG.size) fun hm => ?_
    obtain ⟨i, id, x, hi, hid, hx, rfl⟩ := hMc _ hm
    obtain ⟨b0, y, hG0, hk0, hy, _, _⟩ := hplace_m i id hi hid
    rcases hG.own id b0 x hG0 (by omega) hx with h | h
    · omega
    · exact hgM h⟩
  have hHR : HR ρ' (Dn D base r.new.length) N M (appl G base r) w1 := by
    rw [hnl]
    refine hG.step (U := fun id => (∃ i : Nat, i ∈ mu ∧ σ[i]? = some id) ∨ (base ≤ id ∧ id < base + es.length)) hag (fun id h => .inl h) hkp (fun id b hb hU => ?_) (fun id b x hb hU hx => ?_) (fun id b hb hU => ?_) (fun id b x hb hU hx => ?_) (fun id b x hb hU hkb hx => ?_) (fun i j bi bj x y hi hj hij hU hkb hx hy => ?_)
    · rw [not_or] at hU
      rw [happl_o id (fun i hi he => hU.1 ⟨i, hi, he⟩) hU.2] at hb
      exact hb
    · rw [not_or] at hU
      rw [happl_o id (fun i hi he => hU.1 ⟨i, hi, he⟩) hU.2] at hb
      exact hstay id b x hb (fun i hi he => hU.1 ⟨i, hi, he⟩) hx
    · rcases hcase id b hb with ⟨i, b', hi, hid, hb', rfl, hk'⟩ | ⟨j, e, b', he, rfl, hb', rfl⟩ | ⟨_, h2, h3⟩
      · refine ⟨.inl (hσD i id hid), renL_in fun s hs => hDs s (hXm i hi b' hb' s hs), ?_⟩
        obtain ⟨b0, x, hG0, hk0, hx, hx', hx1⟩ := hplace_m i id hi hid
        have h3 := (h1.blk i b' hb').2.2
        obtain ⟨k, ty, c⟩ := b'
        simp only at hk'
        subst hk'
        obtain ⟨g, hg, hh⟩ := h3
        rw [hx1] at hg
        refine ⟨g, hx'.trans hg, ?_⟩
        rw [renL_vals fun s hs => hSame s (hXm i hi _ hb' s hs)]
        exact hh
      · have hj : j < es.length := by
          rcases Nat.lt_or_ge j es.length with h | h
          · exact h
          · rw [List.getElem?_eq_none h] at he; cases he
        have hmem' : e ∈ es := List.mem_of_getElem? he
        refine ⟨.inr ⟨by omega, by omega⟩, renL_in fun s hs => hDs s (hXe e hmem' b' hb' s hs), ?_⟩
        have h3 := (h1.blk e b' hb').2.2
        have e1 := renL_vals fun s hs => hSame s (hXe e hmem' b' hb' s hs)
        have e2 := hne j e he
        unfold BlkOK at h3 ⊢
        rw [e1, e2]
        exact h3
      · exact absurd hU fun hU => hU.elim (fun ⟨i, hi, he⟩ => h2 i hi he) h3
    · rcases hcase id b hb with ⟨i, b', hi, hid, hb', rfl, hk'⟩ | ⟨j, e, b', he, rfl, hb', rfl⟩ | ⟨_, h2, h3⟩
      · obtain ⟨b0, y, hG0, hk0, hy, hy', hy1⟩ := hplace_m i id hi hid
        rw [hy'] at hx
        injection hx with hx
        subst hx
        exact h1.lt i b' _ hb' hy1
      · rw [hne j e he] at hx
        exact h1.lt e b' x hb' hx
      · exact absurd hU fun hU => hU.elim (fun ⟨i, hi, he⟩ => h2 i hi he) h3
    · rcases hcase id b hb with ⟨i, b', hi, hid, hb', rfl, hk'⟩ | ⟨j, e, b', he, rfl, hb', rfl⟩ | ⟨_, h2, h3⟩
      · obtain ⟨b0, y, hG0, hk0, hy, hy', hy1⟩ := hplace_m i id hi hid
        rw [hy'] at hx
        injection hx with hx
        subst hx
        exact hG.own id b0 _ hG0 (by omega) hy
      · rw [hne j e he] at hx
        exact .inl (Nat.le_trans hG.size (hfresh e b' x (List.mem_of_getElem? he) hb' hx))
      · exact absurd hU fun hU => hU.elim (fun ⟨i, hi, he⟩ => h2 i hi he) h3
    · have hne' : ∀ j e : Nat, es[j]? = some e → e ∈ es := fun j e h => List.mem_of_getElem? h
      rcases hcase i bi hi with ⟨i1, b1, hi1, hid1, hb1, rfl, hk1⟩ | ⟨j1, e1, b1, he1, rfl, hb1, rfl⟩ | ⟨hg1, hn1, hr1⟩ <;> rcases hcase j bj hj with ⟨i2, b2, hi2, hid2, hb2, rfl, hk2⟩ | ⟨j2, e2, b2, he2, rfl, hb2, rfl⟩ | ⟨hg2, hn2, hr2⟩
      · obtain ⟨c1, y1, hc1, hck1, hy1, hy1', hy11⟩ := hplace_m i1 i hi1 hid1
        obtain ⟨c2, y2, hc2, hck2, hy2, hy2', hy21⟩ := hplace_m i2 j hi2 hid2
        rw [hy1'] at hx; injection hx with hx; subst hx
        rw [hy2'] at hy; injection hy with hy; subst hy
        exact hG.dist i j c1 c2 _ _ hc1 hc2 hij (by omega) hy1 hy2
      · obtain ⟨c1, y1, hc1, hck1, hy1, hy1', hy11⟩ := hplace_m i1 i hi1 hid1
        rw [hy1'] at hx; injection hx with hx; subst hx
        rw [hne j2 e2 he2] at hy
        have := hfresh e2 b2 y (hne' _ _ he2) hb2 hy
        have := hG.lt i c1 _ hc1 hy1
        omega
      · obtain ⟨c1, y1, hc1, hck1, hy1, hy1', hy11⟩ := hplace_m i1 i hi1 hid1
        rw [hy1'] at hx; injection hx with hx; subst hx
        rw [hag j (hG.blk j bj hg2).1] at hy
        exact hG.dist i j c1 bj _ _ hc1 hg2 hij (by omega) hy1 hy
      · obtain ⟨c2, y2, hc2, hck2, hy2, hy2', hy21⟩ := hplace_m i2 j hi2 hid2
        rw [hy2'] at hy; injection hy with hy; subst hy
        rw [hne j1 e1 he1] at hx
        have := hfresh e1 b1 x (hne' _ _ he1) hb1 hx
        have := hG.lt j c2 _ hc2 hy2
        omega
      · rw [hne j1 e1 he1] at hx
        rw [hne j2 e2 he2] at hy
        refine h1.dist e1 e2 b1 b2 x y hb1 hb2 (fun e => hij ?_) hkb hx hy
        rw [hesn j1 j2 e1 he1 (e ▸ he2)]
      · rw [hne j1 e1 he1] at hx
        rw [hag j (hG.blk j bj hg2).1] at hy
        have := hfresh e1 b1 x (hne' _ _ he1) hb1 hx
        have := hG.lt j bj y hg2 hy
        omega
      · obtain ⟨c2, y2, hc2, hck2, hy2, hy2', hy21⟩ := hplace_m i2 j hi2 hid2
        rw [hy2'] at hy; injection hy with hy; subst hy
        rw [hag i (hG.blk i bi hg1).1] at hx
        exact hG.dist i j bi c2 _ _ hg1 hc2 hij hkb hx hy2
      · rw [hne j2 e2 he2] at hy
        rw [hag i (hG.blk i bi hg1).1] at hx
        have := hfresh e2 b2 y (hne' _ _ he2) hb2 hy
        have := hG.lt i bi x hg1 hx
        omega
      · exact absurd hU fun hU => hU.elim (fun hU => hU.elim (fun ⟨i, hi, he⟩ => hn1 i hi he) hr1) (fun hU => hU.elim (fun ⟨i, hi, he⟩ => hn2 i hi he) hr2)
  refine ⟨hag, ?_, hHR, hkp, fun hu => ?_⟩
  · rw [hval]
    refine (SV.ren_conc ?_).symm
    revert hXv
    cases v with
    | av a => exact fun h s hs => hSame s (h s hs)
    | tup l => exact fun h a ha s hs => hSame s (h a ha s hs)
  · have hm0 := hup0 hu
    refine ⟨?_, fun j b x hj hx => ?_⟩
    · refine Kept.below ⟨hk.os, hk.tape, hk.output, hk.size, fun g hg _ => hk.block g hg fun hm => ?_⟩
      obtain ⟨i, id, x, hi, _⟩ := hMc _ hm
      rw [hm0] at hi
      cases hi
    · have hjl : j < es.length := by
        rw [← hnl]
        rcases Nat.lt_or_ge j r.new.length with h | h
        · exact h
        · rw [List.getElem?_eq_none h] at hj; cases hj
      have e1 : es[j]? = some es[j] := List.getElem?_eq_getElem hjl
      obtain ⟨_, b', hb', _⟩ := hes es[j] (List.getElem_mem hjl)
      rw [hne j _ e1] at hx
      exact hfresh _ b' x (List.getElem_mem hjl) hb' hx
end
end Go.Proofs.YtpefomdegbmecaaDoor.Am
