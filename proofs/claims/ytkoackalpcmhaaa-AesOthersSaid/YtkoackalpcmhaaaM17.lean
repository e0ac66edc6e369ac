/- The abstract machine: a region that draws its order comes to what was reckoned. Conditions: none. -/
import Derived.Test.YtkoackalpcmhaaaM16
namespace Go.Proofs.Ytkoackalpcmhaaa.Am
set_option linter.unusedVariables false
set_option linter.unusedSimpArgs false
open Go Go.RowKit
open Rg (gives at_ writerOf dstOf)

section
variable {P : Program} {T : List (Nat × Ty)} {O : List (Nat × Ent)} {N : Nat} {M : List Nat} {w0 : Wd} {ops : Array Oper} {A K : List Nat} {H : Nat → Hint} {s : St}

theorem anc_bit (hc : Rg.Check ops A K) {i : Nat} {o : Oper} (ho : ops[i]? = some o) {d : Nat} (h : (at_ A i).testBit d = true) : d < i := Rg.anc_lt hc i o ho d h

theorem getI_congr {rs rs' : List (Nat × Res)} {i : Nat} {o : Oper} (hc : Rg.Check ops A K) (ho : ops[i]? = some o) (h : ∀ j, j < i → look rs' j = look rs j) (get : Nat → Option SV) : getI ops A rs' get i = getI ops A rs get i := by
  funext t
  unfold getI
  cases writerOf ops t with
  | none => rfl
  | some d =>
    simp only
    cases hb : (at_ A i).testBit d with
    | true => simp only; rw [h d (anc_bit hc ho hb)]
    | false => rfl
theorem heapI_congr {rs rs' : List (Nat × Res)} {i : Nat} {o : Oper} (hc : Rg.Check ops A K) (ho : ops[i]? = some o) (h : ∀ j, j < i → look rs' j = look rs j) (nx : Nat) (hp : Nat → Option Blk) : heapI nx rs' hp (fun d => (at_ A i).testBit d) = heapI nx rs hp (fun d => (at_ A i).testBit d) := by
  funext id
  unfold heapI
  cases Nat.blt id nx with
  | true => rfl
  | false =>
    simp only
    cases hb : (at_ A i).testBit ((id - nx) / 4) with
    | true => simp only; rw [h _ (anc_bit hc ho hb)]
    | false => rfl

/-- What is known of a head's operation. -/
def HeadOK (T : List (Nat × Ty)) (O : List (Nat × Ent)) (ops : Array Oper) (A : List Nat) (H : Nat → Hint) (s : St) (rs : List (Nat × Res)) (i : Nat) (o : Oper) : Prop :=
  ∃ r, look rs i = some r ∧ opRes T O ops (getI ops A rs s.get i) s.gl (heapI s.nx rs (look s.hp) (fun d => (at_ A i).testBit d)) (H i) (s.nx + 4 * i) (fun id => Nat.blt id s.nx || (at_ A i).testBit ((id - s.nx) / 4)) o = some r ∧ r.asm.holds ∧ r.new.length ≤ 4 ∧ r.upd = []

theorem headOps_spec (hc : Rg.Check ops A K) : ∀ (l : List Oper) (i : Nat) (rs rs' : List (Nat × Res)) (p : Asm), headOps T O ops A H s l i rs = some (rs', p) → p.holds → (∀ j r, look rs j = some r → j < i) → (∀ k o, l[k]? = some o → ops[i + k]? = some o) →
    (∀ j, j < i → look rs' j = look rs j) ∧ ∀ k o, l[k]? = some o → HeadOK T O ops A H s rs' (i + k) o
  | [], i, rs, rs', p, h, hp, hlt, hl => by
    simp only [headOps, Option.some.injEq, Prod.mk.injEq] at h
    obtain ⟨rfl, _⟩ := h
    exact ⟨fun _ _ => rfl, fun k o hk => by simp at hk⟩
  | o :: l, i, rs, rs', p, h, hp, hlt, hl => by
    unfold headOps at h
    split at h
    · rename_i r hr
      split at h
      · rename_i hlen hupd
        split at h
        · rename_i rs1 p1 h1
          simp only [Option.some.injEq, Prod.mk.injEq] at h
          obtain ⟨rfl, rfl⟩ := h
          have hstep : ∀ j r', look ((i, r) :: rs) j = some r' → j < i + 1 := fun j r' hj => by
            rw [look_cons] at hj
            by_cases hij : i = j
            · omega
            · rw [if_neg hij] at hj; have := hlt j r' hj; omega
          obtain ⟨e1, e2⟩ := headOps_spec hc l (i + 1) _ _ _ h1 hp.2 hstep (fun k o' hk => by have := hl (k + 1) o' (by simpa using hk); rw [show i + 1 + k = i + (k + 1) by omega]; exact this)
          have e0 : ∀ j, j < i → look rs1 j = look rs j := fun j hj => by
            rw [e1 j (by omega), look_cons, if_neg (by omega)]
          refine ⟨e0, fun k o' hk => ?_⟩
          cases k with
          | zero =>
            simp only [List.getElem?_cons_zero, Option.some.injEq] at hk
            subst hk
            have ho := hl 0 o rfl
            simp only [Nat.add_zero] at ho ⊢
            refine ⟨r, by rw [e1 i (by omega), look_cons, if_pos rfl], ?_, hp.1, Nat.le_of_ble_eq_true hlen, hupd⟩
            rw [getI_congr hc ho e0, heapI_congr hc ho e0]
            exact hr
          | succ k =>
            have := e2 k o' (by simpa using hk)
            rw [show i + (k + 1) = i + 1 + k by omega]
            exact this
        · cases h
      · cases h
    · cases h

def DL (nx : Nat) (L : Array Bool) : Nat → Prop := fun id => id < nx ∨ (nx ≤ id ∧ L.getD ((id - nx) / 4) false = true)
def resOf (rs : List (Nat × Res)) (d : Nat) : Res := match look rs d with
  | some r => r
  | none => { val := ofV undef }

/-- What holds while the head's operations come up. -/
structure RInv (ops : Array Oper) (K : List Nat) (rs : List (Nat × Res)) (s : St) (N : Nat) (M : List Nat) (w0 : Wd) (ρ0 : Nat → Loc) (a0 : Act) (L : Array Bool) (a : Act) (w : World) : Prop where
  size : L.size = ops.size
  closed : ∀ j oj, ops[j]? = some oj → L.getD j false = true → ∀ e ∈ oj.after, Region.binds .any e = true → L.getD e.on false = true
  notail : ∀ j, j < ops.size → at_ K j = 2 → L.getD j false = false
  defers : a.defers = []
  tmps : a.tmps.size = a0.tmps.size
  ex : ∃ ρ, (∀ id, id < s.nx → ρ id = ρ0 id) ∧
    (∀ t, match writerOf ops t with
      | some d => if L.getD d false = true then a.eval (.tmp t) = (resOf rs d).val.conc ρ ∧ (resOf rs d).val.In (DL s.nx L) else a.eval (.tmp t) = a0.eval (.tmp t)
      | none => a.eval (.tmp t) = a0.eval (.tmp t)) ∧
    HR ρ (DL s.nx L) N M (heapI s.nx rs (look s.hp) fun d => L.getD d false) w ∧ Kept N M w0.w w

theorem heapI_lt {nx : Nat} {rs : List (Nat × Res)} {hp : Nat → Option Blk} {L : Nat → Bool} {id : Nat} (h : id < nx) : heapI nx rs hp L id = hp id := by
  unfold heapI
  have : Nat.blt id nx = true := Nat.ble_eq_true_of_le h
  rw [this]
theorem heapI_ge {nx : Nat} {rs : List (Nat × Res)} {hp : Nat → Option Blk} {L : Nat → Bool} {id : Nat} (h : nx ≤ id) : heapI nx rs hp L id = match L ((id - nx) / 4) with
    | true => match look rs ((id - nx) / 4) with
      | some r => r.new[(id - nx) % 4]?
      | none => none
    | false => none := by
  unfold heapI
  have : Nat.blt id nx = false := by
    cases hq : Nat.blt id nx
    · rfl
    · have := Nat.le_of_ble_eq_true hq; omega
  rw [this]
  rfl
theorem heapI_mono {nx : Nat} {rs : List (Nat × Res)} {hp : Nat → Option Blk} {L L' : Nat → Bool} (h : ∀ d, L d = true → L' d = true) : ∀ id b, heapI nx rs hp L id = some b → heapI nx rs hp L' id = some b := by
  intro id b hb
  rcases Nat.lt_or_ge id nx with h1 | h1
  · rw [heapI_lt h1] at hb ⊢; exact hb
  · rw [heapI_ge h1] at hb ⊢
    cases hL : L ((id - nx) / 4) with
    | true => rw [hL] at hb; rw [h _ hL]; exact hb
    | false => rw [hL] at hb; cases hb

/-- What an operation of the head may lean on. -/
theorem RInv.rel (hc : Rg.Check ops A K) {rs : List (Nat × Res)} {ρ0 : Nat → Loc} {a0 : Act} {L : Array Bool} {a : Act} {w w1 : World} (h : RInv ops K rs s N M w0 ρ0 a0 L a w) (h0 : Rel ρ0 (· < s.nx) N M w0 s.gl s.get (look s.hp) a0 w1) {i : Nat} {o : Oper} (ho : ops[i]? = some o) (hr : i ∈ Region.ready .any ops L) (hrs : ∀ d, (at_ A i).testBit d = true → ∃ r, look rs d = some r) :
    ∃ ρ, (∀ id, id < s.nx → ρ id = ρ0 id) ∧ Rel ρ (DL s.nx L) N M w0 s.gl (getI ops A rs s.get i) (heapI s.nx rs (look s.hp) (fun d => (at_ A i).testBit d)) a w ∧ HR ρ (DL s.nx L) N M (heapI s.nx rs (look s.hp) fun d => L.getD d false) w ∧
      (∀ t, match writerOf ops t with
        | some d => if L.getD d false = true then a.eval (.tmp t) = (resOf rs d).val.conc ρ ∧ (resOf rs d).val.In (DL s.nx L) else a.eval (.tmp t) = a0.eval (.tmp t)
        | none => a.eval (.tmp t) = a0.eval (.tmp t)) := by
  obtain ⟨ρ, hag, hsl, hHR, hK⟩ := h.ex
  obtain ⟨_, o', ho', hall⟩ := mem_ready.1 hr
  have : o' = o := Option.some.inj (ho'.symm.trans ho)
  subst this
  have hanc : ∀ d, (at_ A i).testBit d = true → L.getD d false = true := fun d hd => Rg.closed_anc hc h.closed i o' ho hall d hd
  have h0c : ∀ t sv, s.get t = some sv → a0.eval (.tmp t) = sv.conc ρ ∧ sv.In (DL s.nx L) := fun t sv ht => by
    obtain ⟨h1, h2⟩ := h0.slots t sv ht
    exact ⟨by rw [h1, SV.conc_congr hag h2], h2.mono fun id hid => .inl hid⟩
  refine ⟨ρ, hag, ⟨fun t sv ht => ?_, fun g id hg => ?_, hHR.weaken (heapI_mono hanc), hK, h.defers⟩, hHR, hsl⟩
  · have hst := hsl t
    unfold getI at ht
    cases hw : writerOf ops t with
    | none =>
      rw [hw] at ht hst
      simp only at ht hst
      rw [hst]
      exact h0c t sv ht
    | some d =>
      rw [hw] at ht hst
      simp only at ht hst
      cases hb : (at_ A i).testBit d with
      | true =>
        rw [hb] at ht
        simp only at ht
        obtain ⟨r, hr'⟩ := hrs d hb
        rw [hr'] at ht
        simp only [Option.some.injEq] at ht
        subst ht
        rw [if_pos (hanc d hb)] at hst
        have e : resOf rs d = r := by unfold resOf; rw [hr']
        rw [e] at hst
        exact hst
      | false =>
        rw [hb] at ht
        simp only at ht
        split at ht
        · rename_i hd
          have hnl : L.getD d false = false := by
            rw [Bool.or_eq_true] at hd
            rcases hd with hd | hd
            · have := Nat.eq_of_beq_eq_true hd
              subst this
              exact Rg.getD_of_ready hr
            · have hdlt : d < ops.size := by
                unfold writerOf at hw
                exact List.mem_range.1 (List.mem_of_find?_eq_some hw)
              cases hl : L.getD d false with
              | false => rfl
              | true =>
                have := Rg.closed_anc hc h.closed d ops[d] (by rw [Array.getElem?_eq_getElem hdlt]) (h.closed d _ (by rw [Array.getElem?_eq_getElem hdlt]) hl) i hd
                rw [Rg.getD_of_ready hr] at this
                cases this
          rw [if_neg (by rw [hnl]; exact Bool.false_ne_true)] at hst
          rw [hst]
          exact h0c t sv ht
        · cases ht
  · obtain ⟨h1, h2⟩ := h0.globals g id hg
    exact ⟨by rw [hag id h2]; exact h1, .inl h2⟩

theorem DL_set {nx i id : Nat} {L : Array Bool} (hi : i < L.size) : DL nx (L.setIfInBounds i true) id ↔ DL nx L id ∨ (nx ≤ id ∧ (id - nx) / 4 = i) := by
  unfold DL
  rw [Rg.getD_set hi]
  by_cases h : i = (id - nx) / 4
  · rw [if_pos h]
    constructor
    · rintro (h1 | ⟨h1, _⟩)
      · exact .inl (.inl h1)
      · exact .inr ⟨h1, h.symm⟩
    · rintro ((h1 | ⟨h1, _⟩) | ⟨h1, _⟩)
      · exact .inl h1
      · exact .inr ⟨h1, rfl⟩
      · exact .inr ⟨h1, rfl⟩
  · rw [if_neg h]
    constructor
    · exact .inl
    · rintro (h1 | ⟨_, h2⟩)
      · exact h1
      · exact absurd h2.symm h

/-- Behind an operation of the head. -/
theorem RInv.put (hc : Rg.Check ops A K) {rs : List (Nat × Res)} {ρ0 ρ ρ' : Nat → Loc} {a0 : Act} {L : Array Bool} {a : Act} {w w' : World} (h : RInv ops K rs s N M w0 ρ0 a0 L a w) (hag : ∀ id, id < s.nx → ρ id = ρ0 id)
    (hHR : HR ρ (DL s.nx L) N M (heapI s.nx rs (look s.hp) fun d => L.getD d false) w) (hsl : ∀ t, match writerOf ops t with
      | some d => if L.getD d false = true then a.eval (.tmp t) = (resOf rs d).val.conc ρ ∧ (resOf rs d).val.In (DL s.nx L) else a.eval (.tmp t) = a0.eval (.tmp t)
      | none => a.eval (.tmp t) = a0.eval (.tmp t)) (hK : Kept N M w0.w w)
    {i : Nat} {o : Oper} {t0 : Tmp} (ho : ops[i]? = some o) (hr : i ∈ Region.ready .any ops L) (hk : at_ K i ≠ 2) (hd : o.dst = some t0) (hlt : t0 < a0.tmps.size) {r : Res} (hri : look rs i = some r) (hlen : r.new.length ≤ 4) (hupd : r.upd = []) {Gi : Nat → Option Blk} (hGi : ∀ id, s.nx + 4 * i ≤ id → Gi id = none ∨ True)
    {v : Value} (hF : Fits ρ (DL s.nx L) N M Gi (s.nx + 4 * i) r w ρ' v w') (hin : r.val.In (Dn (DL s.nx L) (s.nx + 4 * i) r.new.length)) :
    RInv ops K rs s N M w0 ρ0 a0 (L.setIfInBounds i true) (a.put o.dst v) w' := by
  have hsz := (Array.getElem?_eq_some_iff.1 ho).1
  have hL : i < L.size := by rw [h.size]; exact hsz
  obtain ⟨_, o', ho', hall⟩ := mem_ready.1 hr
  have : o' = o := Option.some.inj (ho'.symm.trans ho)
  subst this
  have hDL : ∀ id, DL s.nx L id → DL s.nx (L.setIfInBounds i true) id := fun id hid => (DL_set hL).2 (.inl hid)
  have hDn : ∀ id, Dn (DL s.nx L) (s.nx + 4 * i) r.new.length id → DL s.nx (L.setIfInBounds i true) id := fun id hid => by
    rcases hid with hid | hid
    · exact hDL id hid
    · exact (DL_set hL).2 (.inr ⟨by omega, by omega⟩)
  obtain ⟨hbel, hfr⟩ := hF.fresh hupd
  refine ⟨by simp [h.size], fun j oj hj hl e he hbd => ?_, fun j hj hkj => ?_, ?_, ?_, ρ', fun id hid => ?_, fun t => ?_, ?_, hK.trans hF.kept⟩
  · rw [Rg.getD_set hL] at hl ⊢
    by_cases hij : i = j
    · subst hij
      have : oj = o' := Option.some.inj (hj.symm.trans ho)
      subst this
      split
      · rfl
      · exact hall e he hbd
    · rw [if_neg hij] at hl
      split
      · rfl
      · exact h.closed j oj hj hl e he hbd
  · rw [Rg.getD_set hL, if_neg (fun (e : i = j) => hk (e ▸ hkj))]; exact h.notail j hj hkj
  · rw [hd]; exact h.defers
  · rw [hd]; simp [Act.put, h.tmps]
  · rw [hF.agree id (.inl hid)]; exact hag id hid
  · have h1 := hsl t
    have hw := hc.one i o' t0 ho hd
    by_cases hst' : t0 = t
    · subst hst'
      rw [hw]
      simp only
      rw [Rg.getD_set hL, if_pos rfl, if_pos rfl, hd, Rg.eval_put_self (by rw [h.tmps]; exact hlt)]
      have e : resOf rs i = r := by unfold resOf; rw [hri]
      rw [e]
      exact ⟨hF.val, hin.mono hDn⟩
    · have hev : (a.put o'.dst v).eval (.tmp t) = a.eval (.tmp t) := by rw [hd]; exact eval_put_ne hst'
      rw [hev]
      split
      · rename_i d hd'
        simp only [hd'] at h1
        rw [Rg.getD_set hL]
        by_cases hid : i = d
        · subst hid
          exfalso
          unfold writerOf at hd'
          have := List.find?_some hd'
          simp only [ho, Option.bind_some, hd, beq_iff_eq, Option.some.injEq] at this
          exact hst' this
        · rw [if_neg hid]
          split
          · rename_i hld
            rw [if_pos hld] at h1
            exact ⟨by rw [SV.conc_congr hF.agree h1.2]; exact h1.1, h1.2.mono hDL⟩
          · rename_i hld
            rw [if_neg hld] at h1
            exact h1
      · rename_i hd'
        simp only [hd'] at h1
        exact h1
  · -- the blocks
    have hnew : ∀ id b, (s.nx ≤ id ∧ (id - s.nx) / 4 = i) → heapI s.nx rs (look s.hp) (fun d => (L.setIfInBounds i true).getD d false) id = some b → (s.nx + 4 * i ≤ id ∧ id < s.nx + 4 * i + r.new.length) ∧ r.new[id - (s.nx + 4 * i)]? = some b := by
      intro id b hid hb
      rw [heapI_ge hid.1, hid.2] at hb
      rw [Rg.getD_set hL, if_pos rfl, hri] at hb
      simp only at hb
      have e : (id - s.nx) % 4 = id - (s.nx + 4 * i) := by omega
      rw [e] at hb
      have := (List.getElem?_eq_some_iff.1 hb).1
      exact ⟨⟨by omega, by omega⟩, hb⟩
    have hoth : ∀ id b, ¬ (s.nx ≤ id ∧ (id - s.nx) / 4 = i) → heapI s.nx rs (look s.hp) (fun d => (L.setIfInBounds i true).getD d false) id = some b → heapI s.nx rs (look s.hp) (fun d => L.getD d false) id = some b := by
      intro id b hid hb
      rcases Nat.lt_or_ge id s.nx with h1 | h1
      · rw [heapI_lt h1] at hb ⊢; exact hb
      · rw [heapI_ge h1] at hb ⊢
        have : i ≠ (id - s.nx) / 4 := fun e => hid ⟨h1, e.symm⟩
        rw [Rg.getD_set hL, if_neg this] at hb
        exact hb
    have hap : ∀ id b, s.nx + 4 * i ≤ id ∧ id < s.nx + 4 * i + r.new.length → r.new[id - (s.nx + 4 * i)]? = some b → appl Gi (s.nx + 4 * i) r id = some b := by
      intro id b hid hb
      unfold appl
      rw [hupd]
      simp only [look]
      rw [if_pos hid]; exact hb
    have hfr' : ∀ id b x, s.nx + 4 * i ≤ id ∧ id < s.nx + 4 * i + r.new.length → r.new[id - (s.nx + 4 * i)]? = some b → (ρ' id).a = some x → w.heap.size ≤ x.block := by
      intro id b x hid hb hx
      refine hfr (id - (s.nx + 4 * i)) b x hb ?_
      rw [show s.nx + 4 * i + (id - (s.nx + 4 * i)) = id by omega]; exact hx
    refine hHR.step (U := fun id => s.nx ≤ id ∧ (id - s.nx) / 4 = i) hF.agree hDL hbel.size (fun id b hb hU => hoth id b hU hb) (fun id b x hb hU hx => ?_) (fun id b hb hU => ?_) (fun id b x hb hU hx => ?_) (fun id b x hb hU hk hx => ?_) (fun j k bj bk x y hj hk' hjk hU hkk hx hy => ?_)
    · exact hbel.block _ (hHR.lt id b x (hoth id b hU hb) hx)
    · obtain ⟨h1, h2⟩ := hnew id b hU hb
      obtain ⟨e1, e2, e3⟩ := hF.hr.blk id b (hap id b h1 h2)
      exact ⟨hDn id e1, e2.mono hDn, e3⟩
    · obtain ⟨h1, h2⟩ := hnew id b hU hb
      exact hF.hr.lt id b x (hap id b h1 h2) hx
    · obtain ⟨h1, h2⟩ := hnew id b hU hb
      exact hF.hr.own id b x (hap id b h1 h2) hk hx
    · by_cases hUj : s.nx ≤ j ∧ (j - s.nx) / 4 = i
      · obtain ⟨h1, h2⟩ := hnew j bj hUj hj
        by_cases hUk : s.nx ≤ k ∧ (k - s.nx) / 4 = i
        · obtain ⟨h3, h4⟩ := hnew k bk hUk hk'
          exact hF.hr.dist j k bj bk x y (hap j bj h1 h2) (hap k bk h3 h4) hjk hkk hx hy
        · have h3 := hoth k bk hUk hk'
          rw [hF.agree k (hHR.blk k bk h3).1] at hy
          have h4 := hHR.lt k bk y h3 hy
          have h5 := hfr' j bj x h1 h2 hx
          omega
      · have hUk := hU.resolve_left hUj
        obtain ⟨h1, h2⟩ := hnew k bk hUk hk'
        have h3 := hoth j bj hUj hj
        rw [hF.agree j (hHR.blk j bj h3).1] at hx
        have h4 := hHR.lt j bj x h3 hx
        have h5 := hfr' k bk y h1 h2 hy
        omega

end
end Go.Proofs.Ytkoackalpcmhaaa.Am
