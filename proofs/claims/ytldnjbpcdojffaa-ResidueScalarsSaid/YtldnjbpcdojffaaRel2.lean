/- A region that draws its order and makes several variables: besides what each operation leaves, the new variables' blocks are pairwise other ones. Conditions: none. -/
import Derived.Test.YtldnjbpcdojffaaRel
namespace Go.Proofs.Ytldnjbpcdojffaa.Rg
set_option linter.unusedVariables false
set_option linter.unusedSimpArgs false
open Go Go.RowKit

section
variable {P : Program} {ops : Array Oper} {A K : List Nat}

def blkOf : Value → Option Nat
  | .pointer (some x) => some x.block
  | _ => none
/-- An operation that makes a variable, whatever comes. -/
def isNew (o : Oper) : Bool := (match o.op with | .alloc _ => true | _ => false) && o.guard.isNone
theorem isNew_spec {o : Oper} (h : isNew o = true) : (∃ t, o.op = .alloc t) ∧ o.guard = none := by
  unfold isNew at h
  rw [Bool.and_eq_true] at h
  refine ⟨?_, by simpa using h.2⟩
  cases ho : o.op <;> simp [ho] at h ⊢

/-- The variables that are made lie in blocks of their own. -/
def Dist (ops : Array Oper) (a : Act) : Prop := ∀ (i j : Nat) (oi oj : Oper) (si sj : Tmp), i ≠ j → ops[i]? = some oi → ops[j]? = some oj → isNew oi = true → isNew oj = true → oi.dst = some si → oj.dst = some sj →
  blkOf (a.eval (.tmp si)) ≠ blkOf (a.eval (.tmp sj))

structure Fr (ops : Array Oper) (L : Array Bool) (a : Act) (w : World) : Prop where
  lt : ∀ (i : Nat) (o : Oper) (s : Tmp), ops[i]? = some o → isNew o = true → L.getD i false = true → o.dst = some s → ∃ b, blkOf (a.eval (.tmp s)) = some b ∧ b < w.heap.size
  ne : ∀ (i j : Nat) (oi oj : Oper) (si sj : Tmp), i ≠ j → ops[i]? = some oi → ops[j]? = some oj → isNew oi = true → isNew oj = true → L.getD i false = true → L.getD j false = true → oi.dst = some si → oj.dst = some sj →
    blkOf (a.eval (.tmp si)) ≠ blkOf (a.eval (.tmp sj))

theorem zero_world {P : Program} {w w' : World} {t : TypeId} {z : Value} (h : (zeroValue t).run P w = .ok z w') : w' = w := by
  have hT : ∀ {i : TypeInfo} {w1 : World}, (typeInfo t).run P w = .ok i w1 → w1 = w := by
    intro i w1 h
    simp only [typeInfo, Sem.run_bind, run_program, Result.andThen] at h
    split at h <;> simp_all
  simp only [zeroValue, Sem.run_bind] at h
  cases hi : (typeInfo t).run P w with
  | halt _ _ => simp [hi, Result.andThen] at h
  | ok i w1 =>
    have e := hT hi
    subst e
    simp only [hi, Result.andThen] at h
    split at h <;> simp_all

theorem gives_new {o : Oper} {a : Act} {w : World} {R : Value → World → Prop} (hn : isNew o = true) (h : gives P o a w R) : gives P o a w fun v w' => R v w' ∧ (blkOf v = some w.heap.size ∧ w.heap.size < w'.heap.size) := by
  obtain ⟨⟨t, ht⟩, _⟩ := isNew_spec hn
  unfold gives at *
  have e : (execOp a.eval o).run P w = match (zeroValue t).run P w with
      | .ok z w1 => .ok (.value (.pointer (some ⟨w1.heap.size, 0, none⟩))) (w1.alloc (.cells z.cells t))
      | .halt x w1 => .halt x w1 := by
    simp only [execOp, ht, Instr.alloc, Sem.run_bind]
    cases (zeroValue t).run P w with
    | ok z w1 => simp [Result.andThen, newVar]; rfl
    | halt x w1 => rfl
  rw [e] at h ⊢
  cases hz : (zeroValue t).run P w with
  | halt x w1 => rw [hz] at h; exact h.elim
  | ok z w1 =>
    rw [hz] at h
    obtain rfl := zero_world hz
    exact ⟨h, rfl, by simp⟩

theorem Fr.put (hc : Check ops A K) {L : Array Bool} {a : Act} {w w' : World} (h : Fr ops L a w) (hL : L.size = ops.size) {i : Nat} {o : Oper} {s : Tmp} (ho : ops[i]? = some o) (hs : o.dst = some s) (hlt : s < a.tmps.size) {v : Value}
    (hb : w.heap.size ≤ w'.heap.size) (hv : isNew o = true → blkOf v = some w.heap.size ∧ w.heap.size < w'.heap.size) : Fr ops (L.setIfInBounds i true) (a.put o.dst v) w' := by
  have hsz := (Array.getElem?_eq_some_iff.1 ho).1
  have hLi : i < L.size := by rw [hL]; exact hsz
  have hev : ∀ (j : Nat) (oj : Oper) (t : Tmp), j ≠ i → ops[j]? = some oj → oj.dst = some t → (a.put o.dst v).eval (.tmp t) = a.eval (.tmp t) := fun j oj t hji hj ht =>
    Act.eval_put fun d hd he => by
      rw [hs] at hd; injection hd with hd; injection he with he
      have e : t = s := he.trans hd.symm
      subst e
      have h1 := hc.one i o t ho hs
      have h2 := hc.one j oj t hj ht
      rw [h1] at h2
      injection h2 with h2
      exact hji h2.symm
  have hsf : (a.put o.dst v).eval (.tmp s) = v := by rw [hs, eval_put_self hlt]
  constructor
  · intro j oj t hj hn hl ht
    by_cases hji : j = i
    · subst hji
      have e : oj = o := Option.some.inj (hj.symm.trans ho)
      subst e
      have e : t = s := Option.some.inj (ht.symm.trans hs)
      subst e
      rw [hsf]
      exact ⟨_, (hv hn).1, (hv hn).2⟩
    · rw [getD_set hLi, if_neg (Ne.symm hji)] at hl
      obtain ⟨b, hb1, hb2⟩ := h.lt j oj t hj hn hl ht
      rw [hev j oj t hji hj ht]
      exact ⟨b, hb1, by omega⟩
  · intro j k oj ok t u hjk hj hk hnj hnk hlj hlk ht hu
    by_cases hji : j = i
    · subst hji
      have e : oj = o := Option.some.inj (hj.symm.trans ho)
      subst e
      have e : t = s := Option.some.inj (ht.symm.trans hs)
      subst e
      rw [getD_set hLi, if_neg hjk] at hlk
      obtain ⟨b, hb1, hb2⟩ := h.lt k ok u hk hnk hlk hu
      rw [hsf, hev k ok u (Ne.symm hjk) hk hu, hb1, (hv hnj).1]
      intro e
      injection e with e
      omega
    · by_cases hki : k = i
      · subst hki
        have e : ok = o := Option.some.inj (hk.symm.trans ho)
        subst e
        have e : u = s := Option.some.inj (hu.symm.trans hs)
        subst e
        rw [getD_set hLi, if_neg (Ne.symm hji)] at hlj
        obtain ⟨b, hb1, hb2⟩ := h.lt j oj t hj hnj hlj ht
        rw [hsf, hev j oj t hji hj ht, hb1, (hv hnk).1]
        intro e
        injection e with e
        omega
      · rw [getD_set hLi, if_neg (Ne.symm hji)] at hlj
        rw [getD_set hLi, if_neg (Ne.symm hki)] at hlk
        rw [hev j oj t hji hj ht, hev k ok u hki hk hu]
        exact h.ne j k oj ok t u hjk hj hk hnj hnk hlj hlk ht hu

theorem finish2 (hc : Check ops A K) {Q : Exit → Act → World → Prop} {W : World} {a0 : Act} {sp : Nat → World → Value → Prop}
    (hsl : ∀ (i : Nat) (o : Oper) (s : Tmp), ops[i]? = some o → o.dst = some s → s < a0.tmps.size) (hnk : ∀ (i : Nat) (o : Oper), ops[i]? = some o → isNew o = true → at_ K i = 1)
    (hfin : ∀ w, Below W.heap.size W w → Fin ops sp (fun b w => Dist ops b → wpList P ops (NoPanic Q) ((tailL ops K).filterMap (ops[·]?)) b w) w (headL ops K) a0)
    {n : Nat} (L : Array Bool) (a : Act) (w : World) (hn : unl ops L = n) (hI : Inv ops K sp W a0 L a w) (hF : Fr ops L a w) (hdone : ∀ j, j < ops.size → at_ K j ≠ 2 → L.getD j false = true) : wpAny P .any ops (NoPanic Q) n L a w := by
  rw [← hn]
  refine tail_any hc (tailL ops K) L a w hI.size (List.Pairwise.sublist List.filter_sublist List.pairwise_lt_range) (fun j hj => ?_) (fun j hj => ?_) hI.closed ?_
  · unfold tailL at hj
    rw [List.mem_filter, List.mem_range] at hj
    exact ⟨hj.1, by simpa using hj.2⟩
  · unfold tailL
    rw [List.mem_filter, List.mem_range]
    constructor
    · intro hl
      refine ⟨hj, ?_⟩
      by_cases hk : at_ K j = 2
      · simp [hk]
      · rw [hdone j hj hk] at hl; cases hl
    · rintro ⟨_, hk⟩
      exact hI.notail j hj (by simpa using hk)
  · have hmemh : ∀ d, d ∈ headL ops K → d < ops.size ∧ at_ K d ≠ 2 := fun d hd => by
      unfold headL at hd
      rw [List.mem_filter, List.mem_range] at hd
      exact ⟨hd.1, by simpa using hd.2⟩
    have hw : ∀ d, d < ops.size → ∀ s, dstOf ops d = some s → writerOf ops s = some d := fun d hd s hs => by
      have ho : ops[d]? = some ops[d] := by rw [Array.getElem?_eq_getElem]
      refine hc.one d ops[d] s ho ?_
      unfold dstOf at hs
      rw [ho] at hs
      exact hs
    have hf := fin_apply (fun d => match dstOf ops d with | some s => a.eval (.tmp s) | none => undef) (headL ops K) a0 (hfin w hI.below) (fun d hd => by
      obtain ⟨hlt, hk⟩ := hmemh d hd
      have ho : ops[d]? = some ops[d] := by rw [Array.getElem?_eq_getElem]
      obtain ⟨s, hs⟩ := (hc.heads d ops[d] ho hk).1
      have hds : dstOf ops d = some s := by unfold dstOf; rw [ho]; exact hs
      simp only [hds]
      have h1 := hI.slot s
      rw [hw d hlt s hds] at h1
      simp only at h1
      rw [if_pos (hdone d hlt hk)] at h1
      exact h1)
    have hpf := puts_facts (ops := ops) (fun d => match dstOf ops d with | some s => a.eval (.tmp s) | none => undef) (headL ops K) a0
    have e : (headL ops K).foldl (fun b d => b.put (dstOf ops d) (match dstOf ops d with | some s => a.eval (.tmp s) | none => undef)) a0 = a := by
      refine act_ext (hpf.1.trans hI.defers.symm) (hpf.2.trans hI.tmps.symm) fun s => ?_
      have h1 := hI.slot s
      by_cases hx : ∃ d, d ∈ headL ops K ∧ dstOf ops d = some s
      · obtain ⟨d, hd, hds⟩ := hx
        obtain ⟨hlt, hk⟩ := hmemh d hd
        have hu : ∀ x ∈ headL ops K, dstOf ops x = some s → x = d := fun x hx hxs => by
          have h2 := hw x (hmemh x hx).1 s hxs
          rw [hw d hlt s hds] at h2
          injection h2 with h2
          exact h2.symm
        have hlts : s < a0.tmps.size := hsl d ops[d] s (by rw [Array.getElem?_eq_getElem]) (by unfold dstOf at hds; rw [Array.getElem?_eq_getElem hlt] at hds; exact hds)
        rw [puts_some _ s d hds _ _ hd hu hlts]
        simp only [hds]
      · rw [puts_none _ s _ _ fun d hd hds => hx ⟨d, hd, hds⟩]
        split at h1
        · rename_i d hd
          have hdlt : d < ops.size := by
            unfold writerOf at hd
            exact List.mem_range.1 (List.mem_of_find?_eq_some hd)
          have hds : dstOf ops d = some s := by
            unfold writerOf at hd
            have := List.find?_some hd
            unfold dstOf
            simpa using this
          have hnl : L.getD d false = false := by
            by_cases hk : at_ K d = 2
            · exact hI.notail d hdlt hk
            · exact absurd ⟨d, by unfold headL; rw [List.mem_filter, List.mem_range]; exact ⟨hdlt, by simpa using hk⟩, hds⟩ hx
          rw [if_neg (by rw [hnl]; exact Bool.false_ne_true)] at h1
          exact h1.symm
        · exact h1.symm
    rw [e] at hf
    have hK2 : ∀ i o, ops[i]? = some o → isNew o = true → L.getD i false = true := fun i o ho hn => hdone i (Array.getElem?_eq_some_iff.1 ho).1 (by rw [hnk i o ho hn]; decide)
    exact hf fun i j oi oj si sj hij hi hj hni hnj hsi hsj => hF.ne i j oi oj si sj hij hi hj hni hnj (hK2 i oi hi hni) (hK2 j oj hj hnj) hsi hsj

theorem inv_any2 (hc : Check ops A K) {Q : Exit → Act → World → Prop} {W : World} {a0 : Act} {sp : Nat → World → Value → Prop}
    (hsl : ∀ (i : Nat) (o : Oper) (s : Tmp), ops[i]? = some o → o.dst = some s → s < a0.tmps.size) (hnk : ∀ (i : Nat) (o : Oper), ops[i]? = some o → isNew o = true → at_ K i = 1)
    (hst : ∀ i, i < ops.size → at_ K i ≠ 2 → Stable (sp i) ∧ StepOK P ops A K W a0 sp i (sp i))
    (hfin : ∀ w, Below W.heap.size W w → Fin ops sp (fun b w => Dist ops b → wpList P ops (NoPanic Q) ((tailL ops K).filterMap (ops[·]?)) b w) w (headL ops K) a0) :
    ∀ (n : Nat) (L : Array Bool) (a : Act) (w : World), unl ops L = n → Inv ops K sp W a0 L a w → Fr ops L a w → wpAny P .any ops (NoPanic Q) n L a w := by
  intro n
  induction n with
  | zero =>
    intro L a w hn hI hF
    have hall : ∀ j, j < ops.size → L.getD j false = true := fun j hj => by
      unfold unl at hn
      rw [List.countP_eq_zero] at hn
      simpa using hn j (List.mem_range.2 hj)
    exact finish2 hc hsl hnk hfin L a w hn hI hF (fun j hj _ => hall j hj)
  | succ n ih =>
    intro L a w hn hI hF
    by_cases hdone : ∀ j, j < ops.size → at_ K j ≠ 2 → L.getD j false = true
    · exact finish2 hc hsl hnk hfin L a w hn hI hF hdone
    · have hex : ∃ j, j < ops.size ∧ at_ K j ≠ 2 ∧ L.getD j false = false := by
        apply Classical.byContradiction
        intro hno
        exact hdone fun j hj hk => by
          cases hl : L.getD j false with
          | true => rfl
          | false => exact absurd ⟨j, hj, hk, hl⟩ hno
      obtain ⟨j0, hj0⟩ := hex
      obtain ⟨h, ⟨hh1, hh2, hh3⟩, hmin⟩ := least_unl (p := fun j => j < ops.size ∧ at_ K j ≠ 2 ∧ L.getD j false = false) j0 hj0
      obtain ⟨oh, hoh⟩ : ∃ o, ops[h]? = some o := ⟨ops[h], by rw [Array.getElem?_eq_getElem]⟩
      have hhr : h ∈ Region.ready .any ops L := by
        have hL : h < L.size := by rw [hI.size]; exact hh1
        refine mem_ready.2 ⟨by simp [hL] at hh3 ⊢; exact hh3, oh, hoh, fun e he hb => ?_⟩
        have hlt := (hc.anc h oh hoh).2 e he hb
        have hk := (hc.heads h oh hoh hh2).2 e he hb
        cases hl : L.getD e.on false with
        | true => rfl
        | false => exact absurd ⟨by omega, hk, hl⟩ (hmin e.on hlt)
      have hlt0 : ∀ (i : Nat) (o : Oper) (s : Tmp), ops[i]? = some o → o.dst = some s → s < a.tmps.size := fun i o s ho hs => by rw [hI.tmps]; exact hsl i o s ho hs
      by_cases hpure : ∃ i, i ∈ Region.ready .any ops L ∧ at_ K i = 0
      · obtain ⟨i, hi, hk0⟩ := hpure
        obtain ⟨_, o, ho, hall⟩ := mem_ready.1 hi
        have hlt := (Array.getElem?_eq_some_iff.1 ho).1
        have hk : at_ K i ≠ 2 := by omega
        obtain ⟨s, hs⟩ := (hc.heads i o ho hk).1
        have hstep := (hst i hlt hk).2
        unfold StepOK at hstep
        simp only [ho] at hstep
        have h1 := hstep a w hI.below (hI.reads hc ho hi hk)
        rw [if_pos hk0] at h1
        obtain ⟨v, hy, hv⟩ := h1
        have hcount := unl_set (ops := ops) (i := i) hlt (by rw [hI.size]; exact hlt) (getD_of_ready hi)
        refine wpAny_first ho (fun j o cs b hj => Region.noSelect_spec hc.sel j o cs b hj) (fun c a w hq => hq.elim) n L a w (fun j oj hj hne hun hno => ?_) hi hy ?_
        · rcases hc.pure_ i o ho hk0 j oj hj hne with ⟨e, he, hb, hon⟩ | hb | hap
          · exact absurd hon (hno e he hb)
          · have := closed_anc hc hI.closed i o ho hall j hb
            have hjl : j < L.size := by rw [hI.size]; exact (Array.getElem?_eq_some_iff.1 hj).1
            simp [hjl] at this hun
            rw [this] at hun
            cases hun
          · exact hap
        · exact ih _ _ _ (by omega) (hI.put hc ho hi hk hs (hsl i o s ho hs) (fun j hj hkj => (hst j hj hkj).1) (Below.refl _ _) hI.below hv)
            (hF.put hc hI.size ho hs (hlt0 i o s ho hs) (Nat.le_refl _) fun hn => by rw [hnk i o ho hn] at hk0; cases hk0)
      · refine ⟨fun h0 => absurd hhr (by rw [h0]; exact List.not_mem_nil), fun i hi => ?_⟩
        obtain ⟨_, o, ho, hall⟩ := mem_ready.1 hi
        have hlt := (Array.getElem?_eq_some_iff.1 ho).1
        have hk0 : at_ K i ≠ 0 := fun e => hpure ⟨i, hi, e⟩
        have hk : at_ K i ≠ 2 := by
          intro hk2
          have hkh : at_ K h ≠ 0 := fun e => hpure ⟨h, hhr, e⟩
          have := closed_anc hc hI.closed i o ho hall h ((hc.tails i o ho hk2).1 h hh1 hkh hh2)
          rw [hh3] at this
          cases this
        obtain ⟨s, hs⟩ := (hc.heads i o ho hk).1
        have hstep := (hst i hlt hk).2
        unfold StepOK at hstep
        simp only [ho] at hstep
        have h1 := hstep a w hI.below (hI.reads hc ho hi hk)
        rw [if_neg hk0] at h1
        have hcount := unl_set (ops := ops) (i := i) hlt (by rw [hI.size]; exact hlt) (getD_of_ready hi)
        unfold wpOp
        simp only [ho]
        split
        · rename_i hw
          by_cases hn : isNew o = true
          · exact .inl (wp_of_gives (gives_new hn (h1.1 hw)) fun v w' ⟨⟨hb, hv⟩, hnw⟩ => ih _ _ _ (by omega) (hI.put hc ho hi hk hs (hsl i o s ho hs) (fun j hj hkj => (hst j hj hkj).1) hb (hI.below.trans (hb.mono hI.below.size)) hv)
              (hF.put hc hI.size ho hs (hlt0 i o s ho hs) hb.size fun _ => hnw))
          · exact .inl (wp_of_gives (h1.1 hw) fun v w' ⟨hb, hv⟩ => ih _ _ _ (by omega) (hI.put hc ho hi hk hs (hsl i o s ho hs) (fun j hj hkj => (hst j hj hkj).1) hb (hI.below.trans (hb.mono hI.below.size)) hv)
              (hF.put hc hI.size ho hs (hlt0 i o s ho hs) hb.size fun h => absurd h hn))
        · rename_i hw
          exact ih _ _ _ (by omega) (hI.put hc ho hi hk hs (hsl i o s ho hs) (fun j hj hkj => (hst j hj hkj).1) (Below.refl _ _) hI.below (h1.2 (by simpa using hw)))
            (hF.put hc hI.size ho hs (hlt0 i o s ho hs) (Nat.le_refl _) fun hn => by
              have := (isNew_spec hn).2
              simp [Region.wanted, this] at hw)

def newB (ops : Array Oper) (K : List Nat) : Bool := (List.range ops.size).all fun i => match ops[i]? with | some o => !isNew o || at_ K i == 1 | none => true

theorem rep_false (n j : Nat) : (Array.replicate n false).getD j false = false := by
  rcases Nat.lt_or_ge j n with hj | hj <;> simp [hj]

theorem region2_ {l : List Oper} {id n : Nat} {Q : Exit → Act → World → Prop} {a : Act} {w : World} (A K : List Nat) (D : List Tmp) (R : List (List (Tmp × Option Nat))) (m : Nat) (hm : P.follows .mixedOrders = true)
    (hB : (allB l.toArray n A K D R m && newB l.toArray K) = true) (hn : a.tmps.size = n)
    (h : ∀ W, W = w.drew → Chain' P l.toArray W a (fun b w => Dist l.toArray b → wpList P l.toArray (NoPanic Q) (l.drop m) b w) ((headL l.toArray K).map fun i => (i, at_ K i, D.getD i 0, R.getD i [])) ((headL l.toArray K).map fun i => (i, at_ K i, D.getD i 0, R.getD i [])) (fun _ _ _ => True)) : (Code.region id l.toArray true).wp P Q a w := by
  simp only [allB, Bool.and_eq_true] at hB
  obtain ⟨⟨⟨⟨⟨h1, h2⟩, h3⟩, h4⟩, h5⟩, h6⟩ := hB
  have hc := check_of h1
  refine wp_region_noPanic (wp_region_any hm ?_)
  have hsl : ∀ (i : Nat) (o : Oper) (s : Tmp), l.toArray[i]? = some o → o.dst = some s → s < a.tmps.size := fun i o s ho hs => by
    have hmem : o ∈ l.toArray.toList := by simpa using Array.mem_of_getElem? ho
    have := List.all_eq_true.1 h2 o hmem
    simp only [hs, decide_eq_true_eq] at this
    rw [hn]; exact this
  have hnk : ∀ (i : Nat) (o : Oper), l.toArray[i]? = some o → isNew o = true → at_ K i = 1 := fun i o ho hno => by
    have := List.all_eq_true.1 h6 i (List.mem_range.2 (Array.getElem?_eq_some_iff.1 ho).1)
    simpa [ho, hno] using this
  have hmem : ∀ i, i < l.toArray.size → at_ K i ≠ 2 → i ∈ headL l.toArray K := fun i hi hk => by
    unfold headL
    rw [List.mem_filter, List.mem_range]
    exact ⟨hi, by simpa using hk⟩
  have hh : Chain P l.toArray A K w.drew a (headL l.toArray K) (fun b w => Dist l.toArray b → wpList P l.toArray (NoPanic Q) ((tailL l.toArray K).filterMap (l.toArray[·]?)) b w) (headL l.toArray K) (fun _ _ _ => True) := by
    refine chain_of (D := D) h3 (fun i hi => ?_) _ _ (fun i hi => ?_) ?_
    · have := List.all_eq_true.1 h4 i hi
      simpa using this
    · unfold headL at hi
      rw [List.mem_filter, List.mem_range] at hi
      exact hi.1
    · rw [beq_iff_eq] at h5
      rw [h5]
      have := drop_range l m
      rw [show l.toArray.size = l.length from rfl, this]
      exact h _ rfl
  obtain ⟨sp, _, h7, h8⟩ := chain_all hc (headL l.toArray K) _ (List.Pairwise.sublist List.filter_sublist List.pairwise_lt_range) (fun i hi => by
    unfold headL at hi
    rw [List.mem_filter, List.mem_range] at hi
    exact hi.1) hh
  have hrep := rep_false l.toArray.size
  have hunl : unl l.toArray (Array.replicate l.toArray.size false) = l.toArray.size := by
    unfold unl
    rw [List.countP_eq_length.2 fun i _ => by rw [hrep i, Bool.not_false], List.length_range]
  refine inv_any2 hc hsl hnk (fun i hi hk => h7 i (hmem i hi hk)) h8 _ _ _ _ hunl ⟨by simp, fun j oj _ hl => absurd hl (by rw [hrep j]; exact Bool.false_ne_true), fun j _ _ => hrep j, rfl, rfl, Below.refl _ _, fun s => ?_⟩
    ⟨fun i o s _ _ hl => absurd hl (by rw [hrep i]; exact Bool.false_ne_true), fun i j oi oj si sj _ _ _ _ _ hl => absurd hl (by rw [hrep i]; exact Bool.false_ne_true)⟩
  split
  · rename_i d _
    rw [hrep d]
    exact if_neg Bool.false_ne_true ▸ rfl
  · rfl
end
end Go.Proofs.Ytldnjbpcdojffaa.Rg
