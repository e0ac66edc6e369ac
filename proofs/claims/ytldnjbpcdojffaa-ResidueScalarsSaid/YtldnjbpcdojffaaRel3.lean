/- A region that draws its order, where an operation may write on into a row of the call's own: what all operations keep is a relation St between worlds that the caller names. Conditions: none. -/
import Derived.Test.YtldnjbpcdojffaaRel2
namespace Go.Proofs.Ytldnjbpcdojffaa.Rg
set_option linter.unusedVariables false
set_option linter.unusedSimpArgs false
open Go Go.RowKit

section
variable {P : Program} {ops : Array Oper} {A K : List Nat} {St : World → World → Prop}

def StableS (St : World → World → Prop) (g : World → Value → Prop) : Prop := ∀ w w' v, St w w' → g w v → g w' v
theorem stable_isS (u : Value) : StableS St (Is u) := fun _ _ _ _ h => h

def StepOKS (St : World → World → Prop) (P : Program) (ops : Array Oper) (A K : List Nat) (W : World) (a0 : Act) (sp : Nat → World → Value → Prop) (i : Nat) (g : World → Value → Prop) : Prop :=
  match ops[i]? with
  | none => True
  | some o => ∀ a w, Below W.heap.size W w → ReadL ops A sp a0 i a w (o.looksAt ops) →
    if at_ K i = 0 then ∃ v, Yields P ops o v a ∧ g w v
    else (Region.wanted o (yielded ops a.tmps) = true → gives P o a w fun v w' => St w w' ∧ g w' v) ∧ (Region.wanted o (yielded ops a.tmps) = false → g w undef)

def ChainS (St : World → World → Prop) (P : Program) (ops : Array Oper) (A K : List Nat) (W : World) (a0 : Act) (hd : List Nat) (T : Act → World → Prop) : List Nat → (Nat → World → Value → Prop) → Prop
  | [], sp => ∀ w, Below W.heap.size W w → Fin ops sp T w hd a0
  | i :: r, sp => ∃ g, StableS St g ∧ StepOKS St P ops A K W a0 sp i g ∧ ChainS St P ops A K W a0 hd T r fun j => if j = i then g else sp j

theorem step_congrS {W : World} {a0 : Act} {sp sp' : Nat → World → Value → Prop} {i : Nat} {g : World → Value → Prop} (h : ∀ d, (at_ A i).testBit d = true → sp' d = sp d)
    (hs : StepOKS St P ops A K W a0 sp i g) : StepOKS St P ops A K W a0 sp' i g := by
  unfold StepOKS at *
  split
  · trivial
  · rename_i o ho
    simp only [ho] at hs
    exact fun a w hB hr => hs a w hB (read_congr h _ hr)

theorem chain_allS (hc : Check ops A K) {W : World} {a0 : Act} {hd : List Nat} {T : Act → World → Prop} : ∀ (todo : List Nat) (sp : Nat → World → Value → Prop), todo.Pairwise (· < ·) → (∀ i ∈ todo, i < ops.size) →
    ChainS St P ops A K W a0 hd T todo sp → ∃ sp' : Nat → World → Value → Prop, (∀ j, j ∉ todo → sp' j = sp j) ∧ (∀ i ∈ todo, StableS St (sp' i) ∧ StepOKS St P ops A K W a0 sp' i (sp' i)) ∧ ∀ w, Below W.heap.size W w → Fin ops sp' T w hd a0
  | [], sp, _, _, h => ⟨sp, fun _ _ => rfl, fun _ hi => (nomatch hi), h⟩
  | i :: r, sp, hp, hlt, h => by
    obtain ⟨g, hg, hs, h⟩ := h
    rw [List.pairwise_cons] at hp
    obtain ⟨sp', h1, h2, h3⟩ := chain_allS hc r _ hp.2 (fun j hj => hlt j (by simp [hj])) h
    have hir : i ∉ r := fun hi => Nat.lt_irrefl _ (hp.1 i hi)
    have hi : sp' i = g := by rw [h1 i hir, if_pos rfl]
    have hlt' := hlt i (by simp)
    have hk : ∀ d, (at_ A i).testBit d = true → sp' d = sp d := fun d hdd => by
      have hlt := anc_lt hc i ops[i] (by rw [Array.getElem?_eq_getElem hlt']) d hdd
      rw [h1 d (fun hd => by have := hp.1 d hd; omega), if_neg (by omega)]
    refine ⟨sp', fun j hj => ?_, fun j hj => ?_, h3⟩
    · rw [List.mem_cons, not_or] at hj
      rw [h1 j hj.2, if_neg hj.1]
    · rcases List.mem_cons.1 hj with rfl | hj
      · rw [hi]; exact ⟨hg, step_congrS hk hs⟩
      · exact h2 j hj

theorem Inv.putS (hc : Check ops A K) {sp : Nat → World → Value → Prop} {W : World} {a0 : Act} {L : Array Bool} {a : Act} {w w' : World} (h : Inv ops K sp W a0 L a w) {i : Nat} {o : Oper} {s : Tmp} (ho : ops[i]? = some o)
    (hr : i ∈ Region.ready .any ops L) (hk : at_ K i ≠ 2) (hs : o.dst = some s) (hlt : s < a0.tmps.size) {v : Value} (hst : ∀ j, j < ops.size → at_ K j ≠ 2 → StableS St (sp j)) (hb : St w w') (hb0 : Below W.heap.size W w') (hv : sp i w' v) :
    Inv ops K sp W a0 (L.setIfInBounds i true) (a.put o.dst v) w' := by
  have hsz := (Array.getElem?_eq_some_iff.1 ho).1
  have hL : i < L.size := by rw [h.size]; exact hsz
  obtain ⟨_, o', ho', hall⟩ := mem_ready.1 hr
  have : o' = o := Option.some.inj (ho'.symm.trans ho)
  subst this
  refine ⟨by simp [h.size], fun j oj hj hl e he hbd => ?_, fun j hj hkj => ?_, ?_, ?_, hb0, fun t => ?_⟩
  · rw [getD_set hL] at hl ⊢
    by_cases hij : i = j
    · subst hij
      have : oj = o' := Option.some.inj (hj.symm.trans ho)
      subst this
      split
      · rfl
      · exact hall e he hbd
    · rw [if_neg hij] at hl
      split
      · rfl
      · exact h.closed j oj hj hl e he hbd
  · rw [getD_set hL, if_neg (fun (e : i = j) => hk (e ▸ hkj))]; exact h.notail j hj hkj
  · rw [hs]; exact h.defers
  · rw [hs]; simp [Act.put, h.tmps]
  · have h1 := h.slot t
    have hw := hc.one i o' s ho hs
    by_cases hst' : s = t
    · subst hst'
      rw [hw]
      simp only
      rw [getD_set hL, if_pos rfl, if_pos rfl, hs, eval_put_self (by rw [h.tmps]; exact hlt)]
      exact hv
    · have hev : (a.put o'.dst v).eval (.tmp t) = a.eval (.tmp t) := Act.eval_put (fun d hd he => by rw [hs] at hd; injection hd with hd; injection he with he; exact hst' (hd.trans he.symm))
      rw [hev]
      split
      · rename_i d hd
        simp only [hd] at h1
        rw [getD_set hL]
        have hdlt : d < ops.size := by
          unfold writerOf at hd
          exact List.mem_range.1 (List.mem_of_find?_eq_some hd)
        by_cases hid : i = d
        · subst hid
          exfalso
          unfold writerOf at hd
          have := List.find?_some hd
          simp only [ho, Option.bind_some, hs, beq_iff_eq, Option.some.injEq] at this
          exact hst' this
        · rw [if_neg hid]
          split
          · rename_i hld
            rw [if_pos hld] at h1
            refine hst d hdlt (fun hk2 => ?_) _ _ _ hb h1
            rw [h.notail d hdlt hk2] at hld
            cases hld
          · rename_i hld
            rw [if_neg hld] at h1
            exact h1
      · rename_i hd
        simp only [hd] at h1
        exact h1

theorem inv_anyS (hrf : ∀ w, St w w) {W0 : Nat} (hsb : ∀ w w', St w w' → Below W0 w w') (hc : Check ops A K) {Q : Exit → Act → World → Prop} {W : World} (hW : W0 = W.heap.size) {a0 : Act} {sp : Nat → World → Value → Prop}
    (hsl : ∀ (i : Nat) (o : Oper) (s : Tmp), ops[i]? = some o → o.dst = some s → s < a0.tmps.size) (hnk : ∀ (i : Nat) (o : Oper), ops[i]? = some o → isNew o = true → at_ K i = 1)
    (hst : ∀ i, i < ops.size → at_ K i ≠ 2 → StableS St (sp i) ∧ StepOKS St P ops A K W a0 sp i (sp i))
    (hfin : ∀ w, Below W.heap.size W w → Fin ops sp (fun b w => Dist ops b → wpList P ops (NoPanic Q) ((tailL ops K).filterMap (ops[·]?)) b w) w (headL ops K) a0) :
    ∀ (n : Nat) (L : Array Bool) (a : Act) (w : World), unl ops L = n → Inv ops K sp W a0 L a w → Fr ops L a w → wpAny P .any ops (NoPanic Q) n L a w := by
  intro n
  induction n with
  | zero =>
    intro L a w hn hI hF
    have hall : ∀ j, j < ops.size → L.getD j false = true := fun j hj => by
      unfold unl at hn
      rw [List.countP_eq_zero] at hn
      simpa using hn j (List.mem_range.2 hj)
    exact finish2 hc hsl hnk hfin L a w hn hI hF (fun j hj _ => hall j hj)
  | succ n ih =>
    intro L a w hn hI hF
    by_cases hdone : ∀ j, j < ops.size → at_ K j ≠ 2 → L.getD j false = true
    · exact finish2 hc hsl hnk hfin L a w hn hI hF hdone
    · have hex : ∃ j, j < ops.size ∧ at_ K j ≠ 2 ∧ L.getD j false = false := by
        apply Classical.byContradiction
        intro hno
        exact hdone fun j hj hk => by
          cases hl : L.getD j false with
          | true => rfl
          | false => exact absurd ⟨j, hj, hk, hl⟩ hno
      obtain ⟨j0, hj0⟩ := hex
      obtain ⟨h, ⟨hh1, hh2, hh3⟩, hmin⟩ := least_unl (p := fun j => j < ops.size ∧ at_ K j ≠ 2 ∧ L.getD j false = false) j0 hj0
      obtain ⟨oh, hoh⟩ : ∃ o, ops[h]? = some o := ⟨ops[h], by rw [Array.getElem?_eq_getElem]⟩
      have hhr : h ∈ Region.ready .any ops L := by
        have hL : h < L.size := by rw [hI.size]; exact hh1
        refine mem_ready.2 ⟨by simp [hL] at hh3 ⊢; exact hh3, oh, hoh, fun e he hb => ?_⟩
        have hlt := (hc.anc h oh hoh).2 e he hb
        have hk := (hc.heads h oh hoh hh2).2 e he hb
        cases hl : L.getD e.on false with
        | true => rfl
        | false => exact absurd ⟨by omega, hk, hl⟩ (hmin e.on hlt)
      have hlt0 : ∀ (i : Nat) (o : Oper) (s : Tmp), ops[i]? = some o → o.dst = some s → s < a.tmps.size := fun i o s ho hs => by rw [hI.tmps]; exact hsl i o s ho hs
      by_cases hpure : ∃ i, i ∈ Region.ready .any ops L ∧ at_ K i = 0
      · obtain ⟨i, hi, hk0⟩ := hpure
        obtain ⟨_, o, ho, hall⟩ := mem_ready.1 hi
        have hlt := (Array.getElem?_eq_some_iff.1 ho).1
        have hk : at_ K i ≠ 2 := by omega
        obtain ⟨s, hs⟩ := (hc.heads i o ho hk).1
        have hstep := (hst i hlt hk).2
        unfold StepOKS at hstep
        simp only [ho] at hstep
        have h1 := hstep a w hI.below (hI.reads hc ho hi hk)
        rw [if_pos hk0] at h1
        obtain ⟨v, hy, hv⟩ := h1
        have hcount := unl_set (ops := ops) (i := i) hlt (by rw [hI.size]; exact hlt) (getD_of_ready hi)
        refine wpAny_first ho (fun j o cs b hj => Region.noSelect_spec hc.sel j o cs b hj) (fun c a w hq => hq.elim) n L a w (fun j oj hj hne hun hno => ?_) hi hy ?_
        · rcases hc.pure_ i o ho hk0 j oj hj hne with ⟨e, he, hb, hon⟩ | hb | hap
          · exact absurd hon (hno e he hb)
          · have := closed_anc hc hI.closed i o ho hall j hb
            have hjl : j < L.size := by rw [hI.size]; exact (Array.getElem?_eq_some_iff.1 hj).1
            simp [hjl] at this hun
            rw [this] at hun
            cases hun
          · exact hap
        · exact ih _ _ _ (by omega) (hI.putS (St := St) hc ho hi hk hs (hsl i o s ho hs) (fun j hj hkj => (hst j hj hkj).1) (hrf _) hI.below hv)
            (hF.put hc hI.size ho hs (hlt0 i o s ho hs) (Nat.le_refl _) fun hn => by rw [hnk i o ho hn] at hk0; cases hk0)
      · refine ⟨fun h0 => absurd hhr (by rw [h0]; exact List.not_mem_nil), fun i hi => ?_⟩
        obtain ⟨_, o, ho, hall⟩ := mem_ready.1 hi
        have hlt := (Array.getElem?_eq_some_iff.1 ho).1
        have hk0 : at_ K i ≠ 0 := fun e => hpure ⟨i, hi, e⟩
        have hk : at_ K i ≠ 2 := by
          intro hk2
          have hkh : at_ K h ≠ 0 := fun e => hpure ⟨h, hhr, e⟩
          have := closed_anc hc hI.closed i o ho hall h ((hc.tails i o ho hk2).1 h hh1 hkh hh2)
          rw [hh3] at this
          cases this
        obtain ⟨s, hs⟩ := (hc.heads i o ho hk).1
        have hstep := (hst i hlt hk).2
        unfold StepOKS at hstep
        simp only [ho] at hstep
        have h1 := hstep a w hI.below (hI.reads hc ho hi hk)
        rw [if_neg hk0] at h1
        have hcount := unl_set (ops := ops) (i := i) hlt (by rw [hI.size]; exact hlt) (getD_of_ready hi)
        unfold wpOp
        simp only [ho]
        split
        · rename_i hw
          by_cases hn : isNew o = true
          · exact .inl (wp_of_gives (gives_new hn (h1.1 hw)) fun v w' ⟨⟨hb, hv⟩, hnw⟩ => ih _ _ _ (by omega) (hI.putS (St := St) hc ho hi hk hs (hsl i o s ho hs) (fun j hj hkj => (hst j hj hkj).1) hb (hI.below.trans (hW ▸ hsb _ _ hb)) hv)
              (hF.put hc hI.size ho hs (hlt0 i o s ho hs) (hsb _ _ hb).size fun _ => hnw))
          · exact .inl (wp_of_gives (h1.1 hw) fun v w' ⟨hb, hv⟩ => ih _ _ _ (by omega) (hI.putS (St := St) hc ho hi hk hs (hsl i o s ho hs) (fun j hj hkj => (hst j hj hkj).1) hb (hI.below.trans (hW ▸ hsb _ _ hb)) hv)
              (hF.put hc hI.size ho hs (hlt0 i o s ho hs) (hsb _ _ hb).size fun h => absurd h hn))
        · rename_i hw
          exact ih _ _ _ (by omega) (hI.putS (St := St) hc ho hi hk hs (hsl i o s ho hs) (fun j hj hkj => (hst j hj hkj).1) (hrf _) hI.below (h1.2 (by simpa using hw)))
            (hF.put hc hI.size ho hs (hlt0 i o s ho hs) (Nat.le_refl _) fun hn => by
              have := (isNew_spec hn).2
              simp [Region.wanted, this] at hw)

def StepS (St : World → World → Prop) (P : Program) (ops : Array Oper) (W : World) (a0 : Act) (sp : Nat → World → Value → Prop) (k : Nat) (rd : List (Tmp × Option Nat)) (o : Oper) (g : World → Value → Prop) : Prop :=
  ∀ a w, Below W.heap.size W w → RdL sp a0 a w rd →
    if k = 0 then ∃ v, Yields P ops o v a ∧ g w v
    else (Region.wanted o (yielded ops a.tmps) = true → gives P o a w fun v w' => St w w' ∧ g w' v) ∧ (Region.wanted o (yielded ops a.tmps) = false → g w undef)

def ChainS' (St : World → World → Prop) (P : Program) (ops : Array Oper) (W : World) (a0 : Act) (T : Act → World → Prop) (hd : List (Nat × Nat × Tmp × List (Tmp × Option Nat))) : List (Nat × Nat × Tmp × List (Tmp × Option Nat)) → (Nat → World → Value → Prop) → Prop
  | [], sp => ∀ w, Below W.heap.size W w → FinD sp T w hd a0
  | (i, k, _, rd) :: r, sp => ∃ g, StableS St g ∧ (∀ o, ops[i]? = some o → StepS St P ops W a0 sp k rd o g) ∧ ChainS' St P ops W a0 T hd r fun j => if j = i then g else sp j

theorem chain_ofS {W : World} {a0 : Act} {hd : List Nat} {T : Act → World → Prop} {R : List (List (Tmp × Option Nat))} {D : List Tmp} (hR : readsB ops A R = true) (hD : ∀ i ∈ hd, dstOf ops i = some (D.getD i 0)) : ∀ (todo : List Nat) (sp : Nat → World → Value → Prop), (∀ i ∈ todo, i < ops.size) →
    ChainS' St P ops W a0 T (hd.map fun i => (i, at_ K i, D.getD i 0, R.getD i [])) (todo.map fun i => (i, at_ K i, D.getD i 0, R.getD i [])) sp → ChainS St P ops A K W a0 hd T todo sp
  | [], _, _, h => fun w hb => fin_of hd a0 hD (h w hb)
  | i :: r, sp, hlt, h => by
    obtain ⟨g, hg, hs, h⟩ := h
    refine ⟨g, hg, ?_, chain_ofS hR hD r _ (fun j hj => hlt j (by simp [hj])) h⟩
    have hi := hlt i (by simp)
    have ho : ops[i]? = some ops[i] := by rw [Array.getElem?_eq_getElem]
    have h1 := hs _ ho
    unfold StepOKS
    simp only [ho]
    intro a w hB hr
    refine h1 a w hB ?_
    have h2 := List.all_eq_true.1 hR i (List.mem_range.2 hi)
    rw [beq_iff_eq] at h2
    rw [← h2]
    unfold readsOf
    simp only [ho]
    exact rdL_of _ hr

theorem regionS_ (St : World → World → World → Prop) (hrf : ∀ W w, St W w w) (hsb : ∀ W w w', St W w w' → Below W.heap.size w w') {l : List Oper} {id n : Nat} {Q : Exit → Act → World → Prop} {a : Act} {w : World} (A K : List Nat) (D : List Tmp) (R : List (List (Tmp × Option Nat))) (m : Nat) (hm : P.follows .mixedOrders = true)
    (hB : (allB l.toArray n A K D R m && newB l.toArray K) = true) (hn : a.tmps.size = n)
    (h : ∀ W, W = w.drew → ChainS' (St W) P l.toArray W a (fun b w => Dist l.toArray b → wpList P l.toArray (NoPanic Q) (l.drop m) b w) ((headL l.toArray K).map fun i => (i, at_ K i, D.getD i 0, R.getD i [])) ((headL l.toArray K).map fun i => (i, at_ K i, D.getD i 0, R.getD i [])) (fun _ _ _ => True)) : (Code.region id l.toArray true).wp P Q a w := by
  simp only [allB, Bool.and_eq_true] at hB
  obtain ⟨⟨⟨⟨⟨h1, h2⟩, h3⟩, h4⟩, h5⟩, h6⟩ := hB
  have hc := check_of h1
  refine wp_region_noPanic (wp_region_any hm ?_)
  have hsl : ∀ (i : Nat) (o : Oper) (s : Tmp), l.toArray[i]? = some o → o.dst = some s → s < a.tmps.size := fun i o s ho hs => by
    have hmem : o ∈ l.toArray.toList := by simpa using Array.mem_of_getElem? ho
    have := List.all_eq_true.1 h2 o hmem
    simp only [hs, decide_eq_true_eq] at this
    rw [hn]; exact this
  have hnk : ∀ (i : Nat) (o : Oper), l.toArray[i]? = some o → isNew o = true → at_ K i = 1 := fun i o ho hno => by
    have := List.all_eq_true.1 h6 i (List.mem_range.2 (Array.getElem?_eq_some_iff.1 ho).1)
    simpa [ho, hno] using this
  have hmem : ∀ i, i < l.toArray.size → at_ K i ≠ 2 → i ∈ headL l.toArray K := fun i hi hk => by
    unfold headL
    rw [List.mem_filter, List.mem_range]
    exact ⟨hi, by simpa using hk⟩
  have hh : ChainS (St w.drew) P l.toArray A K w.drew a (headL l.toArray K) (fun b w => Dist l.toArray b → wpList P l.toArray (NoPanic Q) ((tailL l.toArray K).filterMap (l.toArray[·]?)) b w) (headL l.toArray K) (fun _ _ _ => True) := by
    refine chain_ofS (D := D) h3 (fun i hi => ?_) _ _ (fun i hi => ?_) ?_
    · have := List.all_eq_true.1 h4 i hi
      simpa using this
    · unfold headL at hi
      rw [List.mem_filter, List.mem_range] at hi
      exact hi.1
    · rw [beq_iff_eq] at h5
      rw [h5]
      have := drop_range l m
      rw [show l.toArray.size = l.length from rfl, this]
      exact h _ rfl
  obtain ⟨sp, _, h7, h8⟩ := chain_allS hc (headL l.toArray K) _ (List.Pairwise.sublist List.filter_sublist List.pairwise_lt_range) (fun i hi => by
    unfold headL at hi
    rw [List.mem_filter, List.mem_range] at hi
    exact hi.1) hh
  have hrep := rep_false l.toArray.size
  have hunl : unl l.toArray (Array.replicate l.toArray.size false) = l.toArray.size := by
    unfold unl
    rw [List.countP_eq_length.2 fun i _ => by rw [hrep i, Bool.not_false], List.length_range]
  refine inv_anyS (hrf w.drew) (hsb w.drew) hc rfl hsl hnk (fun i hi hk => h7 i (hmem i hi hk)) h8 _ _ _ _ hunl ⟨by simp, fun j oj _ hl => absurd hl (by rw [hrep j]; exact Bool.false_ne_true), fun j _ _ => hrep j, rfl, rfl, Below.refl _ _, fun s => ?_⟩
    ⟨fun i o s _ _ hl => absurd hl (by rw [hrep i]; exact Bool.false_ne_true), fun i j oi oj si sj _ _ _ _ _ hl => absurd hl (by rw [hrep i]; exact Bool.false_ne_true)⟩
  split
  · rename_i d _
    rw [hrep d]
    exact if_neg Bool.false_ne_true ▸ rfl
  · rfl

section
variable {W : World} {a0 : Act} {T : Act → World → Prop} {hd r : List (Nat × Nat × Tmp × List (Tmp × Option Nat))} {t : Tmp} {sp : Nat → World → Value → Prop} {i : Nat} {rd : List (Tmp × Option Nat)} {o : Oper} {u : Value}

/-- One that yields u in whatever world. -/
theorem ch_pureS (ho : ops[i]? = some o) (h : ∀ a w, RdL sp a0 a w rd → Yields P ops o u a) (h2 : ChainS' St P ops W a0 T hd r fun j => if j = i then Is u else sp j) : ChainS' St P ops W a0 T hd ((i, 0, t, rd) :: r) sp :=
  ⟨Is u, stable_isS u, fun o' ho' a w _ hr => by
    have : o' = o := Option.some.inj (ho'.symm.trans ho)
    subst this
    rw [if_pos rfl]
    exact ⟨u, h a w hr, rfl⟩, h2⟩

/-- One whose value meets g. -/
theorem ch_relS (g : World → Value → Prop) (hg : StableS St g) (ho : ops[i]? = some o) (hw : ∀ a w, RdL sp a0 a w rd → Region.wanted o (yielded ops a.tmps) = true) (h : ∀ a w, Below W.heap.size W w → RdL sp a0 a w rd → gives P o a w fun v w' => g w' v ∧ St w w')
    (h2 : ChainS' St P ops W a0 T hd r fun j => if j = i then g else sp j) : ChainS' St P ops W a0 T hd ((i, 1, t, rd) :: r) sp :=
  ⟨g, hg, fun o' ho' a w hB hr => by
    have : o' = o := Option.some.inj (ho'.symm.trans ho)
    subst this
    rw [if_neg (by decide)]
    refine ⟨fun _ => ?_, fun h0 => absurd h0 (by rw [hw a w hr]; decide)⟩
    have := h a w hB hr
    unfold gives at *
    generalize (execOp a.eval o').run P w = r at *
    cases r with
    | ok n w' =>
      cases n with
      | value v => exact ⟨this.2, this.1⟩
      | skip => exact ⟨this.2, this.1⟩
      | enter f args => exact Calls.mono this fun e w'' ⟨v, he, hv, hb⟩ => ⟨v, he, hb, hv⟩
      | _ => exact this.elim
    | halt x w' => exact this.elim, h2⟩
theorem ch_defS (ho : ops[i]? = some o) (hcv : ∀ w w', Below W.heap.size W w → Below w.heap.size w w' → St w w') (hw : ∀ a w, RdL sp a0 a w rd → Region.wanted o (yielded ops a.tmps) = true) (h : ∀ a w, Below W.heap.size W w → RdL sp a0 a w rd → gives P o a w fun v w' => v = u ∧ Below w.heap.size w w')
    (h2 : ChainS' St P ops W a0 T hd r fun j => if j = i then Is u else sp j) : ChainS' St P ops W a0 T hd ((i, 1, t, rd) :: r) sp := by
  refine ch_relS (Is u) (stable_isS u) ho hw (fun a w hB hr => ?_) h2
  have := h a w hB hr
  unfold gives at *
  generalize (execOp a.eval o).run P w = r at *
  cases r with
  | ok n w' =>
    cases n with
    | value v => exact ⟨this.1, hcv _ _ hB this.2⟩
    | skip => exact ⟨this.1, hcv _ _ hB this.2⟩
    | enter f args => exact Calls.mono this fun e w'' ⟨v, he, hv, hb⟩ => ⟨v, he, hv, hcv _ _ hB hb⟩
    | _ => exact this.elim
  | halt x w' => exact this.elim
end
end
end Go.Proofs.Ytldnjbpcdojffaa.Rg
