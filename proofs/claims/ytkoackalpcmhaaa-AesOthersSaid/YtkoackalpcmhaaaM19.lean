/- The abstract machine: regions, whole. Conditions: none. -/
import Derived.Test.YtkoackalpcmhaaaM18
namespace Go.Proofs.Ytkoackalpcmhaaa.Am
set_option linter.unusedVariables false
set_option linter.unusedSimpArgs false
open Go Go.RowKit
open Rg (gives at_ writerOf dstOf)

section
variable {P : Program} {T : List (Nat × Ty)} {O : List (Nat × Ent)} {N : Nat} {M : List Nat} {w0 : Wd} {ops : Array Oper} {A K : List Nat} {H : Nat → Hint} {s : St}

theorem putOne_nx (rs : List (Nat × Res)) (i : Nat) (s : St) : (putOne ops rs i s).nx = s.nx ∧ (putOne ops rs i s).gl = s.gl ∧ (putOne ops rs i s).tm.length = s.tm.length := by
  unfold putOne
  split
  · refine ⟨rfl, rfl, ?_⟩
    simp only
    split
    · rw [setNth_len]
    · rfl
  · exact ⟨rfl, rfl, rfl⟩
theorem putAll_nx (rs : List (Nat × Res)) : ∀ (l : List Nat) (s : St), (putAll ops rs l s).nx = s.nx ∧ (putAll ops rs l s).gl = s.gl ∧ (putAll ops rs l s).tm.length = s.tm.length
  | [], _ => ⟨rfl, rfl, rfl⟩
  | i :: l, s => by
    obtain ⟨h1, h2, h3⟩ := putAll_nx rs l (putOne ops rs i s)
    obtain ⟨e1, e2, e3⟩ := putOne_nx (ops := ops) rs i s
    exact ⟨h1.trans e1, h2.trans e2, h3.trans e3⟩
theorem putOne_get {rs : List (Nat × Res)} {i : Nat} {s : St} {t : Nat} {sv : SV} (h : (putOne ops rs i s).get t = some sv) : (∃ r, look rs i = some r ∧ dstOf ops i = some t ∧ sv = r.val) ∨ ((∀ r, look rs i = some r → dstOf ops i ≠ some t) ∧ s.get t = some sv) := by
  unfold putOne at h
  cases hr : look rs i with
  | none =>
    rw [hr] at h
    exact .inr ⟨(fun r hr' => by cases hr'), h⟩
  | some r =>
    rw [hr] at h
    simp only [St.get] at h
    cases hd : dstOf ops i with
    | none =>
      rw [hd] at h
      exact .inr ⟨fun r' _ => by simp, h⟩
    | some u =>
      rw [hd] at h
      simp only [nth_set] at h
      by_cases hu : u = t
      · subst hu
        rw [if_pos rfl] at h
        by_cases hl : u < s.tm.length
        · rw [if_pos hl] at h
          simp only [Option.some.injEq] at h
          exact .inl ⟨r, rfl, rfl, h.symm⟩
        · rw [if_neg hl] at h; cases h
      · rw [if_neg hu] at h
        exact .inr ⟨fun r' _ e => hu (by injection e), h⟩
theorem putAll_get (rs : List (Nat × Res)) : ∀ (l : List Nat) (s : St) (t : Nat) (sv : SV), (putAll ops rs l s).get t = some sv → (∃ i r, i ∈ l ∧ look rs i = some r ∧ dstOf ops i = some t ∧ sv = r.val) ∨ ((∀ i r, i ∈ l → look rs i = some r → dstOf ops i ≠ some t) ∧ s.get t = some sv)
  | [], _, _, _, h => .inr ⟨(fun i r hi => by cases hi), h⟩
  | i :: l, s, t, sv, h => by
    rcases putAll_get rs l _ t sv h with ⟨j, r, hj, h1, h2, h3⟩ | ⟨h1, h2⟩
    · exact .inl ⟨j, r, List.mem_cons_of_mem _ hj, h1, h2, h3⟩
    · rcases putOne_get h2 with ⟨r, hr, hd, rfl⟩ | ⟨hno, hs⟩
      · exact .inl ⟨i, r, by simp, hr, hd, rfl⟩
      · refine .inr ⟨fun j r hj hjr => ?_, hs⟩
        rcases List.mem_cons.1 hj with rfl | hj
        · exact hno r hjr
        · exact h1 j r hj hjr
theorem putOne_hp {rs : List (Nat × Res)} {i : Nat} {s : St} {id : Nat} {b : Blk} (h : look (putOne ops rs i s).hp id = some b) : (∃ r, look rs i = some r ∧ s.nx + 4 * i ≤ id ∧ id < s.nx + 4 * i + r.new.length ∧ r.new[id - (s.nx + 4 * i)]? = some b) ∨ look s.hp id = some b := by
  unfold putOne at h
  cases hr : look rs i with
  | none => rw [hr] at h; exact .inr h
  | some r =>
    rw [hr] at h
    simp only [look_newH] at h
    by_cases hc : s.nx + 4 * i ≤ id ∧ id < s.nx + 4 * i + r.new.length
    · rw [if_pos hc] at h
      exact .inl ⟨r, rfl, hc.1, hc.2, h⟩
    · rw [if_neg hc] at h
      exact .inr h
theorem putAll_hp (rs : List (Nat × Res)) : ∀ (l : List Nat) (s : St) (id : Nat) (b : Blk), look (putAll ops rs l s).hp id = some b → (∃ i r, i ∈ l ∧ look rs i = some r ∧ s.nx + 4 * i ≤ id ∧ id < s.nx + 4 * i + r.new.length ∧ r.new[id - (s.nx + 4 * i)]? = some b) ∨ look s.hp id = some b
  | [], _, _, _, h => .inr h
  | i :: l, s, id, b, h => by
    have hnx := (putOne_nx (ops := ops) rs i s).1
    rcases putAll_hp rs l _ id b h with ⟨j, r, hj, h1⟩ | h1
    · rw [hnx] at h1
      exact .inl ⟨j, r, List.mem_cons_of_mem _ hj, h1⟩
    · rcases putOne_hp h1 with ⟨r, h2⟩ | h2
      · exact .inl ⟨i, r, by simp, h2⟩
      · exact .inr h2

theorem HR.drew {ρ : Nat → Loc} {D : Nat → Prop} {G : Nat → Option Blk} {w : World} (h : HR ρ D N M G w) : HR ρ D N M G w.drew :=
  h.step (U := fun _ => False) (fun _ _ => rfl) (fun _ h => h) (Nat.le_refl _) (fun _ _ h _ => h) (fun _ _ _ _ _ _ => rfl) (fun _ _ _ h => h.elim) (fun _ _ _ _ h => h.elim) (fun _ _ _ _ h => h.elim) (fun _ _ _ _ _ _ _ _ _ h => (h.elim id id).elim)

theorem rep_false (n j : Nat) : (Array.replicate n false).getD j false = false := by
  rcases Nat.lt_or_ge j n with hj | hj <;> simp [hj]
theorem draw_sound (hT : TOK P T) (hO : OOK P O) (hm : P.follows .mixedOrders = true) {l : List Oper} {id : Nat} {Q : Exit → Act → World → Prop} {s' : St} {p : Asm} {ρ : Nat → Loc} {a : Act} {w : World} (h : drawOps T O l H s = some (s', p)) (hp : p.holds) (hR : RelS ρ N M w0 s a w)
    (hQ : ∀ ρ' a' w', RelS ρ' N M w0 s' a' w' → NoPanic Q .normal a' w') : (Code.region id l.toArray true).wp P Q a w := by
  unfold drawOps at h
  simp only at h
  split at h
  · rename_i hchk
    simp only [Bool.and_eq_true] at hchk
    obtain ⟨⟨⟨hB, hpu⟩, hdst⟩, htl⟩ := hchk
    split at h
    · rename_i rs p1 h1
      split at h
      · rename_i s1 q h2
        simp only [Option.some.injEq, Prod.mk.injEq] at h
        obtain ⟨rfl, rfl⟩ := h
        generalize hA : ancL l [] = A at *
        generalize hK : kindL l A 0 [] = K at *
        generalize hmm : (Rg.headL l.toArray K).length = m at *
        have hc := Rg.check_of hB
        rw [beq_iff_eq] at htl
        have hheads : ∀ i, i < l.toArray.size → at_ K i ≠ 2 → i < m := fun i hi hk => by
          rcases Nat.lt_or_ge i m with h | h
          · exact h
          · exfalso
            have : i ∈ Rg.tailL l.toArray K := by
              rw [htl]
              rw [List.mem_iff_getElem?]
              exact ⟨i - m, by rw [List.getElem?_drop, show m + (i - m) = i by omega, List.getElem?_range hi]⟩
            unfold Rg.tailL at this
            rw [List.mem_filter] at this
            exact hk (by simpa using this.2)
        obtain ⟨_, hspec⟩ := headOps_spec hc (l.take m) 0 [] rs p1 h1 hp.1 (fun j r hj => by cases hj) (fun k o hk => by
          rw [List.getElem?_take] at hk
          split at hk
          · rw [Nat.zero_add]; simpa using hk
          · cases hk)
        have hhd : ∀ i o, l.toArray[i]? = some o → at_ K i ≠ 2 → HeadOK T O l.toArray A H s rs i o := fun i o ho hk => by
          have hi := hheads i (Array.getElem?_eq_some_iff.1 ho).1 hk
          have := hspec i o (by rw [List.getElem?_take_of_lt hi]; simpa using ho)
          rwa [Nat.zero_add] at this
        have hsl : ∀ (i : Nat) (o : Oper) (t : Tmp), l.toArray[i]? = some o → o.dst = some t → t < a.tmps.size := fun i o t ho hd => by
          have hmem : o ∈ l := by have := Array.mem_of_getElem? ho; simpa using this
          have := List.all_eq_true.1 hdst o hmem
          simp only [hd, decide_eq_true_eq] at this
          rw [hR.size]; exact this
        have hpure : ∀ i o, l.toArray[i]? = some o → at_ K i = 0 → pureO o.op = true := fun i o ho hk => by
          have := List.all_eq_true.1 hpu i (List.mem_range.2 (Array.getElem?_eq_some_iff.1 ho).1)
          rw [hk, ho] at this
          simpa using this
        refine wp_region_noPanic (wp_region_any hm ?_)
        have hrep : ∀ j, (Array.replicate l.toArray.size false).getD j false = false := rep_false _
        have hunl : Rg.unl l.toArray (Array.replicate l.toArray.size false) = l.toArray.size := by
          unfold Rg.unl
          rw [List.countP_eq_length.2 fun i _ => by rw [hrep i, Bool.not_false], List.length_range]
        refine draw_any hT hO hc hpure (a0 := a) (w1 := w) hR.rel hsl hhd ?_ _ _ _ _ hunl ⟨by simp, fun j oj _ hl => absurd hl (by rw [hrep j]; exact Bool.false_ne_true), fun j _ _ => hrep j, hR.rel.defers, rfl, ρ, fun _ _ => rfl, fun t => ?_, ?_, hR.rel.kept.trans (Kept.of_below ((Below.refl _ _).drew))⟩
        · -- behind the heads
          intro L a' w' hI hall
          obtain ⟨ρ', hag, hslots, hHR, hK'⟩ := hI.ex
          have htail : (Rg.tailL l.toArray K).filterMap (l.toArray[·]?) = l.drop m := by
            rw [htl]
            exact Rg.drop_range l m
          rw [htail]
          refine seq_sound hT hO (l.drop m) m _ _ _ ρ' a' w' h2 hp.2 ⟨⟨fun t sv ht => ?_, fun g i hg => ?_, ?_, hK', hI.defers⟩, ?_⟩ hQ
          · have ht' : (putAll l.toArray rs (List.range m) s).get t = some sv := ht
            have hDn : ∀ id, DL s.nx L id → id < s.nx + 4 * m := fun id hid => by
              rcases hid with hid | ⟨h1, h2⟩
              · omega
              · have hlt : (id - s.nx) / 4 < l.toArray.size := by
                  rcases Nat.lt_or_ge ((id - s.nx) / 4) L.size with h3 | h3
                  · rw [hI.size] at h3; exact h3
                  · simp [Array.getElem?_eq_none h3] at h2
                have := hheads _ hlt (fun hk2 => by rw [hI.notail _ hlt hk2] at h2; cases h2)
                omega
            rcases putAll_get rs _ _ t sv ht' with ⟨i, r, hi, hr, hd, rfl⟩ | ⟨hno, hs⟩
            · have hil : i < l.toArray.size := by
                unfold dstOf at hd
                cases ho : l.toArray[i]? with
                | none => rw [ho] at hd; cases hd
                | some o => exact (Array.getElem?_eq_some_iff.1 ho).1
              have ho : l.toArray[i]? = some l.toArray[i] := by rw [Array.getElem?_eq_getElem]
              have hw := hc.one i _ t ho (by unfold dstOf at hd; rw [ho] at hd; exact hd)
              have hki : at_ K i ≠ 2 := fun hk2 => by
                have : i ∈ Rg.tailL l.toArray K := by
                  unfold Rg.tailL
                  rw [List.mem_filter, List.mem_range]
                  exact ⟨hil, by simp [hk2]⟩
                rw [htl] at this
                have h3 := List.mem_range.1 hi
                obtain ⟨k, hk⟩ := List.mem_iff_getElem?.1 this
                rw [List.getElem?_drop] at hk
                have hkr := List.getElem?_eq_some_iff.1 hk
                obtain ⟨hkr1, hkr2⟩ := hkr
                rw [List.getElem_range] at hkr2
                omega
              have hst := hslots t
              rw [hw] at hst
              simp only at hst
              rw [if_pos (hall i hil hki)] at hst
              have e : resOf rs i = r := by unfold resOf; rw [hr]
              rw [e] at hst
              exact ⟨hst.1, hst.2.mono hDn⟩
            · obtain ⟨h3, h4⟩ := hR.rel.slots t sv hs
              have hst := hslots t
              have hev : a'.eval (.tmp t) = a.eval (.tmp t) := by
                cases hw : writerOf l.toArray t with
                | none => rw [hw] at hst; exact hst
                | some d =>
                  rw [hw] at hst
                  simp only at hst
                  have hdlt : d < l.toArray.size := by
                    unfold writerOf at hw
                    exact List.mem_range.1 (List.mem_of_find?_eq_some hw)
                  have hdd : dstOf l.toArray d = some t := by
                    unfold writerOf at hw
                    have := List.find?_some hw
                    unfold dstOf
                    simpa using this
                  by_cases hkd : at_ K d = 2
                  · rw [if_neg (by rw [hI.notail d hdlt hkd]; exact Bool.false_ne_true)] at hst
                    exact hst
                  · obtain ⟨r, hr, _⟩ := hhd d l.toArray[d] (by rw [Array.getElem?_eq_getElem]) hkd
                    exact absurd hdd (hno d r (List.mem_range.2 (hheads d hdlt hkd)) hr)
              refine ⟨by rw [hev, h3, SV.conc_congr hag h4], h4.mono fun id hid => ?_⟩
              have : id < s.nx := hid
              show id < s.nx + 4 * m
              omega
          · have hg' : LkOK s.gl w0.lk g i := by
              have := (putAll_nx (ops := l.toArray) rs (List.range m) s).2.1
              rw [← this]; exact hg
            obtain ⟨h3, h4⟩ := hR.rel.globals g i hg'
            refine ⟨by rw [hag i h4]; exact h3, ?_⟩
            have : i < s.nx := h4
            show i < s.nx + 4 * m
            omega
          · have hDn : ∀ id, DL s.nx L id → id < s.nx + 4 * m := fun id hid => by
              rcases hid with hid | ⟨h1, h2⟩
              · omega
              · have hlt : (id - s.nx) / 4 < l.toArray.size := by
                  rcases Nat.lt_or_ge ((id - s.nx) / 4) L.size with h3 | h3
                  · rw [hI.size] at h3; exact h3
                  · simp [Array.getElem?_eq_none h3] at h2
                have := hheads _ hlt (fun hk2 => by rw [hI.notail _ hlt hk2] at h2; cases h2)
                omega
            refine (hHR.monoD hDn).weaken fun id b hb => ?_
            rcases putAll_hp rs _ _ id b hb with ⟨i, r, hi, hr, h3, h4, h5⟩ | h3
            · have hil : i < l.toArray.size := by
                have h6 := List.mem_range.1 hi
                have : m ≤ l.toArray.size := by
                  rw [← hmm]
                  unfold Rg.headL
                  exact Nat.le_trans (List.length_filter_le _ _) (by simp)
                omega
              have hki : at_ K i ≠ 2 := fun hk2 => by
                have : i ∈ Rg.tailL l.toArray K := by
                  unfold Rg.tailL
                  rw [List.mem_filter, List.mem_range]
                  exact ⟨hil, by simp [hk2]⟩
                rw [htl] at this
                have h6 := List.mem_range.1 hi
                obtain ⟨k, hk⟩ := List.mem_iff_getElem?.1 this
                rw [List.getElem?_drop] at hk
                obtain ⟨hkr1, hkr2⟩ := List.getElem?_eq_some_iff.1 hk
                rw [List.getElem_range] at hkr2
                omega
              obtain ⟨r', hr', _, _, hlen, _⟩ := hhd i l.toArray[i] (by rw [Array.getElem?_eq_getElem]) hki
              rw [hr] at hr'
              injection hr' with hr'
              subst hr'
              have hq : (id - s.nx) / 4 = i := by omega
              rw [heapI_ge (by omega), hq, hall i hil hki, hr]
              simp only
              rw [show (id - s.nx) % 4 = id - (s.nx + 4 * i) by omega]
              exact h5
            · have h6 : id < s.nx := (hR.rel.hr.blk id b h3).1
              rw [heapI_lt h6]
              exact h3
          · rw [hI.tmps, hR.size]
            exact (putAll_nx (ops := l.toArray) rs (List.range m) s).2.2.symm
        · split
          · rename_i d _
            rw [hrep d]
            exact if_neg Bool.false_ne_true ▸ rfl
          · rfl
        · refine (hR.rel.hr.drew.monoD fun id h => .inl h).weaken fun id b hb => ?_
          rcases Nat.lt_or_ge id s.nx with h3 | h3
          · rw [heapI_lt h3] at hb; exact hb
          · rw [heapI_ge h3] at hb
            have := hrep ((id - s.nx) / 4)
            simp only [this] at hb
            cases hb
      · cases h
    · cases h
  · cases h
end
end Go.Proofs.Ytkoackalpcmhaaa.Am
