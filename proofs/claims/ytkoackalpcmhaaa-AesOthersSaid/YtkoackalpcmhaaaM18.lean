/- The abstract machine: a region that draws its order, whole. Conditions: none. -/
import Derived.Test.YtkoackalpcmhaaaM17
namespace Go.Proofs.Ytkoackalpcmhaaa.Am
set_option linter.unusedVariables false
set_option linter.unusedSimpArgs false
open Go Go.RowKit
open Rg (gives at_ writerOf dstOf)

section
variable {P : Program} {T : List (Nat × Ty)} {O : List (Nat × Ent)} {N : Nat} {M : List Nat} {w0 : Wd} {ops : Array Oper} {A K : List Nat} {H : Nat → Hint} {s : St}

theorem pure_run {o : Oper} {a : Act} (h : pureO o.op = true) : (∃ v, ∀ w, (execOp a.eval o).run P w = .ok (.value v) w) ∨ ∀ w, ∃ q, (execOp a.eval o).run P w = .halt q w := by
  unfold pureO at h
  split at h
  · rename_i x hop; exact .inl ⟨a.eval x, fun w => by unfold execOp; rw [hop]; first | done | rfl⟩
  · rename_i x hop; exact .inl ⟨a.eval x, fun w => by unfold execOp; rw [hop]; first | done | rfl⟩
  · rename_i x i hop
    have e : execOp a.eval o = (Instr.extract (a.eval x) i >>= fun v => pure (.value v)) := by unfold execOp; rw [hop]; first | done | rfl
    cases hx : a.eval x with
    | tuple vs =>
      cases hv : vs[i]? with
      | some v => exact .inl ⟨v, fun w => by rw [e, hx]; simp [Instr.extract, hv]⟩
      | none => exact .inr fun w => ⟨_, by rw [e, hx, Sem.run_bind]; simp only [Instr.extract, hv]; rfl⟩
    | _ => exact .inr fun w => ⟨_, by rw [e, hx, Sem.run_bind]; first | done | rfl⟩
  · cases h

/-- What the region leaves, its tail still to come. -/
def Heads (ops : Array Oper) (K : List Nat) (rs : List (Nat × Res)) (s : St) (N : Nat) (M : List Nat) (w0 : Wd) (ρ0 : Nat → Loc) (a0 : Act) (Z : Act → World → Prop) : Prop :=
  ∀ L a w, RInv ops K rs s N M w0 ρ0 a0 L a w → (∀ j, j < ops.size → at_ K j ≠ 2 → L.getD j false = true) → Z a w

theorem draw_finish (hc : Rg.Check ops A K) {Q : Exit → Act → World → Prop} {rs : List (Nat × Res)} {ρ0 : Nat → Loc} {a0 : Act} (hfin : Heads ops K rs s N M w0 ρ0 a0 (wpList P ops (NoPanic Q) ((Rg.tailL ops K).filterMap (ops[·]?)))) {n : Nat} (L : Array Bool) (a : Act) (w : World) (hn : Rg.unl ops L = n) (hI : RInv ops K rs s N M w0 ρ0 a0 L a w) (hdone : ∀ j, j < ops.size → at_ K j ≠ 2 → L.getD j false = true) : wpAny P .any ops (NoPanic Q) n L a w := by
  rw [← hn]
  refine Rg.tail_any hc (Rg.tailL ops K) L a w hI.size (List.Pairwise.sublist List.filter_sublist List.pairwise_lt_range) (fun j hj => ?_) (fun j hj => ?_) hI.closed (hfin L a w hI hdone)
  · unfold Rg.tailL at hj
    rw [List.mem_filter, List.mem_range] at hj
    exact ⟨hj.1, by simpa using hj.2⟩
  · unfold Rg.tailL
    rw [List.mem_filter, List.mem_range]
    constructor
    · intro hl
      refine ⟨hj, ?_⟩
      by_cases hk : at_ K j = 2
      · simp [hk]
      · rw [hdone j hj hk] at hl; cases hl
    · rintro ⟨_, hk⟩
      exact hI.notail j hj (by simpa using hk)

theorem draw_any (hT : TOK P T) (hO : OOK P O) (hc : Rg.Check ops A K) (hpu : ∀ i o, ops[i]? = some o → at_ K i = 0 → pureO o.op = true) {Q : Exit → Act → World → Prop} {rs : List (Nat × Res)} {ρ0 : Nat → Loc} {a0 : Act} {w1 : World} (h0 : Rel ρ0 (· < s.nx) N M w0 s.gl s.get (look s.hp) a0 w1)
    (hsl : ∀ (i : Nat) (o : Oper) (t : Tmp), ops[i]? = some o → o.dst = some t → t < a0.tmps.size) (hhd : ∀ i o, ops[i]? = some o → at_ K i ≠ 2 → HeadOK T O ops A H s rs i o)
    (hfin : Heads ops K rs s N M w0 ρ0 a0 (wpList P ops (NoPanic Q) ((Rg.tailL ops K).filterMap (ops[·]?)))) :
    ∀ (n : Nat) (L : Array Bool) (a : Act) (w : World), Rg.unl ops L = n → RInv ops K rs s N M w0 ρ0 a0 L a w → wpAny P .any ops (NoPanic Q) n L a w := by
  intro n
  induction n with
  | zero =>
    intro L a w hn hI
    have hall : ∀ j, j < ops.size → L.getD j false = true := fun j hj => by
      unfold Rg.unl at hn
      rw [List.countP_eq_zero] at hn
      simpa using hn j (List.mem_range.2 hj)
    exact draw_finish hc hfin L a w hn hI fun j hj _ => hall j hj
  | succ n ih =>
    intro L a w hn hI
    by_cases hdone : ∀ j, j < ops.size → at_ K j ≠ 2 → L.getD j false = true
    · exact draw_finish hc hfin L a w hn hI hdone
    · have hex : ∃ j, j < ops.size ∧ at_ K j ≠ 2 ∧ L.getD j false = false := by
        apply Classical.byContradiction
        intro hno
        exact hdone fun j hj hk => by
          cases hl : L.getD j false with
          | true => rfl
          | false => exact absurd ⟨j, hj, hk, hl⟩ hno
      obtain ⟨j0, hj0⟩ := hex
      obtain ⟨h, ⟨hh1, hh2, hh3⟩, hmin⟩ := Rg.least_unl (p := fun j => j < ops.size ∧ at_ K j ≠ 2 ∧ L.getD j false = false) j0 hj0
      obtain ⟨oh, hoh⟩ : ∃ o, ops[h]? = some o := ⟨ops[h], by rw [Array.getElem?_eq_getElem]⟩
      have hhr : h ∈ Region.ready .any ops L := by
        have hL : h < L.size := by rw [hI.size]; exact hh1
        refine mem_ready.2 ⟨by simp [hL] at hh3 ⊢; exact hh3, oh, hoh, fun e he hb => ?_⟩
        have hlt := (hc.anc h oh hoh).2 e he hb
        have hk := (hc.heads h oh hoh hh2).2 e he hb
        cases hl : L.getD e.on false with
        | true => rfl
        | false => exact absurd ⟨by omega, hk, hl⟩ (hmin e.on hlt)
      -- what is known of an operation of the head that may come up
      have step : ∀ i o, ops[i]? = some o → i ∈ Region.ready .any ops L → at_ K i ≠ 2 →
          (Region.wanted o (yielded ops a.tmps) = true ∧ gives P o a w fun v w' => RInv ops K rs s N M w0 ρ0 a0 (L.setIfInBounds i true) (a.put o.dst v) w') ∨
          (Region.wanted o (yielded ops a.tmps) = false ∧ RInv ops K rs s N M w0 ρ0 a0 (L.setIfInBounds i true) (a.put o.dst undef) w) := by
        intro i o ho hi hk
        obtain ⟨r, hri, hop, ha, hlen, hupd⟩ := hhd i o ho hk
        obtain ⟨t0, hd⟩ := (hc.heads i o ho hk).1
        have hlt := (Array.getElem?_eq_some_iff.1 ho).1
        have hLi : L.getD i false = false := Rg.getD_of_ready hi
        have hrs : ∀ d, (at_ A i).testBit d = true → ∃ r, look rs d = some r := fun d hd => by
          have hdi := Rg.anc_lt hc i o ho d hd
          have hod : ops[d]? = some (ops[d]'(by omega)) := by rw [Array.getElem?_eq_getElem]
          have hkd : at_ K d ≠ 2 := by
            intro hk2
            obtain ⟨_, o', ho', hall⟩ := mem_ready.1 hi
            have hld := Rg.closed_anc hc hI.closed i o' ho' hall d hd
            rw [hI.notail d (by omega) hk2] at hld
            cases hld
          obtain ⟨r, hr, _⟩ := hhd d _ hod hkd
          exact ⟨r, hr⟩
        obtain ⟨ρ, hag, hrel, hHR, hsl'⟩ := hI.rel hc h0 ho hi hrs
        have hfD : ∀ id, (Nat.blt id s.nx || (at_ A i).testBit ((id - s.nx) / 4)) = true → DL s.nx L id := fun id hid => by
          rw [Bool.or_eq_true] at hid
          rcases Nat.lt_or_ge id s.nx with h1 | h1
          · exact .inl h1
          · rcases hid with hid | hid
            · exact .inl (Nat.lt_of_succ_le (Nat.le_of_ble_eq_true hid))
            · obtain ⟨_, o', ho', hall⟩ := mem_ready.1 hi
              exact .inr ⟨h1, Rg.closed_anc hc hI.closed i o' ho' hall _ hid⟩
        have hfresh : ∀ id, s.nx + 4 * i ≤ id → id < s.nx + 4 * i + r.new.length → ¬ DL s.nx L id := fun id h1 h2 hD => by
          rcases hD with hD | ⟨_, hD⟩
          · omega
          · have : (id - s.nx) / 4 = i := by omega
            rw [this, hLi] at hD; cases hD
        obtain ⟨ρk, hagk, hslk, hHRk, hKk⟩ := hI.ex
        have hKept : Kept N M w0.w w := hKk
        rcases opRes_sound hT hO hrel hfD hop ha hfresh with ⟨hw, hS, hin⟩ | ⟨hw, rfl⟩
        · refine .inl ⟨hw, ?_⟩
          have key : ∀ v w', (∃ ρ', Fits ρ (DL s.nx L) N M (heapI s.nx rs (look s.hp) (fun d => (at_ A i).testBit d)) (s.nx + 4 * i) r w ρ' v w') → RInv ops K rs s N M w0 ρ0 a0 (L.setIfInBounds i true) (a.put o.dst v) w' := by
            rintro v w' ⟨ρ', hF⟩
            exact hI.put hc hag hHR hsl' hKept ho hi hk hd (hsl i o t0 ho hd) hri hlen hupd (fun _ _ => .inr trivial) hF hin
          unfold Sn gives at hS
          unfold gives
          generalize (execOp a.eval o).run P w = q at *
          cases q with
          | ok n w1 =>
            cases n with
            | value v => exact key v w1 hS
            | skip => exact key undef w1 hS
            | enter f args => exact Calls.mono hS fun e w2 ⟨v, he, hF⟩ => ⟨v, he, key v w2 hF⟩
            | _ => exact hS.elim
          | halt x w1 => exact hS.elim
        · refine .inr ⟨hw, ?_⟩
          exact hI.put hc hag hHR hsl' hKept ho hi hk hd (hsl i o t0 ho hd) hri hlen hupd (fun _ _ => .inr trivial) (fits_same (hrel.hr) (v := undef) rfl rfl rfl) (fun s hs => by simp [AV.segs] at hs; subst hs; trivial)
      by_cases hpure : ∃ i, i ∈ Region.ready .any ops L ∧ at_ K i = 0
      · obtain ⟨i, hi, hk0⟩ := hpure
        obtain ⟨_, o, ho, hall⟩ := mem_ready.1 hi
        have hlt := (Array.getElem?_eq_some_iff.1 ho).1
        have hk : at_ K i ≠ 2 := by omega
        have hcount := Rg.unl_set (ops := ops) (i := i) hlt (by rw [hI.size]; exact hlt) (Rg.getD_of_ready hi)
        have hy : ∃ v, Yields P ops o v a ∧ RInv ops K rs s N M w0 ρ0 a0 (L.setIfInBounds i true) (a.put o.dst v) w := by
          rcases step i o ho hi hk with ⟨hw, hS⟩ | ⟨hw, hS⟩
          · rcases pure_run (P := P) (a := a) (hpu i o ho hk0) with ⟨v, hv⟩ | hv
            · unfold gives at hS
              rw [hv w] at hS
              exact ⟨v, .inl ⟨hw, hv⟩, hS⟩
            · obtain ⟨q, hq⟩ := hv w
              unfold gives at hS
              rw [hq] at hS
              exact hS.elim
          · exact ⟨undef, .inr ⟨hw, rfl⟩, hS⟩
        obtain ⟨v, hy, hnext⟩ := hy
        refine wpAny_first ho (fun j o cs b hj => Region.noSelect_spec hc.sel j o cs b hj) (fun c a w hq => hq.elim) n L a w (fun j oj hj hne hun hno => ?_) hi hy ?_
        · rcases hc.pure_ i o ho hk0 j oj hj hne with ⟨e, he, hb, hon⟩ | hb | hap
          · exact absurd hon (hno e he hb)
          · have := Rg.closed_anc hc hI.closed i o ho hall j hb
            have hjl : j < L.size := by rw [hI.size]; exact (Array.getElem?_eq_some_iff.1 hj).1
            simp [hjl] at this hun
            rw [this] at hun
            cases hun
          · exact hap
        · exact ih _ _ _ (by omega) hnext
      · refine ⟨fun h0 => absurd hhr (by rw [h0]; exact List.not_mem_nil), fun i hi => ?_⟩
        obtain ⟨_, o, ho, hall⟩ := mem_ready.1 hi
        have hlt := (Array.getElem?_eq_some_iff.1 ho).1
        have hk0 : at_ K i ≠ 0 := fun e => hpure ⟨i, hi, e⟩
        have hk : at_ K i ≠ 2 := by
          intro hk2
          have hkh : at_ K h ≠ 0 := fun e => hpure ⟨h, hhr, e⟩
          have := Rg.closed_anc hc hI.closed i o ho hall h ((hc.tails i o ho hk2).1 h hh1 hkh hh2)
          rw [hh3] at this
          cases this
        have hcount := Rg.unl_set (ops := ops) (i := i) hlt (by rw [hI.size]; exact hlt) (Rg.getD_of_ready hi)
        unfold wpOp
        simp only [ho]
        rcases step i o ho hi hk with ⟨hw, hS⟩ | ⟨hw, hS⟩
        · rw [if_pos hw]
          exact .inl (Rg.wp_of_gives hS fun v w' hR => ih _ _ _ (by omega) hR)
        · rw [if_neg (by rw [hw]; simp)]
          exact ih _ _ _ (by omega) hS

end
end Go.Proofs.Ytkoackalpcmhaaa.Am
