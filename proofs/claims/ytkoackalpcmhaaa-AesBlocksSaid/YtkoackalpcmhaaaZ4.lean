/- The abstract machine: a region that draws its order, whole. Conditions: none. -/
import Derived.Test.YtkoackalpcmhaaaZ3
set_option linter.unusedSectionVars false
namespace Go.Proofs.Ytkoackalpcmhaaa.Am
set_option linter.unusedVariables false
set_option linter.unusedSimpArgs false
open Go Go.RowKit
open Rg (gives at_ writerOf dstOf)

section
variable {P : Program} {T : List (Nat × Ty)} {O : List (Nat × Ent)} {N : Nat} {M : List Nat} {w0 : Wd} {ops : Array Oper} {A K : List Nat} {H : Nat → Hint} {s : St}
variable [GT]

omit [GT] in
theorem pure_run {o : Oper} {a : Act} (h : pureO o.op = true) : (∃ v, ∀ w, (execOp a.eval o).run P w = .ok (.value v) w) ∨ ∀ w, ∃ q, (execOp a.eval o).run P w = .halt q w := by
  unfold pureO at h
  split at h
  · rename_i x hop; exact .inl ⟨a.eval x, fun w => by unfold execOp; rw [hop]; first | done | rfl⟩
  · rename_i x hop; exact .inl ⟨a.eval x, fun w => by unfold execOp; rw [hop]; first | done | rfl⟩
  · rename_i x i hop
    have e : execOp a.eval o = (Instr.extract (a.eval x) i >>= fun v => pure (.value v)) := by unfold execOp; rw [hop]; first | done | rfl
    cases hx : a.eval x with
    | tuple vs =>
      cases hv : vs[i]? with
      | some v => exact .inl ⟨v, fun w => by rw [e, hx]; simp [Instr.extract, hv]⟩
      | none => exact .inr fun w => ⟨_, by rw [e, hx, Sem.run_bind]; simp only [Instr.extract, hv]; rfl⟩
    | _ => exact .inr fun w => ⟨_, by rw [e, hx, Sem.run_bind]; first | done | rfl⟩
  · cases h

/-- What the region leaves, its tail still to come. -/
def Heads (ops : Array Oper) (K : List Nat) (rs : List (Nat × Res)) (s : St) (N : Nat) (M : List Nat) (w0 : Wd) (ρ0 : Nat → Loc) (a0 : Act) (Z : Act → World → Prop) : Prop :=
  ∀ L a w, RInv ops K rs s N M w0 ρ0 a0 L a w → (∀ j, j < ops.size → at_ K j ≠ 2 → L.getD j false = true) → Z a w

theorem draw_finish (hc : Rg.Check ops A K) {Q : Exit → Act → World → Prop} {rs : List (Nat × Res)} {ρ0 : Nat → Loc} {a0 : Act} (hfin : Heads ops K rs s N M w0 ρ0 a0 (wpList P ops (NoPanic Q) ((Rg.tailL ops K).filterMap (ops[·]?)))) {n : Nat} (L : Array Bool) (a : Act) (w : World) (hn : Rg.unl ops L = n) (hI : RInv ops K rs s N M w0 ρ0 a0 L a w) (hdone : ∀ j, j < ops.size → at_ K j ≠ 2 → L.getD j false = true) : wpAny P .any ops (NoPanic Q) n L a w := by
  rw [← hn]
  refine Rg.tail_any hc (Rg.tailL ops K) L a w hI.size (List.Pairwise.sublist List.filter_sublist List.pairwise_lt_range) (fun j hj => ?_) (fun j hj => ?_) hI.closed (hfin L a w hI hdone)
  · unfold Rg.tailL at hj
    rw [List.mem_filter, List.mem_range] at hj
    exact ⟨hj.1, by simpa using hj.2⟩
  · unfold Rg.tailL
    rw [List.mem_filter, List.mem_range]
    constructor
    · intro hl
      refine ⟨hj, ?_⟩
      by_cases hk : at_ K j = 2
      · simp [hk]
      · rw [hdone j hj hk] at hl; cases hl
    · rintro ⟨_, hk⟩
      exact hI.notail j hj (by simpa using hk)

theorem draw_any (hT : TOK P T) (hO : OOK P O) (hc : Rg.Check ops A K) (hpu : ∀ i o, ops[i]? = some o → at_ K i = 0 → pureO o.op = true) {Q : Exit → Act → World → Prop} {rs : List (Nat × Res)} {ρ0 : Nat → Loc} {a0 : Act} {w1 : World} (h0 : Rel ρ0 (· < s.nx) N M w0 s.gl s.get (look s.hp) a0 w1)
    (hsl : ∀ (i : Nat) (o : Oper) (t : Tmp), ops[i]? = some o → o.dst = some t → t < a0.tmps.size) (hhd : ∀ i o, ops[i]? = some o → at_ K i ≠ 2 → HeadOK T O ops A H s rs i o) (hKO : KillOK ops A K s.nx rs)
    (hfin : Heads ops K rs s N M w0 ρ0 a0 (wpList P ops (NoPanic Q) ((Rg.tailL ops K).filterMap (ops[·]?)))) :
    ∀ (n : Nat) (L : Array Bool) (a : Act) (w : World), Rg.unl ops L = n → RInv ops K rs s N M w0 ρ0 a0 L a w → wpAny P .any ops (NoPanic Q) n L a w := by
  intro n
  induction n with
  | zero =>
    intro L a w hn hI
    have hall : ∀ j, j < ops.size → L.getD j false = true := fun j hj => by
      unfold Rg.unl at hn
      rw [List.countP_eq_zero] at hn
      simpa using hn j (List.mem_range.2 hj)
    exact draw_finish hc hfin L a w hn hI fun j hj _ => hall j hj
  | succ n ih =>
    intro L a w hn hI
    by_cases hdone : ∀ j, j < ops.size → at_ K j ≠ 2 → L.getD j false = true
    · exact draw_finish hc hfin L a w hn hI hdone
    · have hex : ∃ j, j < ops.size ∧ at_ K j ≠ 2 ∧ L.getD j false = false := by
        apply Classical.byContradiction
        intro hno
        exact hdone fun j hj hk => by
          cases hl : L.getD j false with
          | true => rfl
          | false => exact absurd ⟨j, hj, hk, hl⟩ hno
      obtain ⟨j0, hj0⟩ := hex
      obtain ⟨h, ⟨hh1, hh2, hh3⟩, hmin⟩ := Rg.least_unl (p := fun j => j < ops.size ∧ at_ K j ≠ 2 ∧ L.getD j false = false) j0 hj0
      obtain ⟨oh, hoh⟩ : ∃ o, ops[h]? = some o := ⟨ops[h], by rw [Array.getElem?_eq_getElem]⟩
      have hhr : h ∈ Region.ready .any ops L := by
        have hL : h < L.size := by rw [hI.size]; exact hh1
        refine mem_ready.2 ⟨by simp [hL] at hh3 ⊢; exact hh3, oh, hoh, fun e he hb => ?_⟩
        have hlt := (hc.anc h oh hoh).2 e he hb
        have hk := (hc.heads h oh hoh hh2).2 e he hb
        cases hl : L.getD e.on false with
        | true => rfl
        | false => exact absurd ⟨by omega, hk, hl⟩ (hmin e.on hlt)
      -- what is known of an operation of the head that may come up
      have step : ∀ i o, ops[i]? = some o → i ∈ Region.ready .any ops L → at_ K i ≠ 2 →
          (Region.wanted o (yielded ops a.tmps) = true ∧ gives P o a w fun v w' => RInv ops K rs s N M w0 ρ0 a0 (L.setIfInBounds i true) (a.put o.dst v) w') ∨
          (Region.wanted o (yielded ops a.tmps) = false ∧ RInv ops K rs s N M w0 ρ0 a0 (L.setIfInBounds i true) (a.put o.dst undef) w) := by
        intro i o ho hi hk
        obtain ⟨r, hri, hop, ha, hlen, hupd⟩ := hhd i o ho hk
        obtain ⟨t0, hd⟩ := (hc.heads i o ho hk).1
        have hlt := (Array.getElem?_eq_some_iff.1 ho).1
        have hLi : L.getD i false = false := Rg.getD_of_ready hi
        have hrs : ∀ d, (at_ A i).testBit d = true → ∃ r, look rs d = some r := fun d hd => by
          have hdi := Rg.anc_lt hc i o ho d hd
          have hod : ops[d]? = some (ops[d]'(by omega)) := by rw [Array.getElem?_eq_getElem]
          have hkd : at_ K d ≠ 2 := by
            intro hk2
            obtain ⟨_, o', ho', hall⟩ := mem_ready.1 hi
            have hld := Rg.closed_anc hc hI.closed i o' ho' hall d hd
            rw [hI.notail d (by omega) hk2] at hld
            cases hld
          obtain ⟨r, hr, _⟩ := hhd d _ hod hkd
          exact ⟨r, hr⟩
        obtain ⟨ρ, hag, hrel, hHR, hsl', hvw⟩ := hI.rel hc h0 ho hi hrs hk hKO
        have hfD : ∀ id, (Nat.blt id s.nx || (at_ A i).testBit ((id - s.nx) / 4)) = true → DL s.nx L id := fun id hid => by
          rw [Bool.or_eq_true] at hid
          rcases Nat.lt_or_ge id s.nx with h1 | h1
          · exact .inl h1
          · rcases hid with hid | hid
            · exact .inl (Nat.lt_of_succ_le (Nat.le_of_ble_eq_true hid))
            · obtain ⟨_, o', ho', hall⟩ := mem_ready.1 hi
              exact .inr ⟨h1, Rg.closed_anc hc hI.closed i o' ho' hall _ hid⟩
        have hfresh : ∀ id, s.nx + 4 * i ≤ id → id < s.nx + 4 * i + r.new.length → ¬ DL s.nx L id := fun id h1 h2 hD => by
          rcases hD with hD | ⟨_, hD⟩
          · omega
          · have : (id - s.nx) / 4 = i := by omega
            rw [this, hLi] at hD; cases hD
        obtain ⟨ρk, hagk, hslk, hHRk, hKk⟩ := hI.ex
        have hKept : Kept N M w0.w w := hKk
        rcases hupd with hupd | ⟨kid, hupd, happ, hkx, hka⟩
        · rcases opRes_sound hT hO hrel hfD hop ha hfresh with ⟨hw, hS, hin⟩ | ⟨hw, rfl⟩
          · refine .inl ⟨hw, ?_⟩
            have key : ∀ v w', (∃ ρ', Fits ρ (DL s.nx L) N M (heapI ops.size s.nx rs (look s.hp) (fun d => (at_ A i).testBit d)) (s.nx + 4 * i) r w ρ' v w') → RInv ops K rs s N M w0 ρ0 a0 (L.setIfInBounds i true) (a.put o.dst v) w' := by
              rintro v w' ⟨ρ', hF⟩
              exact hI.put hc hag hHR hsl' hKept ho hi hk hd (hsl i o t0 ho hd) hri hlen hupd (fun _ _ => .inr trivial) hF hin
            unfold Sn gives at hS
            unfold gives
            generalize (execOp a.eval o).run P w = q at *
            cases q with
            | ok n w1 =>
              cases n with
              | value v => exact key v w1 hS
              | skip => exact key undef w1 hS
              | enter f args => exact Calls.mono hS fun e w2 ⟨v, he, hF⟩ => ⟨v, he, key v w2 hF⟩
              | _ => exact hS.elim
            | halt x w1 => exact hS.elim
          · refine .inr ⟨hw, ?_⟩
            exact hI.put hc hag hHR hsl' hKept ho hi hk hd (hsl i o t0 ho hd) hri hlen hupd (fun _ _ => .inr trivial) (fits_same (hrel.hr) (v := undef) rfl rfl rfl) (fun s hs => by simp [AV.segs] at hs; subst hs; trivial)
        · have hrel' : Rel ρ (DL s.nx L) N M w0 s.gl (getI ops A rs s.get i) (heapI ops.size s.nx rs (look s.hp) fun d => L.getD d false) a w := ⟨hrel.slots, hrel.globals, hHR, hrel.kept, hrel.defers⟩
          have hop' := opRes_mono happ (fun id b hb => hvw id b hb) hop
          rcases opRes_sound hT hO hrel' hfD hop' ha hfresh with ⟨hw, hS, hin⟩ | ⟨hw, rfl⟩
          · refine .inl ⟨hw, ?_⟩
            have key : ∀ v w', (∃ ρ', Fits ρ (DL s.nx L) N M (heapI ops.size s.nx rs (look s.hp) fun d => L.getD d false) (s.nx + 4 * i) r w ρ' v w') → RInv ops K rs s N M w0 ρ0 a0 (L.setIfInBounds i true) (a.put o.dst v) w' := by
              rintro v w' ⟨ρ', hF⟩
              exact hI.putK hc hag hsl' hKept ho hi hk hd (hsl i o t0 ho hd) hri hlen hupd hkx hka hF hin
            unfold Sn gives at hS
            unfold gives
            generalize (execOp a.eval o).run P w = q at *
            cases q with
            | ok n w1 =>
              cases n with
              | value v => exact key v w1 hS
              | skip => exact key undef w1 hS
              | enter f args => exact Calls.mono hS fun e w2 ⟨v, he, hF⟩ => ⟨v, he, key v w2 hF⟩
              | _ => exact hS.elim
            | halt x w1 => exact hS.elim
          · cases hupd
      by_cases hpure : ∃ i, i ∈ Region.ready .any ops L ∧ at_ K i = 0
      · obtain ⟨i, hi, hk0⟩ := hpure
        obtain ⟨_, o, ho, hall⟩ := mem_ready.1 hi
        have hlt := (Array.getElem?_eq_some_iff.1 ho).1
        have hk : at_ K i ≠ 2 := by omega
        have hcount := Rg.unl_set (ops := ops) (i := i) hlt (by rw [hI.size]; exact hlt) (Rg.getD_of_ready hi)
        have hy : ∃ v, Yields P ops o v a ∧ RInv ops K rs s N M w0 ρ0 a0 (L.setIfInBounds i true) (a.put o.dst v) w := by
          rcases step i o ho hi hk with ⟨hw, hS⟩ | ⟨hw, hS⟩
          · rcases pure_run (P := P) (a := a) (hpu i o ho hk0) with ⟨v, hv⟩ | hv
            · unfold gives at hS
              rw [hv w] at hS
              exact ⟨v, .inl ⟨hw, hv⟩, hS⟩
            · obtain ⟨q, hq⟩ := hv w
              unfold gives at hS
              rw [hq] at hS
              exact hS.elim
          · exact ⟨undef, .inr ⟨hw, rfl⟩, hS⟩
        obtain ⟨v, hy, hnext⟩ := hy
        refine wpAny_first ho (fun j o cs b hj => Region.noSelect_spec hc.sel j o cs b hj) (fun c a w hq => hq.elim) n L a w (fun j oj hj hne hun hno => ?_) hi hy ?_
        · rcases hc.pure_ i o ho hk0 j oj hj hne with ⟨e, he, hb, hon⟩ | hb | hap
          · exact absurd hon (hno e he hb)
          · have := Rg.closed_anc hc hI.closed i o ho hall j hb
            have hjl : j < L.size := by rw [hI.size]; exact (Array.getElem?_eq_some_iff.1 hj).1
            simp [hjl] at this hun
            rw [this] at hun
            cases hun
          · exact hap
        · exact ih _ _ _ (by omega) hnext
      · refine ⟨fun h0 => absurd hhr (by rw [h0]; exact List.not_mem_nil), fun i hi => ?_⟩
        obtain ⟨_, o, ho, hall⟩ := mem_ready.1 hi
        have hlt := (Array.getElem?_eq_some_iff.1 ho).1
        have hk0 : at_ K i ≠ 0 := fun e => hpure ⟨i, hi, e⟩
        have hk : at_ K i ≠ 2 := by
          intro hk2
          have hkh : at_ K h ≠ 0 := fun e => hpure ⟨h, hhr, e⟩
          have := Rg.closed_anc hc hI.closed i o ho hall h ((hc.tails i o ho hk2).1 h hh1 hkh hh2)
          rw [hh3] at this
          cases this
        have hcount := Rg.unl_set (ops := ops) (i := i) hlt (by rw [hI.size]; exact hlt) (Rg.getD_of_ready hi)
        unfold wpOp
        simp only [ho]
        rcases step i o ho hi hk with ⟨hw, hS⟩ | ⟨hw, hS⟩
        · rw [if_pos hw]
          exact .inl (Rg.wp_of_gives hS fun v w' hR => ih _ _ _ (by omega) hR)
        · rw [if_neg (by rw [hw]; simp)]
          exact ih _ _ _ (by omega) hS

end
end Go.Proofs.Ytkoackalpcmhaaa.Am
/- The abstract machine: regions, whole. Conditions: none. -/
namespace Go.Proofs.Ytkoackalpcmhaaa.Am
set_option linter.unusedVariables false
set_option linter.unusedSimpArgs false
open Go Go.RowKit
open Rg (gives at_ writerOf dstOf)

section
variable {P : Program} {T : List (Nat × Ty)} {O : List (Nat × Ent)} {N : Nat} {M : List Nat} {w0 : Wd} {ops : Array Oper} {A K : List Nat} {H : Nat → Hint} {s : St}
variable [GT]

omit [GT] in
theorem putOne_nx (rs : List (Nat × Res)) (i : Nat) (s : St) : (putOne ops rs i s).nx = s.nx ∧ (putOne ops rs i s).gl = s.gl ∧ (putOne ops rs i s).tm.length = s.tm.length := by
  unfold putOne
  split
  · refine ⟨rfl, rfl, ?_⟩
    simp only
    split
    · rw [setNth_len]
    · rfl
  · exact ⟨rfl, rfl, rfl⟩
omit [GT] in
theorem putAll_nx (rs : List (Nat × Res)) : ∀ (l : List Nat) (s : St), (putAll ops rs l s).nx = s.nx ∧ (putAll ops rs l s).gl = s.gl ∧ (putAll ops rs l s).tm.length = s.tm.length
  | [], _ => ⟨rfl, rfl, rfl⟩
  | i :: l, s => by
    obtain ⟨h1, h2, h3⟩ := putAll_nx rs l (putOne ops rs i s)
    obtain ⟨e1, e2, e3⟩ := putOne_nx (ops := ops) rs i s
    exact ⟨h1.trans e1, h2.trans e2, h3.trans e3⟩
omit [GT] in
theorem putOne_get {rs : List (Nat × Res)} {i : Nat} {s : St} {t : Nat} {sv : SV} (h : (putOne ops rs i s).get t = some sv) : (∃ r, look rs i = some r ∧ dstOf ops i = some t ∧ sv = r.val) ∨ ((∀ r, look rs i = some r → dstOf ops i ≠ some t) ∧ s.get t = some sv) := by
  unfold putOne at h
  cases hr : look rs i with
  | none =>
    rw [hr] at h
    exact .inr ⟨(fun r hr' => by cases hr'), h⟩
  | some r =>
    rw [hr] at h
    simp only [St.get] at h
    cases hd : dstOf ops i with
    | none =>
      rw [hd] at h
      exact .inr ⟨fun r' _ => by simp, h⟩
    | some u =>
      rw [hd] at h
      simp only [nth_set] at h
      by_cases hu : u = t
      · subst hu
        rw [if_pos rfl] at h
        by_cases hl : u < s.tm.length
        · rw [if_pos hl] at h
          simp only [Option.some.injEq] at h
          exact .inl ⟨r, rfl, rfl, h.symm⟩
        · rw [if_neg hl] at h; cases h
      · rw [if_neg hu] at h
        exact .inr ⟨fun r' _ e => hu (by injection e), h⟩
omit [GT] in
theorem putAll_get (rs : List (Nat × Res)) : ∀ (l : List Nat) (s : St) (t : Nat) (sv : SV), (putAll ops rs l s).get t = some sv → (∃ i r, i ∈ l ∧ look rs i = some r ∧ dstOf ops i = some t ∧ sv = r.val) ∨ ((∀ i r, i ∈ l → look rs i = some r → dstOf ops i ≠ some t) ∧ s.get t = some sv)
  | [], _, _, _, h => .inr ⟨(fun i r hi => by cases hi), h⟩
  | i :: l, s, t, sv, h => by
    rcases putAll_get rs l _ t sv h with ⟨j, r, hj, h1, h2, h3⟩ | ⟨h1, h2⟩
    · exact .inl ⟨j, r, List.mem_cons_of_mem _ hj, h1, h2, h3⟩
    · rcases putOne_get h2 with ⟨r, hr, hd, rfl⟩ | ⟨hno, hs⟩
      · exact .inl ⟨i, r, by simp, hr, hd, rfl⟩
      · refine .inr ⟨fun j r hj hjr => ?_, hs⟩
        rcases List.mem_cons.1 hj with rfl | hj
        · exact hno r hjr
        · exact h1 j r hj hjr
omit [GT] in
theorem putOne_hp {rs : List (Nat × Res)} {i : Nat} {s : St} {id : Nat} {b : Blk} (h : look (putOne ops rs i s).hp id = some b) : (∃ r, look rs i = some r ∧ s.nx + 4 * i ≤ id ∧ id < s.nx + 4 * i + r.new.length ∧ r.new[id - (s.nx + 4 * i)]? = some b) ∨ look s.hp id = some b := by
  unfold putOne at h
  cases hr : look rs i with
  | none => rw [hr] at h; exact .inr h
  | some r =>
    rw [hr] at h
    simp only [look_newH] at h
    by_cases hc : s.nx + 4 * i ≤ id ∧ id < s.nx + 4 * i + r.new.length
    · rw [if_pos hc] at h
      exact .inl ⟨r, rfl, hc.1, hc.2, h⟩
    · rw [if_neg hc] at h
      exact .inr h
omit [GT] in
theorem putAll_hp (rs : List (Nat × Res)) : ∀ (l : List Nat) (s : St) (id : Nat) (b : Blk), look (putAll ops rs l s).hp id = some b → (∃ i r, i ∈ l ∧ look rs i = some r ∧ s.nx + 4 * i ≤ id ∧ id < s.nx + 4 * i + r.new.length ∧ r.new[id - (s.nx + 4 * i)]? = some b) ∨ look s.hp id = some b
  | [], _, _, _, h => .inr h
  | i :: l, s, id, b, h => by
    have hnx := (putOne_nx (ops := ops) rs i s).1
    rcases putAll_hp rs l _ id b h with ⟨j, r, hj, h1⟩ | h1
    · rw [hnx] at h1
      exact .inl ⟨j, r, List.mem_cons_of_mem _ hj, h1⟩
    · rcases putOne_hp h1 with ⟨r, h2⟩ | h2
      · exact .inl ⟨i, r, by simp, h2⟩
      · exact .inr h2

omit [GT] in
theorem look_killH (hp : List (Nat × Blk)) : ∀ (l : List Nat) (i : Nat) (b : Blk), look (killH hp l) i = some b → i ∉ l ∧ look hp i = some b
  | [], i, b, h => ⟨by simp, h⟩
  | id :: l, i, b, h => by
    simp only [killH] at h
    rw [look_dropH] at h
    by_cases hi : id = i
    · rw [if_pos hi] at h; cases h
    · rw [if_neg hi] at h
      obtain ⟨h1, h2⟩ := look_killH hp l i b h
      refine ⟨fun hm => ?_, h2⟩
      rcases List.mem_cons.1 hm with e | hm
      · exact hi e.symm
      · exact h1 hm
omit [GT] in
theorem mem_killIds {rs : List (Nat × Res)} {id : Nat} : ∀ (l : List Nat) (k : Nat) (r : Res), k ∈ l → look rs k = some r → r.upd = [(id, none)] → id ∈ killIds rs l
  | [], _, _, h, _, _ => by cases h
  | x :: l, k, r, h, hr, hu => by
    unfold killIds
    rcases List.mem_cons.1 h with rfl | h
    · rw [hr]
      simp only [hu]
      exact List.mem_cons_self
    · have ih := mem_killIds l k r h hr hu
      split
      · split
        · exact List.mem_cons_of_mem _ ih
        · exact ih
      · exact ih
theorem HR.drew {ρ : Nat → Loc} {D : Nat → Prop} {G : Nat → Option Blk} {w : World} (h : HR ρ D N M G w) : HR ρ D N M G w.drew :=
  h.step (U := fun _ => False) (fun _ _ => rfl) (fun _ h => h) (Kept.of_below ((Below.refl _ _).drew)) (fun _ _ h _ => h) (fun _ _ _ _ _ _ => rfl) (fun _ _ _ h => h.elim) (fun _ _ _ _ h => h.elim) (fun _ _ _ _ h => h.elim) (fun _ _ _ _ _ _ _ _ _ h => (h.elim id id).elim)

omit [GT] in
theorem rep_false (n j : Nat) : (Array.replicate n false).getD j false = false := by
  rcases Nat.lt_or_ge j n with hj | hj <;> simp [hj]
theorem draw_sound (hT : TOK P T) (hO : OOK P O) (hm : P.follows .mixedOrders = true) {l : List Oper} {id : Nat} {Q : Exit → Act → World → Prop} {s' : St} {p : Asm} {ρ : Nat → Loc} {a : Act} {w : World} (h : drawOps T O l H s = some (s', p)) (hp : p.holds) (hR : RelS ρ N M w0 s a w)
    (hQ : ∀ ρ' a' w', RelS ρ' N M w0 s' a' w' → NoPanic Q .normal a' w') : (Code.region id l.toArray true).wp P Q a w := by
  unfold drawOps at h
  simp only at h
  split at h
  · rename_i hchk
    simp only [Bool.and_eq_true] at hchk
    obtain ⟨⟨⟨hB, hpu⟩, hdst⟩, htl⟩ := hchk
    split at h
    · rename_i rs p1 h1
      split at h
      rotate_left
      · cases h
      rename_i hkB
      split at h
      · rename_i s1 q h2
        simp only [Option.some.injEq, Prod.mk.injEq] at h
        obtain ⟨rfl, rfl⟩ := h
        generalize hA : ancL l [] = A at *
        generalize hK : kindL l.toArray l A 0 [] = K at *
        generalize hmm : (Rg.headL l.toArray K).length = m at *
        have hc := Rg.check_of hB
        rw [beq_iff_eq] at htl
        have hheads : ∀ i, i < l.toArray.size → at_ K i ≠ 2 → i < m := fun i hi hk => by
          rcases Nat.lt_or_ge i m with h | h
          · exact h
          · exfalso
            have : i ∈ Rg.tailL l.toArray K := by
              rw [htl]
              rw [List.mem_iff_getElem?]
              exact ⟨i - m, by rw [List.getElem?_drop, show m + (i - m) = i by omega, List.getElem?_range hi]⟩
            unfold Rg.tailL at this
            rw [List.mem_filter] at this
            exact hk (by simpa using this.2)
        obtain ⟨_, hspec⟩ := headOps_spec hc (l.take m) 0 [] rs p1 h1 hp.1 (fun j r hj => by cases hj) (fun k o hk => by
          rw [List.getElem?_take] at hk
          split at hk
          · rw [Nat.zero_add]; simpa using hk
          · cases hk)
        have hhd : ∀ i o, l.toArray[i]? = some o → at_ K i ≠ 2 → HeadOK T O l.toArray A H s rs i o := fun i o ho hk => by
          have hi := hheads i (Array.getElem?_eq_some_iff.1 ho).1 hk
          have := hspec i o (by rw [List.getElem?_take_of_lt hi]; simpa using ho)
          rwa [Nat.zero_add] at this
        have hsl : ∀ (i : Nat) (o : Oper) (t : Tmp), l.toArray[i]? = some o → o.dst = some t → t < a.tmps.size := fun i o t ho hd => by
          have hmem : o ∈ l := by have := Array.mem_of_getElem? ho; simpa using this
          have := List.all_eq_true.1 hdst o hmem
          simp only [hd, decide_eq_true_eq] at this
          rw [hR.size]; exact this
        have hpure : ∀ i o, l.toArray[i]? = some o → at_ K i = 0 → pureO o.op = true := fun i o ho hk => by
          have := List.all_eq_true.1 hpu i (List.mem_range.2 (Array.getElem?_eq_some_iff.1 ho).1)
          rw [hk, ho] at this
          simpa using this
        have hKO : KillOK l.toArray A K s.nx rs := fun k r id hr hu hk2 hks i his hi2 hne hbit => by
          have hkm := hheads k hks hk2
          have him := hheads i his hi2
          unfold killB at hkB
          have := List.all_eq_true.1 hkB k (List.mem_range.2 hkm)
          rw [hr] at this
          simp only [hu] at this
          have := List.all_eq_true.1 this i (List.mem_range.2 him)
          rw [hbit] at this
          simp only [Bool.not_true, Bool.false_or, Bool.or_eq_true] at this
          rcases this with h | h | h
          · exact absurd (Nat.eq_of_beq_eq_true h) hne
          · exact .inl h
          · exact .inr h
        refine wp_region_noPanic (wp_region_any hm ?_)
        have hrep : ∀ j, (Array.replicate l.toArray.size false).getD j false = false := rep_false _
        have hunl : Rg.unl l.toArray (Array.replicate l.toArray.size false) = l.toArray.size := by
          unfold Rg.unl
          rw [List.countP_eq_length.2 fun i _ => by rw [hrep i, Bool.not_false], List.length_range]
        refine draw_any hT hO hc hpure (a0 := a) (w1 := w) hR.rel hsl hhd hKO ?_ _ _ _ _ hunl ⟨by simp, fun j oj _ hl => absurd hl (by rw [hrep j]; exact Bool.false_ne_true), fun j _ _ => hrep j, hR.rel.defers, rfl, ρ, fun _ _ => rfl, fun t => ?_, ?_, hR.rel.kept.trans (Kept.of_below ((Below.refl _ _).drew))⟩
        · -- behind the heads
          intro L a' w' hI hall
          obtain ⟨ρ', hag, hslots, hHR, hK'⟩ := hI.ex
          have htail : (Rg.tailL l.toArray K).filterMap (l.toArray[·]?) = l.drop m := by
            rw [htl]
            exact Rg.drop_range l m
          rw [htail]
          refine seq_sound hT hO (l.drop m) m _ _ _ ρ' a' w' h2 hp.2 ⟨⟨fun t sv ht => ?_, fun g i hg => ?_, ?_, hK', hI.defers⟩, ?_⟩ hQ
          · have ht' : (putAll l.toArray rs (List.range m) s).get t = some sv := ht
            have hDn : ∀ id, DL s.nx L id → id < s.nx + 4 * m := fun id hid => by
              rcases hid with hid | ⟨h1, h2⟩
              · omega
              · have hlt : (id - s.nx) / 4 < l.toArray.size := by
                  rcases Nat.lt_or_ge ((id - s.nx) / 4) L.size with h3 | h3
                  · rw [hI.size] at h3; exact h3
                  · simp [Array.getElem?_eq_none h3] at h2
                have := hheads _ hlt (fun hk2 => by rw [hI.notail _ hlt hk2] at h2; cases h2)
                omega
            rcases putAll_get rs _ _ t sv ht' with ⟨i, r, hi, hr, hd, rfl⟩ | ⟨hno, hs⟩
            · have hil : i < l.toArray.size := by
                unfold dstOf at hd
                cases ho : l.toArray[i]? with
                | none => rw [ho] at hd; cases hd
                | some o => exact (Array.getElem?_eq_some_iff.1 ho).1
              have ho : l.toArray[i]? = some l.toArray[i] := by rw [Array.getElem?_eq_getElem]
              have hw := hc.one i _ t ho (by unfold dstOf at hd; rw [ho] at hd; exact hd)
              have hki : at_ K i ≠ 2 := fun hk2 => by
                have : i ∈ Rg.tailL l.toArray K := by
                  unfold Rg.tailL
                  rw [List.mem_filter, List.mem_range]
                  exact ⟨hil, by simp [hk2]⟩
                rw [htl] at this
                have h3 := List.mem_range.1 hi
                obtain ⟨k, hk⟩ := List.mem_iff_getElem?.1 this
                rw [List.getElem?_drop] at hk
                have hkr := List.getElem?_eq_some_iff.1 hk
                obtain ⟨hkr1, hkr2⟩ := hkr
                rw [List.getElem_range] at hkr2
                omega
              have hst := hslots t
              rw [hw] at hst
              simp only at hst
              rw [if_pos (hall i hil hki)] at hst
              have e : resOf rs i = r := by unfold resOf; rw [hr]
              rw [e] at hst
              exact ⟨hst.1, hst.2.mono hDn⟩
            · obtain ⟨h3, h4⟩ := hR.rel.slots t sv hs
              have hst := hslots t
              have hev : a'.eval (.tmp t) = a.eval (.tmp t) := by
                cases hw : writerOf l.toArray t with
                | none => rw [hw] at hst; exact hst
                | some d =>
                  rw [hw] at hst
                  simp only at hst
                  have hdlt : d < l.toArray.size := by
                    unfold writerOf at hw
                    exact List.mem_range.1 (List.mem_of_find?_eq_some hw)
                  have hdd : dstOf l.toArray d = some t := by
                    unfold writerOf at hw
                    have := List.find?_some hw
                    unfold dstOf
                    simpa using this
                  by_cases hkd : at_ K d = 2
                  · rw [if_neg (by rw [hI.notail d hdlt hkd]; exact Bool.false_ne_true)] at hst
                    exact hst
                  · obtain ⟨r, hr, _⟩ := hhd d l.toArray[d] (by rw [Array.getElem?_eq_getElem]) hkd
                    exact absurd hdd (hno d r (List.mem_range.2 (hheads d hdlt hkd)) hr)
              refine ⟨by rw [hev, h3, SV.conc_congr hag h4], h4.mono fun id hid => ?_⟩
              have : id < s.nx := hid
              show id < s.nx + 4 * m
              omega
          · have hg' : LkOK s.gl w0.lk g i := by
              have := (putAll_nx (ops := l.toArray) rs (List.range m) s).2.1
              rw [← this]; exact hg
            obtain ⟨h3, h4⟩ := hR.rel.globals g i hg'
            refine ⟨by rw [hag i h4]; exact h3, ?_⟩
            have : i < s.nx := h4
            show i < s.nx + 4 * m
            omega
          · have hDn : ∀ id, DL s.nx L id → id < s.nx + 4 * m := fun id hid => by
              rcases hid with hid | ⟨h1, h2⟩
              · omega
              · have hlt : (id - s.nx) / 4 < l.toArray.size := by
                  rcases Nat.lt_or_ge ((id - s.nx) / 4) L.size with h3 | h3
                  · rw [hI.size] at h3; exact h3
                  · simp [Array.getElem?_eq_none h3] at h2
                have := hheads _ hlt (fun hk2 => by rw [hI.notail _ hlt hk2] at h2; cases h2)
                omega
            refine (hHR.monoD hDn).weaken fun id b hb => ?_
            obtain ⟨hnk, hb⟩ := look_killH _ _ _ _ hb
            rcases putAll_hp rs _ _ id b hb with ⟨i, r, hi, hr, h3, h4, h5⟩ | h3
            · have hil : i < l.toArray.size := by
                have h6 := List.mem_range.1 hi
                have : m ≤ l.toArray.size := by
                  rw [← hmm]
                  unfold Rg.headL
                  exact Nat.le_trans (List.length_filter_le _ _) (by simp)
                omega
              have hki : at_ K i ≠ 2 := fun hk2 => by
                have : i ∈ Rg.tailL l.toArray K := by
                  unfold Rg.tailL
                  rw [List.mem_filter, List.mem_range]
                  exact ⟨hil, by simp [hk2]⟩
                rw [htl] at this
                have h6 := List.mem_range.1 hi
                obtain ⟨k, hk⟩ := List.mem_iff_getElem?.1 this
                rw [List.getElem?_drop] at hk
                obtain ⟨hkr1, hkr2⟩ := List.getElem?_eq_some_iff.1 hk
                rw [List.getElem_range] at hkr2
                omega
              obtain ⟨r', hr', _, _, hlen, _⟩ := hhd i l.toArray[i] (by rw [Array.getElem?_eq_getElem]) hki
              rw [hr] at hr'
              injection hr' with hr'
              subst hr'
              have hq : (id - s.nx) / 4 = i := by omega
              refine heapI_mk (by omega) (by rw [hq]; exact hall i hil hki) ?_ (by rw [hq]; exact hr) (by rw [show (id - s.nx) % 4 = id - (s.nx + 4 * i) by omega]; exact h5)
              cases hkq : killed l.toArray.size rs (fun d => L.getD d false) id with
              | false => rfl
              | true =>
                obtain ⟨k, rk, k1, k2, k3, k4⟩ := killed_iff.1 hkq
                have hk2' : at_ K k ≠ 2 := fun e => by rw [hI.notail k k1 e] at k2; cases k2
                exact absurd (mem_killIds _ k rk (List.mem_range.2 (hheads k k1 hk2')) k3 (kills_upd k4)) hnk
            · have h6 : id < s.nx := (hR.rel.hr.blk id b h3).1
              rw [heapI_lt h6]
              exact h3
          · rw [hI.tmps, hR.size]
            exact (putAll_nx (ops := l.toArray) rs (List.range m) s).2.2.symm
        · split
          · rename_i d _
            rw [hrep d]
            exact if_neg Bool.false_ne_true ▸ rfl
          · rfl
        · refine (hR.rel.hr.drew.monoD fun id h => .inl h).weaken fun id b hb => ?_
          rcases Nat.lt_or_ge id s.nx with h3 | h3
          · rw [heapI_lt h3] at hb; exact hb
          · have := (heapI_some h3 hb).1
            rw [hrep ((id - s.nx) / 4)] at this
            cases this
      · cases h
    · cases h
  · cases h
end
end Go.Proofs.Ytkoackalpcmhaaa.Am
/- The abstract machine: code, and calls. Conditions: none. -/
namespace Go.Proofs.Ytkoackalpcmhaaa.Am
set_option linter.unusedVariables false
set_option linter.unusedSimpArgs false
open Go Go.RowKit

/-- What is still to do: code; the end of a block; a loop with so many rounds left; a loop at whose head the machine stops. -/
inductive AI where
  | code (c : Code)
  | blk (id : Nat)
  | lp (n : Nat) (c : Code)
  | hd (n : Nat) (c : Code)
  | fin
def Kst (P : Program) (B : Exit → Act → World → Prop) : List AI → Exit → Act → World → Prop
  | [], e, a, w => B e a w
  | .code c :: k, .normal, a, w => c.wp P (Kst P B k) a w
  | .code _ :: k, e, a, w => Kst P B k e a w
  | .blk id :: k, e, a, w => Exit.inBlock id (Kst P B k) e a w
  | .lp n c :: k, .normal, a, w => Code.rounds P c (Kst P B k) n a w
  | .lp _ _ :: k, e, a, w => Kst P B k e a w
  | .hd n c :: k, .normal, a, w => Code.rounds P c (Kst P B k) n a w
  | .hd _ _ :: k, e, a, w => Kst P B k e a w
  | .fin :: _, .normal, a, w => B .ret a w
  | .fin :: k, e, a, w => Kst P B k e a w
def unwindTo (id : Nat) : List AI → Option (List AI)
  | [] => none
  | .blk i :: k => match Nat.beq i id with
    | true => some k
    | false => unwindTo id k
  | _ :: k => unwindTo id k
def firstReg : Code → Nat
  | .region id _ _ => id
  | .seq a _ => firstReg a
  | .block _ b => firstReg b
  | .loop b => firstReg b
  | _ => 0
structure Out where
  todo : List AI
  st : St
  asm : Asm
def andAsm (p : Asm) : Option Out → Option Out
  | some o => some { o with asm := p.and o.asm }
  | none => none
/-- The machine: until the end, a return, or a loop at whose head it is to stop. -/
def arun (T : List (Nat × Ty)) (O : List (Nat × Ent)) (H : Nat → Nat → Hint) (LH : List (Nat × Nat)) : Nat → List AI → St → Option Out
  | 0, _, _ => none
  | f + 1, todo, s =>
    match todo with
    | [] => some ⟨[], s, .tt⟩
    | .blk _ :: k => arun T O H LH f k s
    | .hd n c :: k => some ⟨.hd n c :: k, s, .tt⟩
    | .fin :: k => some ⟨.fin :: k, s, .tt⟩
    | .lp 0 _ :: _ => none
    | .lp (n + 1) c :: k => arun T O H LH f (.code c :: .lp n c :: k) s
    | .code c :: k =>
      match c with
      | .skip => arun T O H LH f k s
      | .seq x y => arun T O H LH f (.code x :: .code y :: k) s
      | .block id x => arun T O H LH f (.code x :: .blk id :: k) s
      | .loop x => match look LH (firstReg x) with
        | some n => arun T O H LH f (.lp n x :: k) s
        | none => some ⟨.code (.loop x) :: k, s, .tt⟩
      | .cond c x y => match evL s.get s.gl c with
        | some (.av (.one (.v (.bool true)))) => arun T O H LH f (.code x :: k) s
        | some (.av (.one (.v (.bool false)))) => arun T O H LH f (.code y :: k) s
        | _ => none
      | .exit id => match unwindTo id k with
        | some k' => arun T O H LH f k' s
        | none => none
      | .ret => some ⟨[.fin], s, .tt⟩
      | .region id ops draw => match (match draw with
          | false => seqOps T O ops (H id) ops.toList 0 s
          | true => drawOps T O ops.toList (H id) s) with
        | some (s', p) => andAsm p (arun T O H LH f k s')
        | none => none
      | _ => none

section
variable {P : Program} {T : List (Nat × Ty)} {O : List (Nat × Ent)} {N : Nat} {M : List Nat} {w0 : Wd} {B : Exit → Act → World → Prop}
variable [GT]

/-- From what is still to do, and what is known, the end is met. -/
def Runs (P : Program) (B : Exit → Act → World → Prop) (N : Nat) (M : List Nat) (w0 : Wd) (todo : List AI) (s : St) : Prop :=
  ∀ ρ a w, RelS ρ N M w0 s a w → Kst P B todo .normal a w

omit [GT] in
theorem kst_then (y : Code) (k : List AI) : Kst P B (.code y :: k) = Exit.then (y.wp P (Kst P B k)) (Kst P B k) := by
  funext e a w
  cases e <;> rfl
omit [GT] in
theorem kst_lp (n : Nat) (c : Code) (k : List AI) : Kst P B (.lp n c :: k) = Exit.then (Code.rounds P c (Kst P B k) n) (Kst P B k) := by
  funext e a w
  cases e <;> rfl
omit [GT] in
theorem kst_hd (n : Nat) (c : Code) (k : List AI) : Kst P B (.hd n c :: k) = Exit.then (Code.rounds P c (Kst P B k) n) (Kst P B k) := by
  funext e a w
  cases e <;> rfl
omit [GT] in
theorem kst_blk (id : Nat) (k : List AI) : Kst P B (.blk id :: k) = Exit.inBlock id (Kst P B k) := by
  funext e a w
  rfl
omit [GT] in
theorem unwind_spec {id : Nat} {a : Act} {w : World} : ∀ (k k' : List AI), unwindTo id k = some k' → Kst P B k' .normal a w → Kst P B k (.exit id) a w
  | [], _, h, _ => by cases h
  | .blk i :: k, k', h, hk => by
    unfold unwindTo at h
    rw [kst_blk]
    split at h
    · rename_i hi
      have := Nat.eq_of_beq_eq_true hi
      subst this
      simp only [Option.some.injEq] at h
      subst h
      show (if i = i then _ else _)
      rw [if_pos rfl]; exact hk
    · rename_i hi
      have hne : id ≠ i := fun e => by rw [e, Nat.beq_refl] at hi; cases hi
      show (if id = i then _ else _)
      rw [if_neg hne]
      exact unwind_spec k k' h hk
  | .code _ :: k, k', h, hk => unwind_spec k k' h hk
  | .lp _ _ :: k, k', h, hk => unwind_spec k k' h hk
  | .hd _ _ :: k, k', h, hk => unwind_spec k k' h hk
  | .fin :: k, k', h, hk => unwind_spec k k' h hk
omit [GT] in
theorem kst_ret {a : Act} {w : World} : ∀ (k : List AI), B .ret a w → Kst P B k .ret a w
  | [], h => h
  | .code _ :: k, h => kst_ret k h
  | .blk id :: k, h => by rw [kst_blk]; exact kst_ret k h
  | .lp _ _ :: k, h => kst_ret k h
  | .hd _ _ :: k, h => kst_ret k h
  | .fin :: k, h => kst_ret k h

theorem arun_sound (hT : TOK P T) (hO : OOK P O) (hm : P.follows .mixedOrders = true) {H : Nat → Nat → Hint} {LH : List (Nat × Nat)} : ∀ (f : Nat) (todo : List AI) (s : St) (o : Out), arun T O H LH f todo s = some o → o.asm.holds → Runs P B N M w0 o.todo o.st → Runs P B N M w0 todo s
  | 0, _, _, _, h, _, _ => by cases h
  | f + 1, todo, s, o, h, ha, hR => by
    unfold arun at h
    split at h
    · simp only [Option.some.injEq] at h
      subst h
      exact hR
    · rename_i id k
      have ih := arun_sound hT hO hm f k s o h ha hR
      intro ρ a w hr
      rw [kst_blk]
      exact ih ρ a w hr
    · simp only [Option.some.injEq] at h
      subst h
      exact hR
    · simp only [Option.some.injEq] at h
      subst h
      exact hR
    · cases h
    · rename_i n c k
      have ih := arun_sound hT hO hm f _ s o h ha hR
      intro ρ a w hr
      have := ih ρ a w hr
      show c.wp P (Exit.then (Code.rounds P c (Kst P B k) n) (Kst P B k)) a w
      rw [← kst_lp]
      exact this
    · rename_i c k
      split at h
      · have ih := arun_sound hT hO hm f _ s o h ha hR
        exact fun ρ a w hr => wp_skip (ih ρ a w hr)
      · rename_i x y
        have ih := arun_sound hT hO hm f _ s o h ha hR
        intro ρ a w hr
        refine wp_seq ?_
        rw [← kst_then]
        exact ih ρ a w hr
      · rename_i id x
        have ih := arun_sound hT hO hm f _ s o h ha hR
        intro ρ a w hr
        refine wp_block ?_
        rw [← kst_blk]
        exact ih ρ a w hr
      · rename_i x
        split at h
        · rename_i n hn
          have ih := arun_sound hT hO hm f _ s o h ha hR
          exact fun ρ a w hr => wp_loop_rounds n (ih ρ a w hr)
        · simp only [Option.some.injEq] at h
          subst h
          exact hR
      · rename_i c x y
        split at h
        · rename_i hc
          have ih := arun_sound hT hO hm f _ s o h ha hR
          exact fun ρ a w hr => wp_cond_true (hr.rel.ev c _ hc).1 (ih ρ a w hr)
        · rename_i hc
          have ih := arun_sound hT hO hm f _ s o h ha hR
          exact fun ρ a w hr => wp_cond_false (hr.rel.ev c _ hc).1 (ih ρ a w hr)
        · cases h
      · rename_i id
        split at h
        · rename_i k' hk
          have ih := arun_sound hT hO hm f _ s o h ha hR
          exact fun ρ a w hr => wp_exit (unwind_spec k k' hk (ih ρ a w hr))
        · cases h
      · simp only [Option.some.injEq] at h
        subst h
        exact fun ρ a w hr => wp_ret (kst_ret k (hR ρ a w hr))
      · rename_i id ops draw
        split at h
        · rename_i s' p hs
          cases hrest : arun T O H LH f k s' with
          | none => rw [hrest] at h; cases h
          | some o' =>
            rw [hrest] at h
            simp only [andAsm, Option.some.injEq] at h
            subst h
            have ih := arun_sound hT hO hm f k s' o' hrest ha.2 hR
            intro ρ a w hr
            cases draw with
            | false =>
              simp only at hs
              exact wp_region_list (seq_sound hT hO ops.toList 0 s s' p ρ a w hs ha.1 hr fun ρ' a' w' h' => ih ρ' a' w' h')
            | true =>
              simp only at hs
              have := draw_sound (id := id) (Q := Kst P B k) hT hO hm hs ha.1 hr fun ρ' a' w' h' => NoPanic.normal (ih ρ' a' w' h')
              have e : ops.toList.toArray = ops := by simp
              rw [e] at this
              exact this
        · cases h
      · cases h
/-! ### What a function hands back -/
omit [GT] in
def resOne (T : List (Nat × Ty)) (s : St) : ResultVar → Option AV
  | .tmp t => match s.get t with
    | some (.av a) => some a
    | _ => none
  | .cell t ty => match s.get t, look T ty with
    | some (.av (.one (.p id off))), some q => match look s.hp id with
      | some b => match readAt q false b.c off with
        | some (.av a, _) => some a
        | _ => none
      | none => none
    | _, _ => none
omit [GT] in
def resAll (T : List (Nat × Ty)) (s : St) : List ResultVar → Option (List AV)
  | [] => some []
  | r :: l => match resOne T s r, resAll T s l with
    | some a, some q => some (a :: q)
    | _, _ => none
omit [GT] in
def resVal (T : List (Nat × Ty)) (s : St) (l : List ResultVar) : Option SV :=
  match resAll T s l with
  | some [a] => some (.av a)
  | some l => some (.tup l)
  | none => none

omit [GT] in
theorem readAt_asm {ty : Ty} {c : List Seg} {off : Nat} {v : SV} {p : Asm} (h : readAt ty false c off = some (v, p)) : p.holds := by
  unfold readAt at h
  cases hagg : ty.u.agg with
  | true =>
    rw [hagg] at h
    simp only at h
    split at h
    · simp only [Option.some.injEq, Prod.mk.injEq] at h; rw [← h.2]; trivial
    · cases h
  | false =>
    rw [hagg] at h
    simp only at h
    split at h
    · simp only [Option.some.injEq, Prod.mk.injEq] at h; rw [← h.2]; trivial
    · cases h
omit [GT] in
def resF (tmps : Array Value) : ResultVar → Sem Value
  | .tmp t => pure (tmps.getD t undef)
  | .cell a t => do loadVar t (← asAddr (tmps.getD a undef))
theorem resOne_spec (hT : TOK P T) {s : St} {ρ : Nat → Loc} {a : Act} {w : World} (h : RelS ρ N M w0 s a w) {r : ResultVar} {v : AV} (hr : resOne T s r = some v) :
    (resF a.tmps r).run P w = .ok (v.conc ρ) w := by
  cases r with
  | tmp t =>
    simp only [resOne] at hr
    split at hr
    · rename_i x hx
      simp only [Option.some.injEq] at hr
      subst hr
      have := (h.rel.slots t _ hx).1
      simp only [Act.eval, conc_av] at this
      simp only [resF, this]; rfl
    · cases hr
  | cell t ty =>
    simp only [resOne] at hr
    split at hr
    · rename_i id off q hx hq
      split at hr
      · rename_i b hb
        split at hr
        · rename_i x p hread
          simp only [Option.some.injEq] at hr
          subst hr
          have hv := (h.rel.slots t _ hx).1
          have hty := hT ty q hq
          have hp := readAt_asm hread
          obtain ⟨_, h2, h3⟩ := readAt_spec (P := P) (ρ := ρ) (w := w) hty hread hp
          simp only [Act.eval] at hv
          simp only [resF, hv]
          cases hagg : q.u.agg with
          | true =>
            obtain ⟨l, hl, he, hpos⟩ := h3 hagg
            obtain ⟨_, hlen⟩ := getSegs_spec ρ hl
            obtain ⟨y, hy, hc⟩ := cells_at (l := segsVals ρ l) h.rel.hr hb (getSegs_at ρ hl) (by omega)
            have e : x.conc ρ = .agg (segsVals ρ l).toArray := by
              have : SV.conc ρ (.av x) = SV.conc ρ (.av (mkAgg l)) := by rw [he]
              rw [conc_av, conc_av, mkAgg_conc] at this
              exact this
            rw [conc_p, hy, e]
            have hlc := run_loadCells_list (P := P) w (y.add off) (segsVals ρ l) hc
            rw [hlen] at hlc
            simp only [Option.map_some, asAddr, loadVar, Sem.run_bind, Sem.run_pure, Result.andThen_ok, hty.agg, hagg, if_true, hty.run_size, hlc]
          | false =>
            have h4 := h2 hagg
            obtain ⟨y, hy, hc⟩ := cells_at (l := [x.conc ρ]) (off := off) h.rel.hr hb (fun j u hj => by
              cases j with
              | zero => simp only [List.getElem?_cons_zero, Option.some.injEq] at hj; subst hj; exact h4
              | succ j => simp at hj) (by simp)
            rw [conc_p, hy]
            have hc0 := hc 0 _ rfl
            have : (y.add off).add 0 = y.add off := by simp [Addr.add]
            rw [this] at hc0
            simp [asAddr, loadVar, hty.agg, hagg, hc0]
        · cases hr
      · cases hr
    · cases hr
theorem resAll_spec (hT : TOK P T) {s : St} {ρ : Nat → Loc} {a : Act} {w : World} (h : RelS ρ N M w0 s a w) : ∀ (l : List ResultVar) (vs : List AV), resAll T s l = some vs →
    (l.mapM (resF a.tmps)).run P w = Result.ok (vs.map (AV.conc ρ)) w
  | [], vs, hr => by
    simp only [resAll, Option.some.injEq] at hr
    subst hr
    rfl
  | r :: l, vs, hr => by
    unfold resAll at hr
    split at hr
    · rename_i v q hv hq
      simp only [Option.some.injEq] at hr
      subst hr
      rw [List.mapM_cons, Sem.run_bind, resOne_spec hT h hv]
      simp only [Result.andThen_ok]
      rw [Sem.run_bind, resAll_spec hT h l q hq]
      rfl
    · cases hr
theorem resVal_spec (hT : TOK P T) {s : St} {ρ : Nat → Loc} {a : Act} {w : World} (h : RelS ρ N M w0 s a w) {fn : Func} {v : SV} (hr : resVal T s fn.results.toList = some v) : (results fn a.tmps).run P w = .ok (v.conc ρ) w := by
  unfold resVal at hr
  have key : ∀ vs, resAll T s fn.results.toList = some vs → (results fn a.tmps).run P w = .ok (if h : (vs.map (AV.conc ρ)).toArray.size = 1 then (vs.map (AV.conc ρ)).toArray[0] else .tuple (vs.map (AV.conc ρ)).toArray) w := by
    intro vs hvs
    have h1 := resAll_spec hT h _ _ hvs
    have e : results fn a.tmps = (do
      let vs ← fn.results.mapM (resF a.tmps)
      pure (if h : vs.size = 1 then vs[0] else .tuple vs)) := rfl
    rw [e, Sem.run_bind, Array.mapM_eq_mapM_toList]
    have h2 : (List.toArray <$> fn.results.toList.mapM (resF a.tmps)).run P w = .ok (vs.map (AV.conc ρ)).toArray w := by
      rw [← bind_pure_comp, Sem.run_bind, h1]
      rfl
    rw [h2]
    rfl
  split at hr
  · rename_i x hx
    simp only [Option.some.injEq] at hr
    subst hr
    rw [key _ hx]
    rfl
  · rename_i l hl hx
    simp only [Option.some.injEq] at hr
    subst hr
    rw [key _ hx, dif_neg]
    · rfl
    · intro h1
      simp at h1
      match l, h1, hl with
      | [x], _, hl => exact hl x rfl
  · cases hr
end
end Go.Proofs.Ytkoackalpcmhaaa.Am
/- The abstract machine: contracts out of runs. Conditions: none. -/
namespace Go.Proofs.Ytkoackalpcmhaaa.Am
set_option linter.unusedVariables false
set_option linter.unusedSimpArgs false
open Go Go.RowKit

theorem info_some {P : Program} {t : TypeId} {n : Nat} (h : (P.info? t).map (fun i => i.size) = some n) : ∃ i, P.info? t = some i ∧ i.size = n := by
  rw [Option.map_eq_some_iff] at h
  exact h
theorem info_of {P : Program} {t : TypeId} {size bytes : Nat} {z : Value} (h : (P.info? t).map (fun i => (i.size, i.bytes, i.zero)) = some (size, bytes, some z)) : ∃ i, P.info? t = some i ∧ i.size = size ∧ i.bytes = bytes ∧ i.zero = some z := by
  rw [Option.map_eq_some_iff] at h
  obtain ⟨i, hi, he⟩ := h
  simp only [Prod.mk.injEq] at he
  exact ⟨i, hi, he.1, he.2.1, he.2.2⟩
def stView (P : Program) (t : TypeId) : Option (List (Nat × TypeId) × Option (List (Nat × Nat))) :=
  match P.underlying t with
  | some (.struct fs) => some (fs.toList.map (fun f => (f.offset, f.type)), fs.toList.mapM (fun f => (P.info? f.type).map fun i => (f.offset, i.size)))
  | _ => none
theorem st_of {P : Program} {t : TypeId} {l : List (Nat × TypeId)} {pls : List (Nat × Nat)} (h : stView P t = some (l, some pls)) : UOK P t (.st l) := by
  unfold stView at h
  split at h
  · rename_i fs hu
    simp only [Option.some.injEq, Prod.mk.injEq] at h
    exact ⟨fs, hu, h.1.symm, pls, h.2⟩
  · cases h
def TyAll (P : Program) : List (Nat × Ty) → Prop
  | [] => True
  | x :: l => TyOK P x.1 x.2 ∧ TyAll P l
theorem tok_of {P : Program} : ∀ {l : List (Nat × Ty)}, TyAll P l → TOK P l
  | [], _ => fun t ty h => by cases h
  | (k, x) :: l, h => fun t ty ht => by
    rw [look_cons] at ht
    by_cases hk : k = t
    · rw [if_pos hk] at ht
      injection ht with ht
      subst hk ht
      exact h.1
    · rw [if_neg hk] at ht
      exact tok_of h.2 t ty ht
def EntAll [GT] (P : Program) : List (Nat × Ent) → Prop
  | [] => True
  | x :: l => EntOK P x.1 x.2 ∧ EntAll P l
theorem ook_of [GT] {P : Program} : ∀ {l : List (Nat × Ent)}, EntAll P l → OOK P l
  | [], _ => fun t ty h => by cases h
  | (k, x) :: l, h => fun t ty ht => by
    rw [look_cons] at ht
    by_cases hk : k = t
    · rw [if_pos hk] at ht
      injection ht with ht
      subst hk ht
      exact h.1
    · rw [if_neg hk] at ht
      exact ook_of h.2 t ty ht

section
variable {P : Program} {T : List (Nat × Ty)} {O : List (Nat × Ent)}
variable [GT]

omit [GT] in
/-- The state at a function's beginning. -/
def start (avs : List SV) (n : Nat) (hp : List (Nat × Blk)) (nx : Nat) (gl : List (Nat × Nat)) : St :=
  { tm := avs.map some ++ List.replicate (n - avs.length) none, hp, nx, gl }
omit [GT] in
theorem nth_get? {α : Type} : ∀ (l : List α) (n : Nat), nth l n = l[n]?
  | [], _ => by simp [nth]
  | _ :: _, 0 => rfl
  | _ :: l, n + 1 => by rw [nth, nth_get? l n]; rfl
theorem rel_start {ρ : Nat → Loc} {M : List Nat} {w : World} {avs : List SV} {n nx : Nat} {hp : List (Nat × Blk)} {gl : List (Nat × Nat)} (hin : ∀ s ∈ avs, s.In (· < nx)) (hlen : avs.length ≤ n) (hG : HR ρ (· < nx) w.heap.size M (look hp) w) {lk : Nat → Option Addr} (hgl : ∀ x id, LkOK gl lk x id → (ρ id).a = some x ∧ id < nx) :
    RelS ρ w.heap.size M ⟨w, lk⟩ (start avs n hp nx gl) { tmps := (avs.map (SV.conc ρ)).toArray ++ Array.replicate (n - (avs.map (SV.conc ρ)).toArray.size) undef, defers := [] } w := by
  refine ⟨⟨fun t sv ht => ?_, hgl, hG, Kept.refl _ _ _, rfl⟩, by simp [start]⟩
  unfold St.get start at ht
  simp only [nth_get?] at ht
  split at ht
  · rename_i v hv
    simp only [Option.some.injEq] at ht
    subst ht
    rw [List.getElem?_append] at hv
    split at hv
    · rename_i hl
      rw [List.getElem?_map, Option.map_eq_some_iff] at hv
      obtain ⟨x, hx, he⟩ := hv
      injection he with he
      subst he
      refine ⟨?_, hin x (List.mem_of_getElem? hx)⟩
      have hl' : t < avs.length := by simpa using hl
      simp only [Act.eval, Array.getD_eq_getD_getElem?]
      rw [Array.getElem?_append_left (by simpa using hl')]
      simp [hx]
    · rw [List.getElem?_replicate] at hv
      split at hv
      · cases hv
      · cases hv
  · cases ht
/-- A call, out of a run from its function's beginning. -/
theorem calls_am {f : FuncId} {fn : Func} {c : Code} (hf : P.funcs[f]? = some fn) (hb : fn.body = some c) {ρ : Nat → Loc} {M : List Nat} {w : World} {avs : List SV} {nx : Nat} {hp : List (Nat × Blk)} {gl : List (Nat × Nat)} {args : Array Value} (hargs : args = (avs.map (SV.conc ρ)).toArray) (hin : ∀ s ∈ avs, s.In (· < nx)) (hlen : avs.length ≤ fn.ntmps) (hG : HR ρ (· < nx) w.heap.size M (look hp) w) {lk : Nat → Option Addr} (hgl : ∀ x id, LkOK gl lk x id → (ρ id).a = some x ∧ id < nx) {R : Ending → World → Prop}
    (h : Runs P (bodyPost P fn R) w.heap.size M ⟨w, lk⟩ [.code c] (start avs fn.ntmps hp nx gl)) : Calls P f args w R := by
  refine calls_of_wp hf hb ?_
  subst hargs
  exact h ρ _ w (rel_start hin hlen hG hgl)
/-- The end of a run. -/
theorem runs_end (hT : TOK P T) {fn : Func} {R : Ending → World → Prop} {N : Nat} {M : List Nat} {w0 : Wd} {todo : List AI} {s : St} {v : SV} (ht : todo = [] ∨ todo = [.fin]) (hv : resVal T s fn.results.toList = some v) (hR : ∀ ρ a w, RelS ρ N M w0 s a w → R (.returned (v.conc ρ)) w) : Runs P (bodyPost P fn R) N M w0 todo s := by
  intro ρ a w h
  have h1 := resVal_spec (P := P) hT h hv
  rcases ht with rfl | rfl
  · exact ⟨h.rel.defers, _, h1, hR ρ a w h⟩
  · exact ⟨h.rel.defers, _, h1, hR ρ a w h⟩
omit [GT] in
/-- A run whose every step the machine makes. -/
def whole (T : List (Nat × Ty)) (O : List (Nat × Ent)) (H : Nat → Nat → Hint) (LH : List (Nat × Nat)) (fuel : Nat) (rs : List ResultVar) (todo : List AI) (s : St) : Option (SV × St × Asm) :=
  match arun T O H LH fuel todo s with
  | some o => match o.todo with
    | [] => match resVal T o.st rs with
      | some v => some (v, o.st, o.asm)
      | none => none
    | [.fin] => match resVal T o.st rs with
      | some v => some (v, o.st, o.asm)
      | none => none
    | _ => none
  | none => none
theorem whole_runs (hT : TOK P T) (hO : OOK P O) (hm : P.follows .mixedOrders = true) {H : Nat → Nat → Hint} {LH : List (Nat × Nat)} {fuel : Nat} {fn : Func} {R : Ending → World → Prop} {N : Nat} {M : List Nat} {w0 : Wd} {todo : List AI} {s : St} {v : SV} {st : St} {p : Asm} (h : whole T O H LH fuel fn.results.toList todo s = some (v, st, p)) (hp' : p.holds)
    (hR : ∀ ρ w, HR ρ (· < st.nx) N M (look st.hp) w → Kept N M w0.w w → (∀ id x, w0.lk id = some x → (ρ id).a = some x) → R (.returned (v.conc ρ)) w) : Runs P (bodyPost P fn R) N M w0 todo s := by
  unfold whole at h
  split at h
  · rename_i o ho
    split at h
    · rename_i ht
      split at h
      · rename_i v' hv
        simp only [Option.some.injEq, Prod.mk.injEq] at h
        obtain ⟨rfl, rfl, rfl⟩ := h
        exact arun_sound hT hO hm _ _ _ _ ho hp' (runs_end hT (.inl ht) hv fun ρ a w h => hR ρ w h.rel.hr h.rel.kept (fun id x hx => (h.rel.globals x id (.inr hx)).1))
      · cases h
    · rename_i ht
      split at h
      · rename_i v' hv
        simp only [Option.some.injEq, Prod.mk.injEq] at h
        obtain ⟨rfl, rfl, rfl⟩ := h
        exact arun_sound hT hO hm _ _ _ _ ho hp' (runs_end hT (.inr ht) hv fun ρ a w h => hR ρ w h.rel.hr h.rel.kept (fun id x hx => (h.rel.globals x id (.inr hx)).1))
      · cases h
    · cases h
  · cases h

omit [GT] in
/-- What a whole run hands back, and what it leans on. -/
def wholeV (T : List (Nat × Ty)) (O : List (Nat × Ent)) (H : Nat → Nat → Hint) (LH : List (Nat × Nat)) (fuel : Nat) (fn : Func) (avs : List SV) : Option (SV × List Prop) :=
  match fn.body with
  | some c => match whole T O H LH fuel fn.results.toList [.code c] (start avs fn.ntmps [] 0 []) with
    | some (v, _, p) => some (v, p.list [])
    | none => none
  | none => none
/-- A function of values to a value. -/
theorem am_val (hT : TOK P T) (hO : OOK P O) (hm : P.follows .mixedOrders = true) {H : Nat → Nat → Hint} {LH : List (Nat × Nat)} {fuel : Nat} {f : FuncId} {fn : Func} (hf : P.funcs[f]? = some fn) {avs : List SV} (hlen : Nat.ble avs.length fn.ntmps = true) {v : SV} {ps : List Prop} (h : wholeV T O H LH fuel fn avs = some (v, ps)) (hps : AllP ps) (hin : avs.all (svB fun _ => false) = true) (hv : svB (fun _ => false) v = true) (ρ : Nat → Loc) (w : World) (hgw : GWok w.heap.size [] w) :
    Calls P f (avs.map (SV.conc ρ)).toArray w fun e w' => e = .returned (v.conc ρ) ∧ Below w.heap.size w w' := by
  unfold wholeV at h
  split at h
  · rename_i c hb
    split at h
    · rename_i v' hp p hw
      simp only [Option.some.injEq, Prod.mk.injEq] at h
      obtain ⟨rfl, rfl⟩ := h
      have hav : ∀ s ∈ avs, s.In (fun _ => False) := fun s hs => svB_in (f := fun _ => false) (fun _ h => by cases h) (List.all_eq_true.1 hin s hs)
      refine calls_am hf hb (ρ := ρ) (M := []) (nx := 0) (hp := []) (gl := []) rfl (fun s hs => (hav s hs).mono fun _ h => h.elim) (Nat.le_of_ble_eq_true hlen) ⟨Nat.le_refl _, fun id b h => (by cases h), fun id b x h => (by cases h), fun id b x h => (by cases h), fun i j bi bj x y h => (by cases h), hgw⟩ (lk := fun _ => none) (fun x id h => by rcases h with ⟨_, _, h⟩ | h <;> cases h) ?_
      refine whole_runs hT hO hm hw (Asm.of_list _ _ hps).1 fun ρ' w' _ hk _ => ⟨?_, hk.below⟩
      rw [SV.conc_congr (D := fun _ => False) (ρ := ρ) (ρ' := ρ') (fun _ h => h.elim) (svB_in (f := fun _ => false) (fun _ h => by cases h) hv)]
    · cases h
  · cases h
/-- A contract of a function that gives a value and leaves old memory alone, as the machine takes it. -/
theorem ent_val {f : FuncId} {args : Array Value} {w : World} {v : Value} (h : Calls P f args w fun e w' => e = .returned v ∧ Below w.heap.size w w') {ρ : Nat → Loc} {D : Nat → Prop} {N : Nat} {M : List Nat} {G : Nat → Option Blk} {base : Nat} {r : Res} (hG : HR ρ D N M G w) (hv : v = r.val.conc ρ) (hn : r.new = []) (hu : r.upd = []) :
    Calls P f args w fun e w' => ∃ v, e = .returned v ∧ ∃ ρ', Fits ρ D N M G base r w ρ' v w' := by
  refine h.mono fun e w' ⟨he, hb⟩ => ⟨v, he, ρ, fun _ _ => rfl, hv, ?_, Kept.of_below (hb.mono hG.size), fun _ => ⟨hb, fun k b x hk => by rw [hn] at hk; cases hk⟩⟩
  have : appl G base r = G := by
    funext id
    unfold appl
    rw [hu, hn]
    simp only [look, List.length_nil]
    rw [if_neg (by omega)]
  rw [this]
  exact hG.step (U := fun _ => False) (fun _ _ => rfl) (fun id h => .inl h) (Kept.of_below (hb.mono hG.size)) (fun _ _ h _ => h) (fun id b x hb' _ hx => hb.block _ (hG.lt id b x hb' hx)) (fun _ _ _ h => h.elim) (fun _ _ _ _ h => h.elim) (fun _ _ _ _ h => h.elim) (fun _ _ _ _ _ _ _ _ _ h => (h.elim id id).elim)
end
end Go.Proofs.Ytkoackalpcmhaaa.Am
/- The abstract machine: contracts that hand back a new row, or a row to be read. Conditions: none. -/
namespace Go.Proofs.Ytkoackalpcmhaaa.Am
set_option linter.unusedVariables false
set_option linter.unusedSimpArgs false
open Go Go.RowKit

section
variable {P : Program} {ρ : Nat → Loc} {D : Nat → Prop} {N : Nat} {M : List Nat} {G : Nat → Option Blk} {base : Nat}
variable [GT]

/-- One new block behind a call that leaves old memory alone. -/
theorem fits_fresh {w w' : World} (hG : HR ρ D N M G w) (hb : Below w.heap.size w w') {b : Blk} {l : Loc} {r : Res} {v : Value} (hf : ¬ D base) (hn : r.new = [b]) (hu : r.upd = []) (hin : segsIn D b.c) (hok : BlkOK (up ρ base l) w' base b) (hfr : ∀ x, l.a = some x → w.heap.size ≤ x.block ∧ x.block < w'.heap.size) (hv : v = r.val.conc (up ρ base l)) : Fits ρ D N M G base r w (up ρ base l) v w' := by
  have hag : ∀ i, D i → up ρ base l i = ρ i := up_agree hf
  refine ⟨hag, hv, ?_, Kept.of_below (hb.mono hG.size), fun _ => ⟨hb, fun k b' x hk hx => ?_⟩⟩
  · have ha : ∀ id, appl G base r id = if id = base then some b else G id := fun id => by
      unfold appl
      rw [hu, hn]
      simp only [look, List.length_cons, List.length_nil]
      by_cases h : id = base
      · subst h; simp
      · rw [if_neg (by omega), if_neg h]
    refine hG.step (U := fun id => id = base) hag (fun id h => .inl h) (Kept.of_below (hb.mono hG.size)) (fun id b' hb' hU => ?_) (fun id b' x hb' hU hx => ?_) (fun id b' hb' hU => ?_) (fun id b' x hb' hU hx => ?_) (fun id b' x hb' hU hk hx => ?_) (fun i j bi bj x y hi hj hij hU hk hx hy => ?_)
    · rw [ha, if_neg hU] at hb'; exact hb'
    · rw [ha, if_neg hU] at hb'
      exact hb.block _ (hG.lt id b' x hb' hx)
    · subst hU
      rw [ha, if_pos rfl] at hb'
      injection hb' with hb'
      subst hb'
      exact ⟨.inr ⟨Nat.le_refl _, by rw [hn]; simp⟩, hin.mono fun i h => .inl h, hok⟩
    · subst hU
      rw [up_self] at hx
      exact (hfr x hx).2
    · subst hU
      rw [up_self] at hx
      exact .inl (Nat.le_trans hG.size (hfr x hx).1)
    · rw [ha] at hi hj
      by_cases h1 : i = base
      · subst h1
        rw [if_neg fun e => hij e.symm] at hj
        rw [up_self] at hx
        have h3 := (hfr x hx).1
        rw [hag j (hG.blk j bj hj).1] at hy
        have := hG.lt j bj y hj hy
        omega
      · have h2 : j = base := hU.resolve_left h1
        subst h2
        rw [if_neg h1] at hi
        rw [up_self] at hy
        have h3 := (hfr y hy).1
        rw [hag i (hG.blk i bi hi).1] at hx
        have := hG.lt i bi x hi hx
        omega
  · rw [hn] at hk
    cases k with
    | zero =>
      simp only [Nat.add_zero, up_self] at hx
      exact (hfr x hx).1
    | succ k => simp at hk

theorem ent_row {f : FuncId} {args : Array Value} {w : World} {ty : TypeId} {n : Nat} {xs : List Value} (h : Calls P f args w fun e w' => (∃ v, e = .returned v ∧ w'.ownsRow w.heap.size ty 1 v n xs) ∧ Below w.heap.size w w') (hG : HR ρ D N M G w) {c : List Seg} {r : Res} (hf : ¬ D base) (hn : r.new = [⟨1, ty, c⟩]) (hu : r.upd = []) (hin : segsIn D c) (hc : segsVals ρ c = xs) (hv : r.val = .av (.one (.r base 0 n 0))) :
    Calls P f args w fun e w' => ∃ v, e = .returned v ∧ ∃ ρ', Fits ρ D N M G base r w ρ' v w' := by
  refine h.mono fun e w' ⟨⟨v, he, ho⟩, hb⟩ => ?_
  obtain ⟨ad, cap, hvv⟩ : ∃ ad cap, v = .slice ad n cap := by
    rcases ho.2 with ⟨rfl, h⟩ | ⟨g, cap, cur, rfl, _⟩
    · exact ⟨none, 0, by rw [h]⟩
    · exact ⟨_, cap, rfl⟩
  have hl : xs.length = n := by have := ho.1; omega
  have hag : ∀ i, D i → up ρ base ⟨ad, cap⟩ i = ρ i := up_agree hf
  refine ⟨v, he, _, fits_fresh (l := ⟨ad, cap⟩) hG hb hf hn hu hin ?_ ?_ ?_⟩
  · show w'.ownsRow 0 ty 1 _ _ _
    simp only [up_self]
    rw [segsVals_congr hag hin, hc, hl, ← hvv]
    refine ⟨ho.1, ?_⟩
    rcases ho.2 with h | ⟨g, cap, cur, h1, h2, h3⟩
    · exact .inl h
    · exact .inr ⟨g, cap, cur, h1, Nat.zero_le _, h3⟩
  · intro x hx
    have := ho.lt x.block (by rw [hvv]; simp only at hx; rw [hx]; rfl)
    exact this
  · rw [hv, hvv]
    simp only [SV.conc, AV.conc, Seg.conc, up_self, radr, Nat.sub_zero]
    congr 1
    cases ad <;> simp [Addr.add]
end

/-! numbers -/
def wd (n j : Nat) : Nat := n / 18446744073709551616 ^ j % 18446744073709551616
theorem wd_lt (n j : Nat) : wd n j < 18446744073709551616 := Nat.mod_lt _ (by decide)
theorem word_wd (n j : Nat) : word n j = (wd n j : Int) := rfl

end Go.Proofs.Ytkoackalpcmhaaa.Am
/- The abstract machine: a call that the machine runs through itself. Conditions: none. -/
namespace Go.Proofs.Ytkoackalpcmhaaa.Am
set_option linter.unusedVariables false
set_option linter.unusedSimpArgs false
open Go Go.RowKit

def Seg.ren (f : Nat → Nat) : Seg → Seg
  | .v x => .v x
  | .num n => .num n
  | .arr k l => .arr k l
  | .ap k F n => .ap k F n
  | .p id off => .p (f id) off
  | .s id off len cap => .s (f id) off len cap
  | .r id off len ad => .r (f id) off len ad
def renL (f : Nat → Nat) : List Seg → List Seg
  | [] => []
  | x :: l => x.ren f :: renL f l
def AV.ren (f : Nat → Nat) : AV → AV
  | .one s => .one (s.ren f)
  | .agg l => .agg (renL f l)
def renT (f : Nat → Nat) : List AV → List AV
  | [] => []
  | x :: l => x.ren f :: renT f l
def SV.ren (f : Nat → Nat) : SV → SV
  | .av a => .av (a.ren f)
  | .tup l => .tup (renT f l)
def Seg.ids : Seg → List Nat
  | .p id _ => [id]
  | .s id _ _ _ => [id]
  | .r id _ _ _ => [id]
  | _ => []
def idsL : List Seg → List Nat
  | [] => []
  | x :: l => x.ids ++ idsL l
def idsT : List AV → List Nat
  | [] => []
  | x :: l => idsL x.segs ++ idsT l
def SV.ids : SV → List Nat
  | .av a => idsL a.segs
  | .tup l => idsT l
def memB (n : Nat) : List Nat → Bool
  | [] => false
  | x :: l => match Nat.beq x n with
    | true => true
    | false => memB n l
def idx (n : Nat) : List Nat → Nat
  | [] => 0
  | x :: l => match Nat.beq x n with
    | true => 0
    | false => idx n l + 1

theorem memB_mem {n : Nat} : ∀ {l : List Nat}, memB n l = true ↔ n ∈ l
  | [] => by simp [memB]
  | x :: l => by
    unfold memB
    split
    · rename_i h
      have := Nat.eq_of_beq_eq_true h
      subst this
      simp
    · rename_i h
      have hne : n ≠ x := fun e => by rw [e, Nat.beq_refl] at h; cases h
      rw [memB_mem]
      simp [hne]
theorem idx_get {n : Nat} : ∀ {l : List Nat}, n ∈ l → l[idx n l]? = some n
  | [], h => by cases h
  | x :: l, h => by
    unfold idx
    split
    · rename_i hx
      have := Nat.eq_of_beq_eq_true hx
      subst this
      rfl
    · rename_i hx
      have hne : n ≠ x := fun e => by rw [e, Nat.beq_refl] at hx; cases hx
      rw [List.getElem?_cons_succ]
      exact idx_get ((List.mem_cons.1 h).resolve_left hne)
theorem idx_lt {n : Nat} {l : List Nat} (h : n ∈ l) : idx n l < l.length := by
  have := idx_get h
  rcases Nat.lt_or_ge (idx n l) l.length with h | h
  · exact h
  · rw [List.getElem?_eq_none h] at this; cases this

/-- Renamed values are what they were, if their places are. -/
theorem Seg.ren_conc {f : Nat → Nat} {ρ ρ' : Nat → Loc} {s : Seg} (h : ∀ id, id ∈ s.ids → (ρ' (f id)).a = (ρ id).a) (hr : ∀ id o l a, s = .r id o l a → ρ' (f id) = ρ id) : (s.ren f).conc ρ' = s.conc ρ := by
  cases s with
  | v | num | arr | ap => rfl
  | p id off => simp [Seg.ren, Seg.conc, h id (by simp [Seg.ids])]
  | s id off len cap => simp [Seg.ren, Seg.conc, h id (by simp [Seg.ids])]
  | r id off len ad => simp [Seg.ren, Seg.conc, hr id off len ad rfl]
theorem Seg.ren_vals {f : Nat → Nat} {ρ ρ' : Nat → Loc} {s : Seg} (h : ∀ id, id ∈ s.ids → (ρ' (f id)).a = (ρ id).a) (hr : ∀ id o l a, s = .r id o l a → ρ' (f id) = ρ id) : (s.ren f).vals ρ' = s.vals ρ := by
  have := Seg.ren_conc h hr
  cases s <;> first | rfl | simpa [Seg.ren, Seg.vals] using this
/-- Are the places of a segment the same? -/
def Same (f : Nat → Nat) (ρ ρ' : Nat → Loc) (s : Seg) : Prop := (∀ id, id ∈ s.ids → (ρ' (f id)).a = (ρ id).a) ∧ ∀ id o l a, s = .r id o l a → ρ' (f id) = ρ id
theorem renL_vals {f : Nat → Nat} {ρ ρ' : Nat → Loc} : ∀ {l : List Seg}, (∀ s ∈ l, Same f ρ ρ' s) → segsVals ρ' (renL f l) = segsVals ρ l
  | [], _ => rfl
  | x :: l, h => by
    rw [renL, segsVals_cons, segsVals_cons, renL_vals fun s hs => h s (by simp [hs]), Seg.ren_vals (h x (by simp)).1 (h x (by simp)).2]
theorem AV.ren_conc {f : Nat → Nat} {ρ ρ' : Nat → Loc} {a : AV} (h : ∀ s ∈ a.segs, Same f ρ ρ' s) : (a.ren f).conc ρ' = a.conc ρ := by
  cases a with
  | one s => exact Seg.ren_conc (h s (by simp [AV.segs])).1 (h s (by simp [AV.segs])).2
  | agg l => simp only [AV.ren, AV.conc, renL_vals (l := l) h]
def SV.All (p : Seg → Prop) : SV → Prop
  | .av a => ∀ s ∈ a.segs, p s
  | .tup l => ∀ a ∈ l, ∀ s ∈ a.segs, p s
theorem renT_map (f : Nat → Nat) : ∀ l, renT f l = l.map (AV.ren f)
  | [] => rfl
  | x :: l => by rw [renT, renT_map]; rfl
theorem renL_map (f : Nat → Nat) : ∀ l, renL f l = l.map (Seg.ren f)
  | [] => rfl
  | x :: l => by rw [renL, renL_map]; rfl
theorem SV.ren_conc {f : Nat → Nat} {ρ ρ' : Nat → Loc} {s : SV} (h : s.All (Same f ρ ρ')) : (s.ren f).conc ρ' = s.conc ρ := by
  cases s with
  | av a => exact AV.ren_conc h
  | tup l =>
    simp only [SV.ren, SV.conc, renT_map, List.map_map]
    congr 2
    exact List.map_congr_left fun a ha => AV.ren_conc (h a ha)
theorem Seg.ren_in {f : Nat → Nat} {D : Nat → Prop} {s : Seg} (h : ∀ id, id ∈ s.ids → D (f id)) : (s.ren f).In D := by
  cases s <;> first | trivial | exact h _ (by simp [Seg.ids])
theorem segs_ren (f : Nat → Nat) (a : AV) : (a.ren f).segs = renL f a.segs := by cases a <;> rfl
theorem renL_in {f : Nat → Nat} {D : Nat → Prop} {l : List Seg} (h : ∀ s ∈ l, ∀ id, id ∈ s.ids → D (f id)) : segsIn D (renL f l) := by
  intro s hs
  rw [renL_map, List.mem_map] at hs
  obtain ⟨x, hx, rfl⟩ := hs
  exact Seg.ren_in (h x hx)
theorem SV.ren_in {f : Nat → Nat} {D : Nat → Prop} {s : SV} (h : s.All fun x => ∀ id, id ∈ x.ids → D (f id)) : (s.ren f).In D := by
  cases s with
  | av a =>
    show segsIn D (a.ren f).segs
    rw [segs_ren]
    exact renL_in h
  | tup l =>
    intro a ha
    rw [renT_map, List.mem_map] at ha
    obtain ⟨x, hx, rfl⟩ := ha
    show segsIn D (x.ren f).segs
    rw [segs_ren]
    exact renL_in (h x hx)

section
variable {P : Program} {ρ ρ1 : Nat → Loc} {D : Nat → Prop} {N : Nat} {M Mc : List Nat} {G G1 : Nat → Option Blk} {base : Nat} {w w1 : World} {σ es mu : List Nat} {nx : Nat}
variable [GT]

/-- What was run through is a call's end, to the one who called. -/
theorem inl_fits (hG : HR ρ D N M G w) (hσD : ∀ i id : Nat, σ[i]? = some id → D id) (hσn : ∀ i j id : Nat, σ[i]? = some id → σ[j]? = some id → i = j) (hfr : ∀ id, base ≤ id → id < base + es.length → ¬ D id)
    (h1 : HR ρ1 (· < nx) w.heap.size Mc G1 w1) (hk : Kept w.heap.size Mc w w1) (hlk : ∀ (i id : Nat) (x : Addr), σ[i]? = some id → (ρ id).a = some x → (ρ1 i).a = some x)
    (hMc : ∀ g ∈ Mc, ∃ (i id : Nat) (x : Addr), i ∈ mu ∧ σ[i]? = some id ∧ (ρ id).a = some x ∧ x.block = g)
    (hmu : ∀ i ∈ mu, ∃ (id : Nat) (b0 b : Blk), σ[i]? = some id ∧ G id = some b0 ∧ b0.k = 0 ∧ G1 i = some b ∧ b.k = 0)
    (hes : ∀ e ∈ es, σ.length ≤ e ∧ ∃ b, G1 e = some b ∧ b.k < 2) (hesn : ∀ i j e : Nat, es[i]? = some e → es[j]? = some e → i = j)
    {τ : Nat → Nat} (hτ1 : ∀ i id : Nat, σ[i]? = some id → τ i = id) (hτ2 : ∀ j e : Nat, es[j]? = some e → τ e = base + j)
    {r : Res} {v : SV} (hval : r.val = v.ren τ) (hnl : r.new.length = es.length) (hnew : ∀ (j e : Nat) (b : Blk), es[j]? = some e → G1 e = some b → r.new[j]? = some ⟨b.k, b.ty, renL τ b.c⟩)
    (hupd : ∀ (i id : Nat) (b : Blk), i ∈ mu → σ[i]? = some id → G1 i = some b → look r.upd id = some (some ⟨0, b.ty, renL τ b.c⟩)) (hupn : ∀ id : Nat, (∀ i : Nat, i ∈ mu → σ[i]? ≠ some id) → look r.upd id = none) (hup0 : r.upd = [] → mu = [])
    (X : Seg → Prop) (hX : ∀ s, X s → (∀ id, id ∈ s.ids → id ∈ es ∨ ∃ (i : Nat) (x : Addr), σ[id]? = some i ∧ (ρ i).a = some x) ∧ ∀ id o l a, s = .r id o l a → id ∈ es)
    (hXv : v.All X) (hXe : ∀ e ∈ es, ∀ b, G1 e = some b → ∀ s ∈ b.c, X s) (hXm : ∀ i ∈ mu, ∀ b, G1 i = some b → ∀ s ∈ b.c, X s) :
    ∃ ρ', Fits ρ D N M G base r w ρ' (v.conc ρ1) w1 := by
  obtain ⟨ρ', hρ'⟩ : ∃ ρ' : Nat → Loc, (fun id : Nat => if base ≤ id ∧ id < base + es.length then ρ1 (es.getD (id - base) 0) else ρ id) = ρ' := ⟨_, rfl⟩
  refine ⟨ρ', ?_⟩
  have hag : ∀ id, D id → ρ' id = ρ id := fun id hid => by
    rw [← hρ']
    exact if_neg fun ⟨h1, h2⟩ => hfr id h1 h2 hid
  have hne : ∀ j e : Nat, es[j]? = some e → ρ' (base + j) = ρ1 e := fun j e he => by
    have hj : j < es.length := by
      rcases Nat.lt_or_ge j es.length with h | h
      · exact h
      · rw [List.getElem?_eq_none h] at he; cases he
    rw [← hρ']
    simp only
    rw [if_pos ⟨by omega, by omega⟩, Nat.add_sub_cancel_left, List.getD_eq_getElem?_getD, he]
    rfl
  have hmem : ∀ e, e ∈ es → ∃ j : Nat, es[j]? = some e ∧ j < es.length := fun e he => by
    obtain ⟨j, hj, rfl⟩ := List.getElem_of_mem he
    exact ⟨j, List.getElem?_eq_getElem hj, hj⟩
  have hSame : ∀ s, X s → Same τ ρ1 ρ' s := fun s hs => by
    obtain ⟨ha, hb⟩ := hX s hs
    refine ⟨fun id hid => ?_, fun id o l a he => ?_⟩
    · rcases ha id hid with h | ⟨i, x, hi, hx⟩
      · obtain ⟨j, hj, _⟩ := hmem id h
        rw [hτ2 j id hj, hne j id hj]
      · rw [hτ1 id i hi, hag i (hσD id i hi), hx, hlk id i x hi hx]
    · obtain ⟨j, hj, _⟩ := hmem id (hb id o l a he)
      rw [hτ2 j id hj, hne j id hj]
  have hDs : ∀ s, X s → ∀ id, id ∈ s.ids → Dn D base es.length (τ id) := fun s hs id hid => by
    rcases (hX s hs).1 id hid with h | ⟨i, x, hi, hx⟩
    · obtain ⟨j, hj, hjl⟩ := hmem id h
      rw [hτ2 j id hj]
      exact .inr ⟨by omega, by omega⟩
    · rw [hτ1 id i hi]
      exact .inl (hσD id i hi)
  -- what is new is not of the old
  have hfresh : ∀ e b x, e ∈ es → G1 e = some b → (ρ1 e).a = some x → w.heap.size ≤ x.block := fun e b x he hb hx => by
    obtain ⟨hel, b', hb', hk'⟩ := hes e he
    rw [hb] at hb'
    injection hb' with hb'
    subst hb'
    rcases h1.own e b x hb hk' hx with h | h
    · exact h
    · obtain ⟨i, id, y, hi, hid, hy, he'⟩ := hMc _ h
      obtain ⟨id', b0, bb, hid', hG0, hk0, hb1, hk1⟩ := hmu i hi
      have hil : i < σ.length := by
        rcases Nat.lt_or_ge i σ.length with h | h
        · exact h
        · rw [List.getElem?_eq_none h] at hid; cases hid
      exact absurd he'.symm (h1.dist e i b bb x y hb hb1 (by omega) hk' hx (hlk i id y hid hy))
  have happl_m : ∀ (i id : Nat) (b : Blk), i ∈ mu → σ[i]? = some id → G1 i = some b → appl G base r id = some ⟨0, b.ty, renL τ b.c⟩ := fun i id b hi hid hb => by
    unfold appl
    rw [hupd i id b hi hid hb]
  have hnotm : ∀ id : Nat, base ≤ id → id < base + es.length → ∀ i : Nat, i ∈ mu → σ[i]? ≠ some id := fun id h1 h2 i _ hi => hfr id h1 h2 (hσD i id hi)
  have happl_n : ∀ (j e : Nat) (b : Blk), es[j]? = some e → G1 e = some b → appl G base r (base + j) = some ⟨b.k, b.ty, renL τ b.c⟩ := fun j e b he hb => by
    have hj : j < es.length := by
      rcases Nat.lt_or_ge j es.length with h | h
      · exact h
      · rw [List.getElem?_eq_none h] at he; cases he
    unfold appl
    rw [hupn _ (hnotm _ (by omega) (by omega)), hnl]
    simp only
    rw [if_pos ⟨by omega, by omega⟩, Nat.add_sub_cancel_left, hnew j e b he hb]
  have happl_o : ∀ id : Nat, (∀ i : Nat, i ∈ mu → σ[i]? ≠ some id) → ¬ (base ≤ id ∧ id < base + es.length) → appl G base r id = G id := fun id h1 h2 => by
    unfold appl
    rw [hupn id h1, hnl]
    simp only
    rw [if_neg h2]
  have hstay : ∀ (id : Nat) (b : Blk) (x : Addr), G id = some b → (∀ i : Nat, i ∈ mu → σ[i]? ≠ some id) → (ρ id).a = some x → w1.heap[x.block]? = w.heap[x.block]? := fun id b x hb hn hx => by
    refine hk.block _ (hG.lt id b x hb hx) fun hm => ?_
    obtain ⟨i, id', y, hi, hid, hy, he⟩ := hMc _ hm
    obtain ⟨id2, b0, bb, hid2, hG0, hk0, _⟩ := hmu i hi
    rw [hid] at hid2
    injection hid2 with hid2
    subst hid2
    exact absurd he (hG.dist id' id b0 b y x hG0 hb (fun e => hn i hi (e ▸ hid)) (by omega) hy hx)
  have hcase : ∀ (id : Nat) (b : Blk), appl G base r id = some b → ((∃ (i : Nat) (b' : Blk), i ∈ mu ∧ σ[i]? = some id ∧ G1 i = some b' ∧ b = ⟨0, b'.ty, renL τ b'.c⟩ ∧ b'.k = 0) ∨ (∃ (j e : Nat) (b' : Blk), es[j]? = some e ∧ id = base + j ∧ G1 e = some b' ∧ b = ⟨b'.k, b'.ty, renL τ b'.c⟩) ∨ (G id = some b ∧ (∀ i : Nat, i ∈ mu → σ[i]? ≠ some id) ∧ ¬ (base ≤ id ∧ id < base + es.length))) := fun id b hb => by
    by_cases hm : ∃ i : Nat, i ∈ mu ∧ σ[i]? = some id
    · obtain ⟨i, hi, hid⟩ := hm
      obtain ⟨id2, b0, bb, hid2, hG0, hk0, hb1, hk1⟩ := hmu i hi
      rw [happl_m i id bb hi hid hb1] at hb
      injection hb with hb
      exact .inl ⟨i, bb, hi, hid, hb1, hb.symm, hk1⟩
    · have hm' : ∀ i : Nat, i ∈ mu → σ[i]? ≠ some id := fun i hi he => hm ⟨i, hi, he⟩
      by_cases hr : base ≤ id ∧ id < base + es.length
      · have hj : id - base < es.length := by omega
        obtain ⟨_, b', hb', _⟩ := hes es[id - base] (List.getElem_mem hj)
        have e1 : es[id - base]? = some es[id - base] := List.getElem?_eq_getElem hj
        have := happl_n _ _ b' e1 hb'
        rw [show base + (id - base) = id by omega, hb] at this
        injection this with this
        exact .inr (.inl ⟨_, _, b', e1, by omega, hb', this⟩)
      · rw [happl_o id hm' hr] at hb
        exact .inr (.inr ⟨hb, hm', hr⟩)
  -- where a block lies
  have hplace_m : ∀ i id : Nat, i ∈ mu → σ[i]? = some id → ∃ b0 x, G id = some b0 ∧ b0.k = 0 ∧ (ρ id).a = some x ∧ (ρ' id).a = some x ∧ (ρ1 i).a = some x := fun i id hi hid => by
    obtain ⟨id2, b0, bb, hid2, hG0, hk0, hb1, hk1⟩ := hmu i hi
    rw [hid] at hid2
    injection hid2 with hid2
    subst hid2
    obtain ⟨x, hx⟩ := (hG.blk id b0 hG0).2.2.hasA (by simp [hasA, hk0])
    exact ⟨b0, x, hG0, hk0, hx, by rw [hag id (hσD i id hid)]; exact hx, hlk i id x hid hx⟩
  have hkp : Kept N M w w1 := ⟨hk.os, hk.tape, hk.output, hk.size, fun g hg hgM => by
    refine hk.block g (Nat.lt_of_lt_of_le hg hG.size) fun hm => ?_
    obtain ⟨i, id, x, hi, hid, hx, rfl⟩ := hMc _ hm
    obtain ⟨b0, y, hG0, hk0, hy, _, _⟩ := hplace_m i id hi hid
    rcases hG.own id b0 x hG0 (by omega) hx with h | h
    · omega
    · exact hgM h⟩
  have hHR : HR ρ' (Dn D base r.new.length) N M (appl G base r) w1 := by
    rw [hnl]
    refine hG.step (U := fun id => (∃ i : Nat, i ∈ mu ∧ σ[i]? = some id) ∨ (base ≤ id ∧ id < base + es.length)) hag (fun id h => .inl h) hkp (fun id b hb hU => ?_) (fun id b x hb hU hx => ?_) (fun id b hb hU => ?_) (fun id b x hb hU hx => ?_) (fun id b x hb hU hkb hx => ?_) (fun i j bi bj x y hi hj hij hU hkb hx hy => ?_)
    · rw [not_or] at hU
      rw [happl_o id (fun i hi he => hU.1 ⟨i, hi, he⟩) hU.2] at hb
      exact hb
    · rw [not_or] at hU
      rw [happl_o id (fun i hi he => hU.1 ⟨i, hi, he⟩) hU.2] at hb
      exact hstay id b x hb (fun i hi he => hU.1 ⟨i, hi, he⟩) hx
    · rcases hcase id b hb with ⟨i, b', hi, hid, hb', rfl, hk'⟩ | ⟨j, e, b', he, rfl, hb', rfl⟩ | ⟨_, h2, h3⟩
      · refine ⟨.inl (hσD i id hid), renL_in fun s hs => hDs s (hXm i hi b' hb' s hs), ?_⟩
        obtain ⟨b0, x, hG0, hk0, hx, hx', hx1⟩ := hplace_m i id hi hid
        have h3 := (h1.blk i b' hb').2.2
        obtain ⟨k, ty, c⟩ := b'
        simp only at hk'
        subst hk'
        obtain ⟨g, hg, hh⟩ := h3
        rw [hx1] at hg
        refine ⟨g, hx'.trans hg, ?_⟩
        rw [renL_vals fun s hs => hSame s (hXm i hi _ hb' s hs)]
        exact hh
      · have hj : j < es.length := by
          rcases Nat.lt_or_ge j es.length with h | h
          · exact h
          · rw [List.getElem?_eq_none h] at he; cases he
        have hmem' : e ∈ es := List.mem_of_getElem? he
        refine ⟨.inr ⟨by omega, by omega⟩, renL_in fun s hs => hDs s (hXe e hmem' b' hb' s hs), ?_⟩
        have h3 := (h1.blk e b' hb').2.2
        have e1 := renL_vals fun s hs => hSame s (hXe e hmem' b' hb' s hs)
        have e2 := hne j e he
        unfold BlkOK at h3 ⊢
        rw [e1, e2]
        exact h3
      · exact absurd hU fun hU => hU.elim (fun ⟨i, hi, he⟩ => h2 i hi he) h3
    · rcases hcase id b hb with ⟨i, b', hi, hid, hb', rfl, hk'⟩ | ⟨j, e, b', he, rfl, hb', rfl⟩ | ⟨_, h2, h3⟩
      · obtain ⟨b0, y, hG0, hk0, hy, hy', hy1⟩ := hplace_m i id hi hid
        rw [hy'] at hx
        injection hx with hx
        subst hx
        exact h1.lt i b' _ hb' hy1
      · rw [hne j e he] at hx
        exact h1.lt e b' x hb' hx
      · exact absurd hU fun hU => hU.elim (fun ⟨i, hi, he⟩ => h2 i hi he) h3
    · rcases hcase id b hb with ⟨i, b', hi, hid, hb', rfl, hk'⟩ | ⟨j, e, b', he, rfl, hb', rfl⟩ | ⟨_, h2, h3⟩
      · obtain ⟨b0, y, hG0, hk0, hy, hy', hy1⟩ := hplace_m i id hi hid
        rw [hy'] at hx
        injection hx with hx
        subst hx
        exact hG.own id b0 _ hG0 (by omega) hy
      · rw [hne j e he] at hx
        exact .inl (Nat.le_trans hG.size (hfresh e b' x (List.mem_of_getElem? he) hb' hx))
      · exact absurd hU fun hU => hU.elim (fun ⟨i, hi, he⟩ => h2 i hi he) h3
    · have hne' : ∀ j e : Nat, es[j]? = some e → e ∈ es := fun j e h => List.mem_of_getElem? h
      rcases hcase i bi hi with ⟨i1, b1, hi1, hid1, hb1, rfl, hk1⟩ | ⟨j1, e1, b1, he1, rfl, hb1, rfl⟩ | ⟨hg1, hn1, hr1⟩ <;> rcases hcase j bj hj with ⟨i2, b2, hi2, hid2, hb2, rfl, hk2⟩ | ⟨j2, e2, b2, he2, rfl, hb2, rfl⟩ | ⟨hg2, hn2, hr2⟩
      · obtain ⟨c1, y1, hc1, hck1, hy1, hy1', hy11⟩ := hplace_m i1 i hi1 hid1
        obtain ⟨c2, y2, hc2, hck2, hy2, hy2', hy21⟩ := hplace_m i2 j hi2 hid2
        rw [hy1'] at hx; injection hx with hx; subst hx
        rw [hy2'] at hy; injection hy with hy; subst hy
        exact hG.dist i j c1 c2 _ _ hc1 hc2 hij (by omega) hy1 hy2
      · obtain ⟨c1, y1, hc1, hck1, hy1, hy1', hy11⟩ := hplace_m i1 i hi1 hid1
        rw [hy1'] at hx; injection hx with hx; subst hx
        rw [hne j2 e2 he2] at hy
        have := hfresh e2 b2 y (hne' _ _ he2) hb2 hy
        have := hG.lt i c1 _ hc1 hy1
        omega
      · obtain ⟨c1, y1, hc1, hck1, hy1, hy1', hy11⟩ := hplace_m i1 i hi1 hid1
        rw [hy1'] at hx; injection hx with hx; subst hx
        rw [hag j (hG.blk j bj hg2).1] at hy
        exact hG.dist i j c1 bj _ _ hc1 hg2 hij (by omega) hy1 hy
      · obtain ⟨c2, y2, hc2, hck2, hy2, hy2', hy21⟩ := hplace_m i2 j hi2 hid2
        rw [hy2'] at hy; injection hy with hy; subst hy
        rw [hne j1 e1 he1] at hx
        have := hfresh e1 b1 x (hne' _ _ he1) hb1 hx
        have := hG.lt j c2 _ hc2 hy2
        omega
      · rw [hne j1 e1 he1] at hx
        rw [hne j2 e2 he2] at hy
        refine h1.dist e1 e2 b1 b2 x y hb1 hb2 (fun e => hij ?_) hkb hx hy
        rw [hesn j1 j2 e1 he1 (e ▸ he2)]
      · rw [hne j1 e1 he1] at hx
        rw [hag j (hG.blk j bj hg2).1] at hy
        have := hfresh e1 b1 x (hne' _ _ he1) hb1 hx
        have := hG.lt j bj y hg2 hy
        omega
      · obtain ⟨c2, y2, hc2, hck2, hy2, hy2', hy21⟩ := hplace_m i2 j hi2 hid2
        rw [hy2'] at hy; injection hy with hy; subst hy
        rw [hag i (hG.blk i bi hg1).1] at hx
        exact hG.dist i j bi c2 _ _ hg1 hc2 hij hkb hx hy2
      · rw [hne j2 e2 he2] at hy
        rw [hag i (hG.blk i bi hg1).1] at hx
        have := hfresh e2 b2 y (hne' _ _ he2) hb2 hy
        have := hG.lt i bi x hg1 hx
        omega
      · exact absurd hU fun hU => hU.elim (fun hU => hU.elim (fun ⟨i, hi, he⟩ => hn1 i hi he) hr1) (fun hU => hU.elim (fun ⟨i, hi, he⟩ => hn2 i hi he) hr2)
  refine ⟨hag, ?_, hHR, hkp, fun hu => ?_⟩
  · rw [hval]
    refine (SV.ren_conc ?_).symm
    revert hXv
    cases v with
    | av a => exact fun h s hs => hSame s (h s hs)
    | tup l => exact fun h a ha s hs => hSame s (h a ha s hs)
  · have hm0 := hup0 hu
    refine ⟨?_, fun j b x hj hx => ?_⟩
    · refine Kept.below ⟨hk.os, hk.tape, hk.output, hk.size, fun g hg _ => hk.block g hg fun hm => ?_⟩
      obtain ⟨i, id, x, hi, _⟩ := hMc _ hm
      rw [hm0] at hi
      cases hi
    · have hjl : j < es.length := by
        rw [← hnl]
        rcases Nat.lt_or_ge j r.new.length with h | h
        · exact h
        · rw [List.getElem?_eq_none h] at hj; cases hj
      have e1 : es[j]? = some es[j] := List.getElem?_eq_getElem hjl
      obtain ⟨_, b', hb', _⟩ := hes es[j] (List.getElem_mem hjl)
      rw [hne j _ e1] at hx
      exact hfresh _ b' x (List.getElem_mem hjl) hb' hx
end
end Go.Proofs.Ytkoackalpcmhaaa.Am
/- The abstract machine: a call that the machine runs through itself, as a contract. Conditions: none. -/
namespace Go.Proofs.Ytkoackalpcmhaaa.Am
set_option linter.unusedVariables false
set_option linter.unusedSimpArgs false
open Go Go.RowKit

def idsA : List SV → List Nat
  | [] => []
  | x :: l => x.ids ++ idsA l
def reach (G : Nat → Option Blk) : Nat → List Nat → List Nat → Option (List Nat)
  | 0, _, _ => none
  | _ + 1, [], acc => some acc
  | f + 1, id :: l, acc => match memB id acc with
    | true => reach G f l acc
    | false => match G id with
      | some b => reach G f (idsL b.c ++ l) (id :: acc)
      | none => reach G f l (id :: acc)
def SV.allB (p : Seg → Bool) : SV → Bool
  | .av a => a.segs.all p
  | .tup l => l.all fun a => a.segs.all p
def refB (G : Nat → Option Blk) : Seg → Bool
  | .r id _ _ _ => match G id with
    | some b => Nat.ble 1 b.k
    | none => false
  | _ => true
def kindOf (i k : Nat) (mu : List Nat) : Nat := match memB i mu with
  | true => match k with
    | 0 => 0
    | _ => 2
  | false => 2
def hpOf (G : Nat → Option Blk) (f : Nat → Nat) (mu : List Nat) : List Nat → Nat → List (Nat × Blk)
  | [], _ => []
  | id :: l, i => match G id with
    | some b => (i, ⟨kindOf i b.k mu, b.ty, renL f b.c⟩) :: hpOf G f mu l (i + 1)
    | none => hpOf G f mu l (i + 1)
def reachE (hp : List (Nat × Blk)) (k : Nat) : Nat → List Nat → List Nat → Option (List Nat)
  | 0, _, _ => none
  | _ + 1, [], acc => some acc
  | f + 1, id :: l, acc => match Nat.blt id k || memB id acc with
    | true => reachE hp k f l acc
    | false => match look hp id with
      | some b => reachE hp k f (idsL b.c ++ l) (id :: acc)
      | none => none
def expB (k : Nat) (es : List Nat) (A : Nat → Bool) : Seg → Bool
  | .p id _ => memB id es || (Nat.blt id k && A id)
  | .s id _ _ _ => memB id es || (Nat.blt id k && A id)
  | .r id _ _ _ => memB id es
  | _ => true
def muOf (σ : List Nat) : List SV → Nat → List Nat → List Nat
  | [], _, _ => []
  | x :: l, i, mu => match memB i mu, x with
    | true, .av (.one (.p id _)) => idx id σ :: muOf σ l (i + 1) mu
    | true, .av (.one (.s id _ _ _)) => idx id σ :: muOf σ l (i + 1) mu
    | _, _ => muOf σ l (i + 1) mu
def idsM (hp : List (Nat × Blk)) : List Nat → List Nat
  | [] => []
  | i :: l => match look hp i with
    | some b => idsL b.c ++ idsM hp l
    | none => idsM hp l
def ren2 (σ es : List Nat) (base i : Nat) : Nat := match Nat.blt i σ.length with
  | true => match nth σ i with
    | some id => id
    | none => 0
  | false => base + idx i es
def updOf (σ : List Nat) (hp : List (Nat × Blk)) (τ : Nat → Nat) : List Nat → List (Nat × Option Blk)
  | [] => []
  | i :: l => match nth σ i, look hp i with
    | some id, some b => (id, some ⟨0, b.ty, renL τ b.c⟩) :: updOf σ hp τ l
    | _, _ => updOf σ hp τ l
def newOf (hp : List (Nat × Blk)) (τ : Nat → Nat) : List Nat → List Blk
  | [] => []
  | e :: l => match look hp e with
    | some b => ⟨b.k, b.ty, renL τ b.c⟩ :: newOf hp τ l
    | none => newOf hp τ l
def muB (G : Nat → Option Blk) (σ : List Nat) (hp : List (Nat × Blk)) (p : Seg → Bool) (i : Nat) : Bool := match nth σ i, look hp i with
  | some id, some b => match G id with
    | some b0 => Nat.beq b0.k 0 && (Nat.beq b.k 0 && b.c.all p)
    | none => false
  | _, _ => false
def esB (k : Nat) (hp : List (Nat × Blk)) (p : Seg → Bool) (e : Nat) : Bool := match look hp e with
  | some b => Nat.ble k e && (Nat.blt b.k 2 && b.c.all p)
  | none => false
def blkB (G : Nat → Option Blk) (id : Nat) : Bool := match G id with
  | some b => b.c.all (refB G)
  | none => true
def aOf (hp : List (Nat × Blk)) (id : Nat) : Bool := match look hp id with
  | some b => hasA b
  | none => false
def inlOut (G : Nat → Option Blk) (base : Nat) (σ mu : List Nat) (hp0 : List (Nat × Blk)) : Option (SV × St × Asm) → Option Res
  | none => none
  | some (v, st, p) => match reachE st.hp σ.length 100 (v.ids ++ idsM st.hp mu) [] with
    | none => none
    | some es => match v.allB (expB σ.length es (aOf hp0)) && (mu.all (muB G σ st.hp (expB σ.length es (aOf hp0))) && es.all (esB σ.length st.hp (expB σ.length es (aOf hp0)))) with
      | true => some { val := v.ren (ren2 σ es base), new := newOf st.hp (ren2 σ es base) es, upd := updOf σ st.hp (ren2 σ es base) mu, asm := p }
      | false => none
def inl (T : List (Nat × Ty)) (O : List (Nat × Ent)) (H : Nat → Nat → Hint) (LH : List (Nat × Nat)) (fuel : Nat) (fn : Func) (mu : List Nat) : Ent := fun args G base =>
  match fn.body, reach G 100 (idsA args) [] with
  | some c, some σ => match args.all (SV.allB (refB G)) && (σ.all (blkB G) && Nat.ble args.length fn.ntmps) with
    | true => inlOut G base σ (muOf σ args 0 mu) (hpOf G (fun id => idx id σ) (muOf σ args 0 mu) σ 0) (whole T O H LH fuel fn.results.toList [.code c] (start (args.map (SV.ren fun id => idx id σ)) fn.ntmps (hpOf G (fun id => idx id σ) (muOf σ args 0 mu) σ 0) σ.length []))
    | false => none
  | _, _ => none

theorem mem_idsL {id : Nat} : ∀ {l : List Seg}, id ∈ idsL l ↔ ∃ s ∈ l, id ∈ s.ids
  | [] => by simp [idsL]
  | x :: l => by simp [idsL, mem_idsL (l := l)]
theorem mem_idsT {id : Nat} : ∀ {l : List AV}, id ∈ idsT l ↔ ∃ a ∈ l, ∃ s ∈ a.segs, id ∈ s.ids
  | [] => by simp [idsT]
  | x :: l => by simp [idsT, mem_idsT (l := l), mem_idsL]
theorem SV.ids_all {p : Nat → Prop} {s : SV} : (∀ id, id ∈ s.ids → p id) ↔ s.All fun x => ∀ id, id ∈ x.ids → p id := by
  cases s with
  | av a =>
    simp only [SV.ids, mem_idsL, SV.All]
    exact ⟨fun h x hx id hid => h id ⟨x, hx, hid⟩, fun h id ⟨x, hx, hid⟩ => h x hx id hid⟩
  | tup l =>
    simp only [SV.ids, mem_idsT, SV.All]
    exact ⟨fun h a ha x hx id hid => h id ⟨a, ha, x, hx, hid⟩, fun h id ⟨a, ha, x, hx, hid⟩ => h a ha x hx id hid⟩
theorem mem_idsA {id : Nat} : ∀ {l : List SV}, id ∈ idsA l ↔ ∃ a ∈ l, id ∈ a.ids
  | [] => by simp [idsA]
  | x :: l => by simp [idsA, mem_idsA (l := l)]
theorem Seg.in_ids {D : Nat → Prop} {s : Seg} : s.In D ↔ ∀ id, id ∈ s.ids → D id := by
  cases s <;> simp [Seg.In, Seg.ids]
theorem segsIn_ids {D : Nat → Prop} {l : List Seg} : segsIn D l ↔ ∀ id, id ∈ idsL l → D id := by
  simp only [segsIn, Seg.in_ids, mem_idsL]
  exact ⟨fun h id ⟨x, hx, hid⟩ => h x hx id hid, fun h x hx id hid => h id ⟨x, hx, hid⟩⟩
theorem SV.in_all {D : Nat → Prop} {s : SV} : s.In D ↔ s.All fun x => ∀ id, id ∈ x.ids → D id := by
  cases s with
  | av a => simp only [SV.In, AV.In, segsIn, SV.All, Seg.in_ids]
  | tup l => simp only [SV.In, AV.In, segsIn, SV.All, Seg.in_ids]
theorem SV.allB_all {p : Seg → Bool} {s : SV} : s.allB p = true ↔ s.All fun x => p x = true := by
  cases s <;> simp [SV.allB, SV.All, List.all_eq_true]
theorem SV.All.mono {p q : Seg → Prop} (h : ∀ x, p x → q x) {s : SV} (hs : s.All p) : s.All q := by
  revert hs
  cases s with
  | av a => exact fun hs x hx => h x (hs x hx)
  | tup l => exact fun hs a ha x hx => h x (hs a ha x hx)
theorem SV.All.and {p q : Seg → Prop} {s : SV} (hs : s.All p) (ht : s.All q) : s.All fun x => p x ∧ q x := by
  revert hs ht
  cases s with
  | av a => exact fun hs ht x hx => ⟨hs x hx, ht x hx⟩
  | tup l => exact fun hs ht a ha x hx => ⟨hs a ha x hx, ht a ha x hx⟩

theorem reach_spec {G : Nat → Option Blk} {D : Nat → Prop} (hD : ∀ id b, G id = some b → ∀ i ∈ idsL b.c, D i) : ∀ (f : Nat) (todo acc σ : List Nat), reach G f todo acc = some σ → acc.Nodup → (∀ id ∈ acc, ∀ b, G id = some b → ∀ i ∈ idsL b.c, i ∈ acc ∨ i ∈ todo) → (∀ id ∈ acc, D id) → (∀ id ∈ todo, D id) →
    σ.Nodup ∧ (∀ id ∈ acc, id ∈ σ) ∧ (∀ id ∈ todo, id ∈ σ) ∧ (∀ id ∈ σ, D id) ∧ (∀ id ∈ σ, ∀ b, G id = some b → ∀ i ∈ idsL b.c, i ∈ σ)
  | 0, _, _, _, h, _, _, _, _ => by cases h
  | f + 1, [], acc, σ, h, hn, hc, ha, ht => by
    simp only [reach, Option.some.injEq] at h
    subst h
    exact ⟨hn, fun id h => h, fun id h => (by cases h), ha, fun id hid b hb i hi => (hc id hid b hb i hi).resolve_right (by simp)⟩
  | f + 1, id :: l, acc, σ, h, hn, hc, ha, ht => by
    unfold reach at h
    split at h
    · rename_i hm
      have hm := memB_mem.1 hm
      obtain ⟨h1, h2, h3, h4, h5⟩ := reach_spec hD f l acc σ h hn (fun x hx b hb i hi => (hc x hx b hb i hi).elim .inl fun h => (List.mem_cons.1 h).elim (fun e => .inl (e ▸ hm)) .inr) ha (fun x hx => ht x (by simp [hx]))
      exact ⟨h1, h2, fun x hx => (List.mem_cons.1 hx).elim (fun e => h2 x (e ▸ hm)) (h3 x), h4, h5⟩
    · rename_i hm
      have hm : id ∉ acc := fun h => by rw [memB_mem.2 h] at hm; cases hm
      split at h
      · rename_i b hb
        obtain ⟨h1, h2, h3, h4, h5⟩ := reach_spec hD f (idsL b.c ++ l) (id :: acc) σ h (List.nodup_cons.2 ⟨hm, hn⟩) (fun x hx b' hb' i hi => by
          rcases List.mem_cons.1 hx with rfl | hx
          · rw [hb] at hb'; injection hb' with hb'; subst hb'
            exact .inr (List.mem_append_left _ hi)
          · rcases hc x hx b' hb' i hi with h | h
            · exact .inl (List.mem_cons_of_mem _ h)
            · rcases List.mem_cons.1 h with rfl | h
              · exact .inl (by simp)
              · exact .inr (List.mem_append_right _ h)) (fun x hx => (List.mem_cons.1 hx).elim (fun e => e ▸ ht id (by simp)) (ha x)) (fun x hx => (List.mem_append.1 hx).elim (hD id b hb x) fun h => ht x (by simp [h]))
        exact ⟨h1, fun x hx => h2 x (List.mem_cons_of_mem _ hx), fun x hx => (List.mem_cons.1 hx).elim (fun e => h2 x (by simp [e])) fun h => h3 x (List.mem_append_right _ h), h4, h5⟩
      · rename_i hb
        obtain ⟨h1, h2, h3, h4, h5⟩ := reach_spec hD f l (id :: acc) σ h (List.nodup_cons.2 ⟨hm, hn⟩) (fun x hx b' hb' i hi => by
          rcases List.mem_cons.1 hx with rfl | hx
          · rw [hb] at hb'; cases hb'
          · rcases hc x hx b' hb' i hi with h | h
            · exact .inl (List.mem_cons_of_mem _ h)
            · rcases List.mem_cons.1 h with rfl | h
              · exact .inl (by simp)
              · exact .inr h) (fun x hx => (List.mem_cons.1 hx).elim (fun e => e ▸ ht id (by simp)) (ha x)) (fun x hx => ht x (by simp [hx]))
        exact ⟨h1, fun x hx => h2 x (List.mem_cons_of_mem _ hx), fun x hx => (List.mem_cons.1 hx).elim (fun e => h2 x (by simp [e])) (h3 x), h4, h5⟩
theorem reachE_nodup {hp : List (Nat × Blk)} {k : Nat} : ∀ (f : Nat) (todo acc es : List Nat), reachE hp k f todo acc = some es → acc.Nodup → es.Nodup
  | 0, _, _, _, h, _ => by cases h
  | f + 1, [], acc, es, h, hn => by
    simp only [reachE, Option.some.injEq] at h
    subst h; exact hn
  | f + 1, id :: l, acc, es, h, hn => by
    unfold reachE at h
    split at h
    · exact reachE_nodup f l acc es h hn
    · rename_i hm
      split at h
      · refine reachE_nodup f _ _ es h (List.nodup_cons.2 ⟨fun hc => ?_, hn⟩)
        rw [Bool.or_eq_false_iff] at hm
        rw [memB_mem.2 hc] at hm
        cases hm.2
      · cases h
theorem look_hpOf {G : Nat → Option Blk} {f : Nat → Nat} {mu : List Nat} {i : Nat} {b : Blk} : ∀ (l : List Nat) (k : Nat), look (hpOf G f mu l k) i = some b → ∃ j id b0, i = k + j ∧ l[j]? = some id ∧ G id = some b0 ∧ b = ⟨kindOf i b0.k mu, b0.ty, renL f b0.c⟩
  | [], k, h => by cases h
  | id :: l, k, h => by
    unfold hpOf at h
    split at h
    · rename_i b0 hb0
      rw [look_cons] at h
      by_cases hk : k = i
      · rw [if_pos hk] at h
        injection h with h
        subst hk h
        exact ⟨0, id, b0, rfl, rfl, hb0, rfl⟩
      · rw [if_neg hk] at h
        obtain ⟨j, id', b', hj, hl, hG, hb⟩ := look_hpOf l (k + 1) h
        exact ⟨j + 1, id', b', by omega, by simpa using hl, hG, hb⟩
    · obtain ⟨j, id', b', hj, hl, hG, hb⟩ := look_hpOf l (k + 1) h
      exact ⟨j + 1, id', b', by omega, by simpa using hl, hG, hb⟩
theorem kindOf_lt {i k : Nat} {mu : List Nat} (h : kindOf i k mu < 2) : i ∈ mu ∧ k = 0 ∧ kindOf i k mu = 0 := by
  unfold kindOf at *
  split at h
  · rename_i hm
    refine ⟨memB_mem.1 hm, ?_⟩
    cases k with
    | zero => simp
    | succ k => simp at h
  · omega
theorem kindOf_cases (i k : Nat) (mu : List Nat) : (i ∈ mu ∧ k = 0 ∧ kindOf i k mu = 0) ∨ kindOf i k mu = 2 := by
  rcases Nat.lt_or_ge (kindOf i k mu) 2 with h | h
  · exact .inl (kindOf_lt h)
  · right
    unfold kindOf at *
    split at h
    · cases k with
      | zero => simp at h
      | succ k => rfl
    · rfl
/-- A block that is known may be read. -/
theorem BlkOK.ro {ρ : Nat → Loc} {w : World} {id : Nat} {b : Blk} (h : BlkOK ρ w id b) (hc : (segsVals ρ b.c).length ≤ (ρ id).cap ∨ 1 ≤ b.k) : (segsVals ρ b.c).length ≤ (ρ id).cap ∧ (segsVals ρ b.c = [] ∨ ∃ x, (ρ id).a = some x ∧ ∀ j u, (segsVals ρ b.c)[j]? = some u → w.cell? (x.add j) = some u) := by
  have h2 : segsVals ρ b.c = [] ∨ ∃ x, (ρ id).a = some x ∧ ∀ j u, (segsVals ρ b.c)[j]? = some u → w.cell? (x.add j) = some u := by
    cases hs : segsVals ρ b.c with
    | nil => exact .inl rfl
    | cons y l =>
      right
      obtain ⟨x, hx, _⟩ := h.cells (j := 0) (u := y) (by rw [hs]; rfl)
      refine ⟨x, hx, fun j u hj => ?_⟩
      rw [← hs] at hj
      obtain ⟨x', hx', hc'⟩ := h.cells hj
      rw [hx] at hx'
      injection hx' with hx'
      subst hx'
      exact hc'
  refine ⟨?_, h2⟩
  rcases hc with hc | hc
  · exact hc
  · obtain ⟨k, ty, c⟩ := b
    unfold BlkOK at h
    match k, h, hc with
    | 0, _, hc => simp at hc
    | 1, h, _ =>
      rcases h.2 with ⟨_, he⟩ | ⟨g, cap, cur, hv, _, _, hr⟩
      · show (segsVals ρ c).length ≤ (ρ id).cap
        have he' : (segsVals ρ c).length = 0 := he
        omega
      · have hcap : (ρ id).cap = cap := by injection hv
        show (segsVals ρ c).length ≤ (ρ id).cap
        rw [hcap]
        exact hr.1
    | k + 2, h, _ => exact h.1

theorem nth_some {l : List Nat} {i x : Nat} : nth l i = some x ↔ l[i]? = some x := by rw [nth_get?]
section
variable {P : Program} {T : List (Nat × Ty)} {O : List (Nat × Ent)}
variable [GT]

omit [GT] in
theorem muOf_mem {σ : List Nat} {mu : List Nat} {i : Nat} : ∀ {args : List SV} {k : Nat}, i ∈ muOf σ args k mu → ∃ a ∈ args, ∃ id ∈ a.ids, i = idx id σ
  | [], _, h => by cases h
  | x :: l, k, h => by
    unfold muOf at h
    split at h
    · rename_i id off hm
      rcases List.mem_cons.1 h with rfl | h
      · exact ⟨_, List.mem_cons_self, id, by simp [SV.ids, AV.segs, idsL, Seg.ids], rfl⟩
      · obtain ⟨a, ha, r⟩ := muOf_mem h
        exact ⟨a, List.mem_cons_of_mem _ ha, r⟩
    · rename_i id o l' c hm
      rcases List.mem_cons.1 h with rfl | h
      · exact ⟨_, List.mem_cons_self, id, by simp [SV.ids, AV.segs, idsL, Seg.ids], rfl⟩
      · obtain ⟨a, ha, r⟩ := muOf_mem h
        exact ⟨a, List.mem_cons_of_mem _ ha, r⟩
    · obtain ⟨a, ha, r⟩ := muOf_mem h
      exact ⟨a, List.mem_cons_of_mem _ ha, r⟩
omit [GT] in
theorem newOf_spec {hp : List (Nat × Blk)} {τ : Nat → Nat} : ∀ {es : List Nat}, (∀ e ∈ es, ∃ b, look hp e = some b) → (newOf hp τ es).length = es.length ∧ ∀ (j e : Nat) (b : Blk), es[j]? = some e → look hp e = some b → (newOf hp τ es)[j]? = some ⟨b.k, b.ty, renL τ b.c⟩
  | [], _ => ⟨rfl, fun j e b h => by simp at h⟩
  | e :: l, h => by
    obtain ⟨b, hb⟩ := h e (by simp)
    obtain ⟨h1, h2⟩ := newOf_spec (es := l) (τ := τ) fun x hx => h x (by simp [hx])
    unfold newOf
    rw [hb]
    refine ⟨by simp [h1], fun j e' b' hj hb' => ?_⟩
    cases j with
    | zero =>
      simp only [List.getElem?_cons_zero, Option.some.injEq] at hj
      subst hj
      rw [hb] at hb'
      injection hb' with hb'
      subst hb'
      rfl
    | succ j =>
      rw [List.getElem?_cons_succ] at hj ⊢
      exact h2 j e' b' hj hb'
omit [GT] in
theorem updOf_spec {σ : List Nat} {hp : List (Nat × Blk)} {τ : Nat → Nat} (hσn : ∀ i j id : Nat, σ[i]? = some id → σ[j]? = some id → i = j) : ∀ {mu : List Nat},
    (∀ (i id : Nat) (b : Blk), i ∈ mu → σ[i]? = some id → look hp i = some b → look (updOf σ hp τ mu) id = some (some ⟨0, b.ty, renL τ b.c⟩)) ∧ (∀ id : Nat, (∀ i : Nat, i ∈ mu → σ[i]? ≠ some id) → look (updOf σ hp τ mu) id = none) ∧ ((∀ i ∈ mu, ∃ id b, σ[i]? = some id ∧ look hp i = some b) → updOf σ hp τ mu = [] → mu = [])
  | [] => ⟨(fun i id b h => (by cases h)), (fun id _ => rfl), (fun _ _ => rfl)⟩
  | i :: l => by
    obtain ⟨h1, h2, h3⟩ := updOf_spec hσn (mu := l)
    unfold updOf
    split
    · rename_i id0 b0 hid0 hb0
      rw [nth_some] at hid0
      refine ⟨fun i' id b hi hid hb => ?_, fun id hn => ?_, fun _ h => by cases h⟩
      · rw [look_cons]
        by_cases he : id0 = id
        · rw [if_pos he]
          subst he
          have := hσn _ _ _ hid0 hid
          subst this
          rw [hb0] at hb
          injection hb with hb
          subst hb
          rfl
        · rw [if_neg he]
          refine h1 i' id b ((List.mem_cons.1 hi).resolve_left fun e => he ?_) hid hb
          subst e
          rw [hid0] at hid
          injection hid
      · rw [look_cons, if_neg fun e => hn i (by simp) (by rw [← e]; exact hid0)]
        exact h2 id fun i' hi => hn i' (by simp [hi])
    · rename_i hno
      refine ⟨fun i' id b hi hid hb => ?_, fun id hn => h2 id fun i' hi => hn i' (by simp [hi]), fun hall _ => ?_⟩
      · rcases List.mem_cons.1 hi with rfl | hi
        · exact absurd hb (hno id b (nth_some.2 hid))
        · exact h1 i' id b hi hid hb
      · obtain ⟨id, b, hid, hb⟩ := hall i (by simp)
        exact absurd hb (hno id b (nth_some.2 hid))

/-- From a beginning, what is still to do comes to that state. -/
def Reaches (P : Program) (m0 : Nat) (todo : List AI) (s : St) (todo' : List AI) (s' : St) : Prop :=
  ∀ (B : Exit → Act → World → Prop) (N : Nat) (M : List Nat) (w0 : Wd), (∀ id x, w0.lk id = some x → id < m0) → Runs P B N M w0 todo' s' → Runs P B N M w0 todo s
theorem whole_reaches (hT : TOK P T) (hO : OOK P O) (hm : P.follows .mixedOrders = true) {H : Nat → Nat → Hint} {LH : List (Nat × Nat)} {fuel : Nat} {rs : List ResultVar} {todo : List AI} {s : St} {v : SV} {st : St} {p : Asm} (h : whole T O H LH fuel rs todo s = some (v, st, p)) (hp : p.holds) : resVal T st rs = some v ∧ ∃ todo', (todo' = [] ∨ todo' = [.fin]) ∧ ∀ m0, Reaches P m0 todo s todo' st := by
  unfold whole at h
  split at h
  · rename_i o ho
    split at h
    · rename_i ht
      split at h
      · rename_i v' hv
        simp only [Option.some.injEq, Prod.mk.injEq] at h
        obtain ⟨rfl, rfl, rfl⟩ := h
        exact ⟨hv, [], .inl rfl, fun m0 B N M w0 _ hR => arun_sound hT hO hm _ _ _ _ ho hp (by rw [ht]; exact hR)⟩
      · cases h
    · rename_i ht
      split at h
      · rename_i v' hv
        simp only [Option.some.injEq, Prod.mk.injEq] at h
        obtain ⟨rfl, rfl, rfl⟩ := h
        exact ⟨hv, [.fin], .inr rfl, fun m0 B N M w0 _ hR => arun_sound hT hO hm _ _ _ _ ho hp (by rw [ht]; exact hR)⟩
      · cases h
    · cases h
  · cases h

/-- A call whose run comes to a state, to the one who called. -/
theorem inl_calls (hT : TOK P T) {f : FuncId} {fn : Func} (hf : P.funcs[f]? = some fn) {c : Code} (hb : fn.body = some c) {args : List SV} {G : Nat → Option Blk} {base : Nat} {σ mu : List Nat} {v : SV} {st : St} {p : Asm} {res : Res} {mus : List Nat} (hmu : muOf σ args 0 mus = mu) (hreach : reach G 100 (idsA args) [] = some σ) (hchk : (args.all (SV.allB (refB G)) && (σ.all (blkB G) && Nat.ble args.length fn.ntmps)) = true)
    {todo' : List AI} (hfin : todo' = [] ∨ todo' = [.fin]) (hRe : Reaches P σ.length [.code c] (start (args.map (SV.ren fun id => idx id σ)) fn.ntmps (hpOf G (fun id => idx id σ) mu σ 0) σ.length []) todo' st) (hv : resVal T st fn.results.toList = some v)
    (hr : inlOut G base σ mu (hpOf G (fun id => idx id σ) mu σ 0) (some (v, st, p)) = some res) {ρ : Nat → Loc} {D : Nat → Prop} {N : Nat} {M : List Nat} {w : World} (hG : HR ρ D N M G w) (hin : ∀ s ∈ args, s.In D) (hfr : ∀ id, base ≤ id → id < base + res.new.length → ¬ D id) :
    Calls P f (args.map (SV.conc ρ)).toArray w fun e w' => ∃ v, e = .returned v ∧ ∃ ρ', Fits ρ D N M G base res w ρ' v w' := by
  simp only [Bool.and_eq_true, List.all_eq_true] at hchk
  obtain ⟨hrefA, hrefB, hlen⟩ := hchk
  unfold inlOut at hr
  simp only at hr
  split at hr
  · cases hr
  rename_i es hes
  split at hr
  rotate_left
  · cases hr
  rename_i hchk2
  simp only [Bool.and_eq_true, List.all_eq_true] at hchk2
  obtain ⟨hvX, hmX, heX⟩ := hchk2
  simp only [Option.some.injEq] at hr
  subst hr
  -- the names
  have hDcl : ∀ id b, G id = some b → ∀ i ∈ idsL b.c, D i := fun id b hb => segsIn_ids.1 (hG.blk id b hb).2.1
  obtain ⟨hσn, _, hσA, hσD, hσc⟩ := reach_spec hDcl _ _ _ _ hreach List.nodup_nil (by simp) (by simp) (fun id hid => by
    obtain ⟨a, haa, hid⟩ := mem_idsA.1 hid
    exact SV.ids_all.2 (SV.in_all.1 (hin a haa)) id hid)
  have hσget : ∀ i j id : Nat, σ[i]? = some id → σ[j]? = some id → i = j := fun i j id h1 h2 => (List.getElem?_inj (by
    rcases Nat.lt_or_ge i σ.length with h | h
    · exact h
    · rw [List.getElem?_eq_none h] at h1; cases h1) hσn).1 (h1.trans h2.symm)
  -- the places
  obtain ⟨ρc, hρc⟩ : ∃ ρc : Nat → Loc, ρc = fun i => match σ[i]? with
    | some id => match G id with
      | some b => if b.k = 0 then ⟨(ρ id).a, widths b.c⟩ else ρ id
      | none => ρ id
    | none => ⟨none, 0⟩ := ⟨_, rfl⟩
  have hca : ∀ i id, σ[i]? = some id → (ρc i).a = (ρ id).a := fun i id hi => by
    rw [hρc]
    simp only [hi]
    split
    · split <;> rfl
    · rfl
  have hcr : ∀ i id b, σ[i]? = some id → G id = some b → b.k ≠ 0 → ρc i = ρ id := fun i id b hi hb hk => by
    rw [hρc]
    simp only [hi, hb]
    rw [if_neg hk]
  have hlt : ∀ i id : Nat, σ[i]? = some id → i < σ.length := fun i id h => by
    rcases Nat.lt_or_ge i σ.length with h' | h'
    · exact h'
    · rw [List.getElem?_eq_none h'] at h; cases h
  have hSame : ∀ s : Seg, (∀ id, id ∈ s.ids → id ∈ σ) → refB G s = true → Same (fun id => idx id σ) ρ ρc s := fun s h1 h2 => by
    refine ⟨fun id hid => hca _ _ (idx_get (h1 id hid)), fun id o l a he => ?_⟩
    subst he
    unfold refB at h2
    split at h2
    · rename_i heq
      injection heq with e1
      subst e1
      split at h2
      · rename_i b hb
        have := Nat.le_of_ble_eq_true h2
        exact hcr _ _ b (idx_get (h1 _ (by simp [Seg.ids]))) hb (by omega)
      · cases h2
    · rename_i hno
      exact absurd rfl (hno _ _ _ _)
  have hAll : ∀ s ∈ args, s.All fun x => (∀ id, id ∈ x.ids → id ∈ σ) ∧ refB G x = true := fun s hs =>
    SV.All.and (SV.ids_all.1 fun id hid => hσA id (mem_idsA.2 ⟨s, hs, hid⟩)) (SV.allB_all.1 (hrefA s hs))
  have hargs : (args.map (SV.conc ρ)).toArray = ((args.map (SV.ren fun id => idx id σ)).map (SV.conc ρc)).toArray := by
    rw [List.map_map]
    congr 1
    refine List.map_congr_left fun s hs => ?_
    exact (SV.ren_conc ((hAll s hs).mono fun x hx => hSame x hx.1 hx.2)).symm
  have hmuS : ∀ i ∈ mu, ∃ (id : Nat) (b0 b : Blk), σ[i]? = some id ∧ G id = some b0 ∧ b0.k = 0 ∧ look st.hp i = some b ∧ b.k = 0 := fun i hi => by
    have := hmX i hi
    unfold muB at this
    split at this
    · rename_i id b hid hb
      split at this
      · rename_i b0 hb0
        rw [Bool.and_eq_true, Bool.and_eq_true] at this
        exact ⟨id, b0, b, nth_some.1 hid, hb0, Nat.eq_of_beq_eq_true this.1, hb, Nat.eq_of_beq_eq_true this.2.1⟩
      · cases this
    · cases this
  have hG0 : HR ρc (· < σ.length) w.heap.size (mu.filterMap fun i => (ρc i).a.map (·.block)) (look (hpOf G (fun id => idx id σ) mu σ 0)) w := by
    refine ⟨Nat.le_refl _, fun i b hb => ?_, fun i b x hb hx => ?_, fun i b x hb hk hx => ?_, fun i j bi bj x y hi hj hij hk hx hy => ?_, hG.gw.call hG.size fun g hg => by
      obtain ⟨i, hi, hgi⟩ := List.mem_filterMap.1 hg
      obtain ⟨id, b0, b, hid, hb0, hk0, _⟩ := hmuS i hi
      rw [hca i id hid, Option.map_eq_some_iff] at hgi
      obtain ⟨x, hx, rfl⟩ := hgi
      exact hG.own id b0 x hb0 (by omega) hx⟩
    · obtain ⟨j, id, b0, rfl, hid, hb0, rfl⟩ := look_hpOf _ _ hb
      rw [Nat.zero_add] at *
      have hidσ : id ∈ σ := List.mem_of_getElem? hid
      have hcl : ∀ s ∈ b0.c, ∀ i, i ∈ s.ids → i ∈ σ := fun s hs i hi => hσc id hidσ b0 hb0 i (mem_idsL.2 ⟨s, hs, hi⟩)
      have hrf : ∀ s ∈ b0.c, refB G s = true := by
        have := hrefB id hidσ
        unfold blkB at this
        rw [hb0] at this
        exact List.all_eq_true.1 this
      have hv : segsVals ρc (renL (fun id => idx id σ) b0.c) = segsVals ρ b0.c := renL_vals fun s hs => hSame s (hcl s hs) (hrf s hs)
      refine ⟨hlt j id hid, renL_in fun s hs i hi => idx_lt (hcl s hs i hi), ?_⟩
      have hok := (hG.blk id b0 hb0).2.2
      rcases kindOf_cases j b0.k mu with ⟨_, hk0, he⟩ | he
      · rw [he]
        obtain ⟨k, ty, c⟩ := b0
        simp only at hk0
        subst hk0
        obtain ⟨g, hg, hh⟩ := hok
        refine ⟨g, (hca j id hid).trans hg, ?_⟩
        rw [hv]; exact hh
      · rw [he]
        show (segsVals ρc _).length ≤ (ρc j).cap ∧ _
        rw [hv]
        by_cases hk : b0.k = 0
        · have e : ρc j = ⟨(ρ id).a, widths b0.c⟩ := by
            rw [hρc]; simp only [hid, hb0]; rw [if_pos hk]
          have hok' : BlkOK (fun i => if i = id then ⟨(ρ id).a, widths b0.c⟩ else ρ i) w id b0 → True := fun _ => trivial
          refine ⟨by rw [e, segsVals_len]; exact Nat.le_refl _, ?_⟩
          rw [hca j id hid]
          cases hs : segsVals ρ b0.c with
          | nil => exact .inl rfl
          | cons y l =>
            right
            obtain ⟨x, hx, _⟩ := hok.cells (j := 0) (u := y) (by rw [hs]; rfl)
            refine ⟨x, hx, fun j' u hj' => ?_⟩
            rw [← hs] at hj'
            obtain ⟨x', hx', hc'⟩ := hok.cells hj'
            rw [hx] at hx'
            injection hx' with hx'
            subst hx'
            exact hc'
        · rw [hcr j id b0 hid hb0 hk]
          exact hok.ro (.inr (by omega))
    · obtain ⟨j, id, b0, rfl, hid, hb0, rfl⟩ := look_hpOf _ _ hb
      rw [Nat.zero_add] at *
      rw [hca j id hid] at hx
      exact hG.lt id b0 x hb0 hx
    · obtain ⟨j, id, b0, rfl, hid, hb0, rfl⟩ := look_hpOf _ _ hb
      rw [Nat.zero_add] at *
      right
      rw [List.mem_filterMap]
      exact ⟨j, (kindOf_lt hk).1, by rw [hx]; rfl⟩
    · obtain ⟨i', id, b0, rfl, hid, hb0, rfl⟩ := look_hpOf _ _ hi
      obtain ⟨j', id', b1, rfl, hid', hb1, rfl⟩ := look_hpOf _ _ hj
      rw [Nat.zero_add] at *
      rw [hca _ _ hid] at hx
      rw [hca _ _ hid'] at hy
      refine hG.dist id id' b0 b1 x y hb0 hb1 (fun e => hij ?_) ?_ hx hy
      · subst e; rw [hσget _ _ _ hid hid']; omega
      · have := (kindOf_lt hk).2.1
        omega
  rw [hargs]
  refine calls_am hf hb (ρ := ρc) (M := mu.filterMap fun i => (ρc i).a.map (·.block)) (nx := σ.length) (hp := hpOf G (fun id => idx id σ) mu σ 0) (gl := []) rfl (fun s hs => ?_) (by simpa using Nat.le_of_ble_eq_true hlen) hG0 (lk := fun i => if i < σ.length then (ρc i).a else none) (fun x i h => ?_) ?_
  · obtain ⟨s0, hs0, rfl⟩ := List.mem_map.1 hs
    exact SV.ren_in ((hAll s0 hs0).mono fun x hx id hid => idx_lt (hx.1 id hid))
  · rcases h with ⟨_, _, h⟩ | h
    · cases h
    · by_cases hi : i < σ.length
      · simp only [if_pos hi] at h; exact ⟨h, hi⟩
      · simp only [if_neg hi] at h; cases h
  refine hRe _ _ _ _ (fun id x hx => ?_) (runs_end hT hfin hv fun ρ1 a1 w1 hrel => ?_)
  · by_cases hi : id < σ.length
    · exact hi
    · simp only [if_neg hi] at hx; cases hx
  have hHR := hrel.rel.hr
  have hK := hrel.rel.kept
  have hlk : ∀ id x, (if id < σ.length then (ρc id).a else none) = some x → (ρ1 id).a = some x := fun id x hx => (hrel.rel.globals x id (.inr hx)).1
  refine ⟨_, rfl, ?_⟩
  have hlk' : ∀ (i id : Nat) (x : Addr), σ[i]? = some id → (ρ id).a = some x → (ρ1 i).a = some x := fun i id x hi hx => by
    refine hlk i x ?_
    show (if i < σ.length then (ρc i).a else none) = some x
    rw [if_pos (hlt i id hi), hca i id hi]
    exact hx
  have hesS : ∀ e ∈ es, σ.length ≤ e ∧ ∃ b, look st.hp e = some b ∧ b.k < 2 := fun e he => by
    have := heX e he
    unfold esB at this
    split at this
    · rename_i b hb
      rw [Bool.and_eq_true, Bool.and_eq_true] at this
      exact ⟨Nat.le_of_ble_eq_true this.1, b, hb, Nat.le_of_ble_eq_true this.2.1⟩
    · cases this
  have hesn := reachE_nodup _ _ _ _ hes List.nodup_nil
  obtain ⟨hn1, hn2⟩ := newOf_spec (hp := st.hp) (τ := ren2 σ es base) (es := es) fun e he => (hesS e he).2.imp fun _ h => h.1
  obtain ⟨hu1, hu2, hu3⟩ := updOf_spec (hp := st.hp) (τ := ren2 σ es base) hσget (mu := mu)
  refine inl_fits (G1 := look st.hp) (nx := st.nx) (σ := σ) (es := es) (mu := mu) hG (fun i id hi => hσD id (List.mem_of_getElem? hi)) hσget (fun id h1 h2 => hfr id h1 (by rw [hn1]; exact h2)) hHR hK hlk' (fun g hg => ?_) hmuS hesS (fun i j e h1 h2 => ?_) (τ := ren2 σ es base) (fun i id hi => ?_) (fun j e he => ?_) rfl hn1 hn2 hu1 hu2 (hu3 fun i hi => ?_) (fun s => expB σ.length es (aOf (hpOf G (fun id => idx id σ) mu σ 0)) s = true) (fun s hs => ?_) (SV.allB_all.1 hvX) (fun e he b hb s hs => ?_) (fun i hi b hb s hs => ?_)
  · obtain ⟨i, hi, hgi⟩ := List.mem_filterMap.1 hg
    obtain ⟨id, b0, b, hid, _⟩ := hmuS i hi
    rw [hca i id hid, Option.map_eq_some_iff] at hgi
    obtain ⟨x, hx, hxg⟩ := hgi
    exact ⟨i, id, x, hi, hid, hx, hxg⟩
  · exact (List.getElem?_inj (by
      rcases Nat.lt_or_ge i es.length with h | h
      · exact h
      · rw [List.getElem?_eq_none h] at h1; cases h1) hesn).1 (h1.trans h2.symm)
  · unfold ren2
    have : Nat.blt i σ.length = true := Nat.ble_eq_true_of_le (hlt i id hi)
    rw [this]
    simp only [nth_some.2 hi]
  · unfold ren2
    have he' := List.mem_of_getElem? he
    have : Nat.blt e σ.length = false := by
      have := (hesS e he').1
      rcases hh : Nat.blt e σ.length with _ | _
      · rfl
      · have : e + 1 ≤ σ.length := Nat.le_of_ble_eq_true hh
        omega
    rw [this]
    simp only
    have h1 := idx_get he'
    rw [(List.getElem?_inj (idx_lt he') hesn).1 (h1.trans he.symm)]
  · obtain ⟨id, b0, b, h1, _, _, h2, _⟩ := hmuS i hi
    exact ⟨id, b, h1, h2⟩
  · have key : ∀ id, (memB id es || (Nat.blt id σ.length && aOf (hpOf G (fun id => idx id σ) mu σ 0) id)) = true → id ∈ es ∨ ∃ (i : Nat) (x : Addr), σ[id]? = some i ∧ (ρ i).a = some x := fun id h => by
      rw [Bool.or_eq_true, Bool.and_eq_true] at h
      rcases h with h | ⟨_, h⟩
      · exact .inl (memB_mem.1 h)
      · right
        unfold aOf at h
        split at h
        · rename_i b hb
          obtain ⟨x, hx⟩ := (hG0.blk id b hb).2.2.hasA h
          obtain ⟨j, id', b0, rfl, hid, _⟩ := look_hpOf _ _ hb
          rw [Nat.zero_add] at *
          exact ⟨id', x, hid, by rw [← hca j id' hid]; exact hx⟩
        · cases h
    cases s with
    | v | num | arr | ap => exact ⟨fun id hid => by simp [Seg.ids] at hid, fun _ _ _ _ h => by cases h⟩
    | p id off => exact ⟨fun i hi => by simp [Seg.ids] at hi; subst hi; exact key _ hs, fun _ _ _ _ h => by cases h⟩
    | s id off len cap => exact ⟨fun i hi => by simp [Seg.ids] at hi; subst hi; exact key _ hs, fun _ _ _ _ h => by cases h⟩
    | r id off len ad => exact ⟨fun i hi => by simp [Seg.ids] at hi; subst hi; exact .inl (memB_mem.1 hs), fun _ _ _ _ h => by injection h with h; subst h; exact memB_mem.1 hs⟩
  · have := heX e he
    unfold esB at this
    rw [hb] at this
    simp only [Bool.and_eq_true, List.all_eq_true] at this
    exact this.2.2 s hs
  · have := hmX i hi
    unfold muB at this
    rw [hb] at this
    split at this
    · rename_i id b' hid hb'
      injection hb' with hb'
      subst hb'
      split at this
      · simp only [Bool.and_eq_true, List.all_eq_true] at this
        exact this.2.2 s hs
      · cases this
    · cases this
/-- A call that is run through is a contract. -/
theorem inl_ok (hT : TOK P T) (hO : OOK P O) (hm : P.follows .mixedOrders = true) {H : Nat → Nat → Hint} {LH : List (Nat × Nat)} {fuel : Nat} {f : FuncId} {fn : Func} (hf : P.funcs[f]? = some fn) (hname : (fn.name == "runtime.NumGoroutine") = false) (hbs : fn.body.isSome = true) (mus : List Nat) : EntOK P f (inl T O H LH fuel fn mus) := by
  refine ⟨⟨fn, hf, hname, hbs⟩, fun args G base res hr ha ρ D N M w hG hin hfr => ?_⟩
  unfold inl at hr
  split at hr
  rotate_left
  · cases hr
  rename_i c σ hb hreach
  split at hr
  rotate_left
  · cases hr
  rename_i hchk
  cases hw : whole T O H LH fuel fn.results.toList [.code c] (start (args.map (SV.ren fun id => idx id σ)) fn.ntmps (hpOf G (fun id => idx id σ) (muOf σ args 0 mus) σ 0) σ.length []) with
  | none =>
    rw [hw] at hr
    cases hr
  | some o =>
    obtain ⟨v, st, p⟩ := o
    rw [hw] at hr
    have hp : p = res.asm := by
      unfold inlOut at hr
      simp only at hr
      split at hr
      · cases hr
      · split at hr
        · simp only [Option.some.injEq] at hr
          rw [← hr]
        · cases hr
    obtain ⟨hv, todo', hfin, hRe⟩ := whole_reaches hT hO hm hw (hp ▸ ha)
    exact inl_calls hT hf hb rfl hreach hchk hfin (hRe _) hv hr hG hin hfr
end
end Go.Proofs.Ytkoackalpcmhaaa.Am
