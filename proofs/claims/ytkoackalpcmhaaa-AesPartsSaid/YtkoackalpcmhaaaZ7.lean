/- The abstract machine: contracts by what the arguments read as: the calls. Conditions: none. -/
import Derived.Test.YtkoackalpcmhaaaZ6
import Derived.Test.YtkoackalpcmhaaaRows
import Derived.WalkKit
import Derived.ProofKit
import Derived.OpenShut
import Derived.ChangeOld
import Derived.Below
set_option linter.unusedSectionVars false
namespace Go.Proofs.Ytkoackalpcmhaaa.Am
set_option linter.unusedVariables false
set_option linter.unusedSimpArgs false
open Go Go.RowKit
set_option linter.unusedSectionVars false
section
variable {P : Program} {T : List (Nat × Ty)} {ρ : Nat → Loc} {D : Nat → Prop} {N : Nat} {M : List Nat} {G : Nat → Option Blk} {base : Nat} {w : World}
variable [GT]

/-- A block of a contract's own memory that may change. -/
def CanM (ρ : Nat → Loc) (G : Nat → Option Blk) (ρc : Nat → Loc) (ms : List Nat) (m lo hi i : Nat) (b : Blk) : Prop :=
  ∃ (j id : Nat) (b0 : Blk), i = m + j ∧ ms[j]? = some id ∧ G id = some b0 ∧ b0.k = 0 ∧ b.k = 0 ∧ b.ty = b0.ty ∧ segsVals ρc b.c = segsVals ρ b0.c ∧ segsIn (fun x => lo ≤ x ∧ x < hi) b.c
theorem CanM.mono {ρc : Nat → Loc} {ms ms' : List Nat} {m m' lo hi lo' hi' i : Nat} {b : Blk} (h : CanM ρ G ρc ms m lo hi i b) (h1 : lo' ≤ lo) (h2 : hi ≤ hi') (h3 : ∀ (j id : Nat), ms[j]? = some id → ∃ j' : Nat, m + j = m' + j' ∧ ms'[j']? = some id) : CanM ρ G ρc ms' m' lo' hi' i b := by
  obtain ⟨j, id, b0, rfl, hj, a1, a2, a3, a4, a5, a6⟩ := h
  obtain ⟨j', e, hj'⟩ := h3 j id hj
  exact ⟨j', id, b0, e, hj', a1, a2, a3, a4, a5, a6.mono fun x hx => by omega⟩
theorem bR_pos_le (n a b : Nat) : n + a ≤ n + (a + b) := by omega

def CanOut (ρ : Nat → Loc) (R G : Nat → Option Blk) (w : World) (svs : List SV) (cbs : List CB) (ms : List Nat) (ln m n : Nat) : Prop :=
  cbs.length = ln ∧ ms.length = bM cbs ∧ (bT cbs).length = bM cbs ∧ (∀ (j id : Nat), ms[j]? = some id → ∃ b0, G id = some b0 ∧ b0.k = 0) ∧
    ∃ ρ0 : Nat → Loc, ∀ ρc : Nat → Loc, (∀ i, n ≤ i → i < n + bR cbs → ρc i = ρ0 i) → (∀ (j id : Nat), ms[j]? = some id → ρc (m + j) = ρ id) →
      (bA cbs m n).map (SV.conc ρc) = svs.map (SV.conc ρ) ∧ (∀ s ∈ bA cbs m n, s.In fun x => x < n + bR cbs) ∧
      (∀ i b, look (bH cbs m n) i = some b → CanR ρ R w ρc n (n + bR cbs) i b ∨ CanM ρ G ρc ms m n (n + bR cbs) i b) ∧
      (∀ (j : Nat) (ty : TypeId), (bT cbs)[j]? = some ty → ∃ b, look (bH cbs m n) (m + j) = some b ∧ b.ty = ty)
theorem canonB {R : Nat → Option Blk} (hG : HR ρ D N M R w) : ∀ (shs : List ShB) (svs : List SV) (cbs : List CB) (ms : List Nat) (p : Asm) (m n : Nat), m + bM cbs ≤ n → readBs R G shs svs = some (cbs, ms, p) → p.holds → CanOut ρ R G w svs cbs ms shs.length m n
  | [], [], cbs, ms, p, m, n, _, h, _ => by
    simp only [readBs, Option.some.injEq, Prod.mk.injEq] at h
    obtain ⟨rfl, rfl, rfl⟩ := h
    exact ⟨rfl, rfl, rfl, fun j id h => (by simp at h), fun _ => ⟨none, 0⟩, fun ρc _ _ => ⟨rfl, fun s hs => (by cases hs), fun i b hb => (by cases hb), fun j ty h => (by simp [bT] at h)⟩⟩
  | [], _ :: _, _, _, _, _, _, _, h, _ => by cases h
  | _ :: _, [], _, _, _, _, _, _, h, _ => by cases h
  | s :: shs, x :: svs, cbs, ms, p, m, n, hmn, h, hp => by
    unfold readBs at h
    split at h
    rotate_left
    · cases h
    rename_i c i p1 cs is q hc hcs
    simp only [Option.some.injEq, Prod.mk.injEq] at h
    obtain ⟨rfl, rfl, rfl⟩ := h
    have hp1 := hp.1
    -- nothing changes
    have keep : ∀ (rc : Nat) (hd : List (Nat × Blk)) (y : SV) (ρ1 : Nat → Loc), i = [] → bM (c :: cs) = bM cs → bT (c :: cs) = bT cs → bR (c :: cs) = rc + bR cs → (bA (c :: cs) m n = y :: bA cs m (n + rc)) → (bH (c :: cs) m n = hd ++ bH cs m (n + rc)) →
        (∀ ρc : Nat → Loc, (∀ i, n ≤ i → i < n + rc → ρc i = ρ1 i) → y.conc ρc = x.conc ρ ∧ y.In (fun x => x < n + rc) ∧ ∀ i b, look hd i = some b → CanR ρ R w ρc n (n + rc) i b) →
        CanOut ρ R G w (x :: svs) (c :: cs) (i ++ is) (s :: shs).length m n := by
      intro rc hd y ρ1 hi e1 e2 e3 e4 e5 hx
      subst hi
      rw [e1] at hmn
      obtain ⟨a1, a2, a3, a4, ρ2, h2⟩ := canonB hG shs svs cs is q m (n + rc) (by omega) hcs hp.2
      unfold CanOut
      rw [e1, e2, e3, e4, e5]
      refine ⟨by simp [a1], a2, a3, a4, fun j => if j < n + rc then ρ1 j else ρ2 j, fun ρc hρ hm => ?_⟩
      obtain ⟨b1, b2, b3⟩ := hx ρc fun j h1 h2 => by rw [hρ j h1 (by omega)]; exact if_pos h2
      obtain ⟨c1, c2, c3, c4⟩ := h2 ρc (fun j h1 h2 => by rw [hρ j (by omega) (by omega)]; exact if_neg (by omega)) hm
      refine ⟨by rw [List.map_cons, List.map_cons, b1, c1], fun s hs => ?_, fun j b hb => ?_, fun j ty hj => ?_⟩
      · rcases List.mem_cons.1 hs with rfl | hs
        · exact b2.mono fun x hx => by omega
        · exact (c2 s hs).mono fun x hx => by omega
      · rw [look_app] at hb
        cases hl : look hd j with
        | some b' =>
          rw [hl] at hb
          simp only [Option.some_or, Option.some.injEq] at hb
          subst hb
          exact .inl ((b3 j b' hl).mono (Nat.le_refl _) (by omega))
        | none =>
          rw [hl, Option.none_or] at hb
          rcases c3 j b hb with h | h
          · exact .inl (h.mono (by omega) (by omega))
          · exact .inr (h.mono (by omega) (by omega) fun j id h => ⟨j, rfl, h⟩)
      · obtain ⟨b, hb, ht⟩ := c4 j ty hj
        refine ⟨b, ?_, ht⟩
        rw [look_app]
        cases hl : look hd (m + j) with
        | some b' =>
          have hjl : j < bM cs := by
            rw [← a3]
            exact (List.getElem?_eq_some_iff.1 hj).1
          have := (b3 _ b' hl).1
          omega
        | none => rw [Option.none_or]; exact hb
    have pl : ∀ (y : SV), i = [] → bM (c :: cs) = bM cs → bT (c :: cs) = bT cs → bR (c :: cs) = bR cs → (bA (c :: cs) m n = y :: bA cs m n) → (bH (c :: cs) m n = bH cs m n) → (∀ ρc : Nat → Loc, y.conc ρc = x.conc ρ) → y.In (fun _ => False) → CanOut ρ R G w (x :: svs) (c :: cs) (i ++ is) (s :: shs).length m n := fun y hi e1 e2 e3 e4 e5 hx hy => keep 0 [] y (fun _ => ⟨none, 0⟩) hi e1 e2 (by rw [e3, Nat.zero_add]) e4 e5 fun ρc _ => ⟨hx ρc, hy.mono fun _ h => h.elim, fun i b hb => by cases hb⟩
    have sl : ∀ (wh : Bool) (k : IntKind) (zs : List Int) (g : Seg), x = .av (.one g) → readSl wh R k g = some (zs, p1) → c = .sl k zs → i = [] → CanOut ρ R G w (x :: svs) (c :: cs) (i ++ is) (s :: shs).length m n := fun wh k zs g hxg hr hcc hi => by
      subst hcc hxg
      obtain ⟨l, h1, hs1, h2⟩ := readSl_spec hG hr hp1
      refine keep 1 [(n, ⟨2, 0, [.arr k zs]⟩)] (.av (.one (.r n 0 zs.length 0))) (fun _ => l) hi rfl rfl rfl rfl rfl fun ρc hρ => ?_
      have hn : ρc n = l := hρ n (Nat.le_refl _) (by omega)
      refine ⟨(h2 ρc n hn).2, fun s hs => ?_, fun j b hb => ?_⟩
      · simp only [AV.segs, List.mem_cons, List.not_mem_nil, or_false] at hs
        subst hs
        exact Nat.lt_succ_self _
      · rw [look_cons] at hb
        by_cases hj : n = j
        · rw [if_pos hj] at hb
          injection hb with hb
          subst hb hj
          refine ⟨Nat.le_refl _, by omega, rfl, fun s hs => (by simp at hs; subst hs; trivial), ?_⟩
          rw [hn, segsVals_one]
          exact ⟨h1.read, hs1⟩
        · rw [if_neg hj] at hb
          cases hb
    -- a struct that is read
    have rdr : ∀ (id : Nat) (b : Blk) (fs : List ShF) (r : List CF) (y : Nat → SV) (cap : Nat), i = [] → R id = some b → readF R fs b.c = some (r, p1) → bM (c :: cs) = bM cs → bT (c :: cs) = bT cs → bR (c :: cs) = 1 + fN r + bR cs → (bA (c :: cs) m n = y n :: bA cs m (n + (1 + fN r))) → (bH (c :: cs) m n = ((n, (⟨2, 0, fS r (n + 1)⟩ : Blk)) :: fB r (n + 1)) ++ bH cs m (n + (1 + fN r))) →
        (∀ ρc : Nat → Loc, ρc n = ⟨(ρ id).a, widths b.c⟩ → (y n).conc ρc = x.conc ρ) → (y n).In (fun x => x = n) → CanOut ρ R G w (x :: svs) (c :: cs) (i ++ is) (s :: shs).length m n := fun id b fs r y cap hi hb hr e1 e2 e3 e4 e5 hy hyi => by
      obtain ⟨ρ1, h1⟩ := canonF hG fs b.c r p1 (n + 1) hr hp1
      refine keep (1 + fN r) _ (y n) (fun j => if j = n then ⟨(ρ id).a, widths b.c⟩ else ρ1 j) hi e1 e2 e3 e4 e5 fun ρc hρ => ?_
      have hn : ρc n = ⟨(ρ id).a, widths b.c⟩ := by rw [hρ n (Nat.le_refl _) (by omega)]; exact if_pos rfl
      obtain ⟨a1, a2, a3⟩ := h1 ρc fun j h1 h2 => by rw [hρ j (by omega) (by omega)]; exact if_neg (by omega)
      refine ⟨hy ρc hn, hyi.mono fun x hx => by omega, fun j b' hb' => ?_⟩
      rw [look_cons] at hb'
      by_cases hj : n = j
      · rw [if_pos hj] at hb'
        injection hb' with hb'
        subst hb' hj
        refine ⟨Nat.le_refl _, by omega, rfl, a2.mono fun x hx => by omega, ?_⟩
        show ReadAt w _ (segsVals ρc (fS r (n + 1))) ∧ _
        rw [hn, a1]
        refine ⟨⟨by rw [segsVals_len]; exact Nat.le_refl _, ?_, fun x hx => hG.lt id b x hb hx⟩, fun x hx => ⟨id, b, x, hb, hx, rfl⟩⟩
        cases hs : segsVals ρ b.c with
        | nil => exact .inl rfl
        | cons y l =>
          right
          have hok := (hG.blk id b hb).2.2
          obtain ⟨x, hx, _⟩ := hok.cells (j := 0) (u := y) (by rw [hs]; rfl)
          refine ⟨x, hx, fun j u hj => ?_⟩
          rw [← hs] at hj
          obtain ⟨x', hx', hc'⟩ := hok.cells hj
          rw [hx] at hx'
          injection hx' with hx'
          subst hx'
          exact hc'
      · rw [if_neg hj] at hb'
        exact (a3 j b' hb').mono (by omega) (by omega)
    unfold readB at hc
    split at hc
    · rename_i a
      split at hc
      · rename_i hf
        simp only [Option.some.injEq, Prod.mk.injEq] at hc
        obtain ⟨rfl, rfl, rfl⟩ := hc
        rw [Bool.and_eq_true] at hf
        have hin : (SV.av a).In fun _ => False := fun s hs => free_in (List.all_eq_true.1 hf.1 s hs) _
        exact pl (.av a) rfl rfl rfl rfl rfl rfl (fun ρc => SV.conc_congr (D := fun _ => False) (fun _ h => h.elim) hin) hin
      · cases hc
    · rename_i k a
      split at hc
      · rename_i zs hz hagg
        simp only [Option.some.injEq, Prod.mk.injEq] at hc
        obtain ⟨rfl, rfl, rfl⟩ := hc
        refine pl (.av (.one (.arr k zs))) rfl rfl rfl rfl rfl rfl (fun ρc => ?_) (fun s hs => by simp [AV.segs] at hs; subst hs; trivial)
        rw [conc_av, conc_av, aggB_conc ρ hagg, intsO_spec ρ hz]
        rfl
      · cases hc
    · rename_i k g
      split at hc
      · rename_i zs p' hr
        simp only [Option.some.injEq, Prod.mk.injEq] at hc
        obtain ⟨rfl, rfl, rfl⟩ := hc
        exact sl false k zs g rfl hr rfl rfl
      · cases hc
    · rename_i k g
      split at hc
      · rename_i zs p' hr
        simp only [Option.some.injEq, Prod.mk.injEq] at hc
        obtain ⟨rfl, rfl, rfl⟩ := hc
        exact sl true k zs g rfl hr rfl rfl
      · cases hc
    · rename_i fs id len cap
      split at hc
      · rename_i b hb
        split at hc
        · rename_i r p' hr
          split at hc
          · rename_i hlen
            have hlen := Nat.eq_of_beq_eq_true hlen
            simp only [Option.some.injEq, Prod.mk.injEq] at hc
            obtain ⟨rfl, rfl, rfl⟩ := hc
            refine rdr id b fs r (fun n => .av (.one (.s n 0 r.length cap))) cap rfl hb hr rfl rfl rfl rfl rfl (fun ρc hn => ?_) (fun s hs => by simp [AV.segs] at hs; subst hs; rfl)
            simp only [SV.conc, AV.conc, Seg.conc, hn, hlen]
          · cases hc
        · cases hc
      · cases hc
    · rename_i ty fs id
      split at hc
      · rename_i b hb
        split at hc
        · rename_i r p' hk hr
          simp only [Option.some.injEq, Prod.mk.injEq] at hc
          obtain ⟨rfl, rfl, rfl⟩ := hc
          rw [Bool.and_eq_true] at hk
          have hk0 := Nat.eq_of_beq_eq_true hk.1
          have hty := Nat.eq_of_beq_eq_true hk.2
          have hmn' : m + (bM cs + 1) ≤ n := hmn
          obtain ⟨a1, a2, a3, a4, ρ2, h2⟩ := canonB hG shs svs cs is q (m + 1) (n + fN r) (by omega) hcs hp.2
          obtain ⟨ρ1, h1⟩ := canonF hG fs b.c r p' n hr hp1
          refine ⟨by simp [a1], by simp [bM, a2, Nat.add_comm], by simp [bM, bT, a3], fun j id' hj => ?_, fun j => if j < n + fN r then ρ1 j else ρ2 j, fun ρc hρ hm => ?_⟩
          · cases j with
            | zero =>
              simp only [List.cons_append, List.getElem?_cons_zero, Option.some.injEq] at hj
              subst hj
              exact ⟨b, hb, hk0⟩
            | succ j => exact a4 j id' (by simpa using hj)
          · have eR : bR (.mu ty r :: cs) = fN r + bR cs := rfl
            rw [eR] at hρ ⊢
            obtain ⟨b1, b2, b3⟩ := h1 ρc fun j h1 h2 => by rw [hρ j h1 (by omega)]; exact if_pos h2
            obtain ⟨c1, c2, c3, c4⟩ := h2 ρc (fun j h1 h2 => by rw [hρ j (by omega) (by omega)]; exact if_neg (by omega)) fun j id' hj => by
              have := hm (j + 1) id' (by simpa using hj)
              rw [show m + 1 + j = m + (j + 1) by omega]; exact this
            have hm0 : ρc m = ρ id := hm 0 id rfl
            have eH : bH (.mu ty r :: cs) m n = ((m, (⟨0, ty, fS r n⟩ : Blk)) :: fB r n) ++ bH cs (m + 1) (n + fN r) := rfl
            refine ⟨?_, fun s hs => ?_, fun j b' hb' => ?_, fun j ty' hj => ?_⟩
            · show SV.conc ρc (.av (.one (.p m 0))) :: (bA cs (m + 1) (n + fN r)).map (SV.conc ρc) = _
              rw [c1, List.map_cons]
              simp only [SV.conc, AV.conc, Seg.conc, hm0]
            · rcases List.mem_cons.1 hs with rfl | hs
              · intro s hs
                simp only [AV.segs, List.mem_cons, List.not_mem_nil, or_false] at hs
                subst hs
                show m < n + (fN r + bR cs)
                omega
              · exact (c2 s hs).mono fun x hx => by omega
            · rw [eH, look_app, look_cons] at hb'
              by_cases hj : m = j
              · rw [if_pos hj] at hb'
                simp only [Option.some_or, Option.some.injEq] at hb'
                subst hb' hj
                exact .inr ⟨0, id, b, rfl, rfl, hb, hk0, rfl, hty.symm, b1, b2.mono fun x hx => by omega⟩
              · rw [if_neg hj] at hb'
                cases hl : look (fB r n) j with
                | some b2' =>
                  rw [hl] at hb'
                  simp only [Option.some_or, Option.some.injEq] at hb'
                  subst hb'
                  exact .inl ((b3 j _ hl).mono (Nat.le_refl _) (by omega))
                | none =>
                  rw [hl, Option.none_or] at hb'
                  rcases c3 j b' hb' with h | h
                  · exact .inl (h.mono (by omega) (by omega))
                  · exact .inr (h.mono (by omega) (by omega) fun j id h => ⟨j + 1, by omega, by simpa using h⟩)
            · rw [eH, look_app, look_cons]
              cases j with
              | zero =>
                simp only [bT, List.getElem?_cons_zero, Option.some.injEq] at hj
                subst hj
                exact ⟨_, by rw [Nat.add_zero, if_pos rfl]; rfl, rfl⟩
              | succ j =>
                obtain ⟨b', hb', ht⟩ := c4 j ty' (by simpa [bT] using hj)
                refine ⟨b', ?_, ht⟩
                rw [if_neg (by omega)]
                have hjl : j < bM cs := by
                  rw [← a3]
                  have hj' : (bT cs)[j]? = some ty' := by simpa [bT] using hj
                  exact (List.getElem?_eq_some_iff.1 hj').1
                cases hl : look (fB r n) (m + (j + 1)) with
                | some b2' =>
                  have := (b3 _ _ hl).1
                  omega
                | none => rw [Option.none_or, show m + (j + 1) = m + 1 + j by omega]; exact hb'
        · cases hc
      · cases hc
    · rename_i fs id
      split at hc
      · rename_i b hb
        split at hc
        · rename_i r p' hr
          simp only [Option.some.injEq, Prod.mk.injEq] at hc
          obtain ⟨rfl, rfl, rfl⟩ := hc
          refine rdr id b fs r (fun n => .av (.one (.p n 0))) 0 rfl hb hr rfl rfl rfl rfl rfl (fun ρc hn => ?_) (fun s hs => by simp [AV.segs] at hs; subst hs; rfl)
          simp only [SV.conc, AV.conc, Seg.conc, hn]
        · cases hc
      · cases hc
    · cases hc
end
end Go.Proofs.Ytkoackalpcmhaaa.Am
/- The abstract machine: contracts by what the arguments read as: out of runs. Conditions: none. -/
namespace Go.Proofs.Ytkoackalpcmhaaa.Am
set_option linter.unusedVariables false
set_option linter.unusedSimpArgs false
open Go Go.RowKit
set_option linter.unusedSectionVars false

/-- What a contract tells: what it needs, its value, its new blocks (named 0, 1, ..), and what the blocks that may change become. -/
structure BR where
  pre : Prop := True
  val : SV
  new : List Blk := []
  upd : List (List Seg) := []
def updZ (base : Nat) : List Nat → List TypeId → List (List Seg) → List (Nat × Option Blk)
  | id :: ms, ty :: ts, c :: cs => (id, some ⟨0, ty, renL (fun e => base + e) c⟩) :: updZ base ms ts cs
  | _, _, _ => []
def entB (sh : List ShB) (F : List CB → Option BR) : Ent := fun args G base => match readBs (hide G (msOf sh args)) G sh args with
  | some (cbs, ms, p) => match nodupB ms, F cbs with
    | true, some r => some { val := r.val.ren (fun e => base + e), new := r.new.map fun b => ⟨b.k, b.ty, renL (fun e => base + e) b.c⟩, upd := updZ base ms (bT cbs) r.upd, asm := p.and (.say r.pre) }
    | _, _ => none
  | none => none
/-- The first that fits. -/
def eOr (a b : Ent) : Ent := fun args G base => match a args G base with
  | some r => some r
  | none => b args G base
def updE (hp : List (Nat × Blk)) (τ : Nat → Nat) (es : List Nat) : Nat → List TypeId → Option (List (List Seg))
  | _, [] => some []
  | i, ty :: l => match look hp i with
    | some b => match Nat.beq b.k 0 && (Nat.beq b.ty ty && b.c.all (expB 0 es fun _ => false)), updE hp τ es (i + 1) l with
      | true, some r => some (renL τ b.c :: r)
      | _, _ => none
    | none => none
def endK (k : Nat) (st : St) (v : SV) (es : List Nat) : Bool := v.allB (expB 0 es fun _ => false) && (es.all (esB k st.hp (expB 0 es fun _ => false)) && nodupB es)

section
variable {P : Program} {T : List (Nat × Ty)} {O : List (Nat × Ent)} {ρ : Nat → Loc} {D : Nat → Prop} {N : Nat} {M : List Nat} {G : Nat → Option Blk} {base : Nat} {w : World}
variable [GT]

theorem eOr_ok {f : FuncId} {a b : Ent} (ha : EntOK P f a) (hb : EntOK P f b) : EntOK P f (eOr a b) := by
  refine ⟨ha.1, fun args G base res hr hh => ?_⟩
  unfold eOr at hr
  split at hr
  · rename_i r h
    injection hr with hr
    subst hr
    exact ha.2 args G base _ h hh
  · exact hb.2 args G base res hr hh

/-! ### Runs from a function's beginning, the first m0 names kept -/
def FromK (P : Program) (m0 : Nat) (fn : Func) (avs : List SV) (hp : List (Nat × Blk)) (nx : Nat) (gl : List (Nat × Nat)) (todo : List AI) (s : St) : Prop :=
  ∃ c, fn.body = some c ∧ Reaches P m0 [.code c] (start avs fn.ntmps hp nx gl) todo s
theorem FromK.run (hT : TOK P T) (hO : OOK P O) (hmx : P.follows .mixedOrders = true) {H : Nat → Nat → Hint} {LH : List (Nat × Nat)} {m0 m : Nat} {es ks : List Nat} {fn : Func} {avs : List SV} {hp : List (Nat × Blk)} {nx : Nat} {gl : List (Nat × Nat)} {todo' : List AI} {s' : St} {ps : List Prop} (h : runF T O H LH m es ks fn avs hp nx gl = some (todo', s', ps)) (hps : AllP ps) (hm : Nat.ble m0 m = true := by rfl) : FromK P m0 fn avs hp nx gl todo' s' := by
  unfold runF at h
  split at h
  · rename_i c hc
    exact ⟨c, hc, reach_run hT hO hmx h hps hm⟩
  · cases h
theorem FromK.trans {m0 : Nat} {fn : Func} {avs : List SV} {hp : List (Nat × Blk)} {nx : Nat} {gl : List (Nat × Nat)} {todo todo' : List AI} {s s' : St} (h : FromK P m0 fn avs hp nx gl todo s) (k : Reaches P m0 todo s todo' s') : FromK P m0 fn avs hp nx gl todo' s' :=
  let ⟨c, hc, hr⟩ := h
  ⟨c, hc, hr.trans k⟩
theorem From.k {fn : Func} {avs : List SV} {hp : List (Nat × Blk)} {nx : Nat} {gl : List (Nat × Nat)} {todo : List AI} {s : St} (h : From P fn avs hp nx gl todo s) : FromK P 0 fn avs hp nx gl todo s := h
theorem Reaches.roundsK {m0 : Nat} {fn : Func} {r : Nat} {ns : List Nat} {s u : St} {c : List AI} (n : Nat) (h : Reaches P m0 (hdAt fn r ns n) s c u) : Reaches P m0 (toAt fn r ns) s c u := Reaches.loop n h
theorem Reaches.oneK {m0 : Nat} {fn : Func} {r : Nat} {ns : List Nat} {n : Nat} {s u : St} {c : List AI} (h : Reaches P m0 (inAt fn r ns n) s c u) : Reaches P m0 (hdAt fn r ns (n + 1)) s c u := Reaches.round h
/-- A run from somewhere. -/
theorem Reaches.runK (hT : TOK P T) (hO : OOK P O) (hmx : P.follows .mixedOrders = true) {H : Nat → Nat → Hint} {LH : List (Nat × Nat)} {fuel m0 m : Nat} {es ks : List Nat} {todo todo' : List AI} {s s' : St} {ps : List Prop} (h : runN T O H LH fuel m es ks todo s = some (todo', s', ps)) (hps : AllP ps) (hm : Nat.ble m0 m = true := by rfl) : Reaches P m0 todo s todo' s' := reach_run hT hO hmx h hps hm

/-- A state by other names. -/
def normO (m : Nat) (es ks : List Nat) (s : St) : Option St := match normB m es ks s with
  | true => some (normSt m es ks s)
  | false => none
theorem Reaches.norm {m0 m : Nat} {es ks : List Nat} {todo : List AI} {s s' : St} (h : normO m es ks s = some s') (hm : Nat.ble m0 m = true := by rfl) : Reaches P m0 todo s todo s' := by
  unfold normO at h
  split at h
  · rename_i hn
    injection h with h
    subst h
    exact fun B N M w0 hl hR => norm_runs hn (fun id x hx => Nat.lt_of_lt_of_le (hl id x hx) (Nat.le_of_ble_eq_true hm)) hR
  · cases h
/-- A nil slice is an empty row, and the state by other names. -/
theorem Reaches.adoptK {m0 m : Nat} {es ks : List Nat} {todo : List AI} {s s' : St} {t : Nat} (e : TypeId) (k : IntKind) (h : isNilAt s t = true) (hs : normO m es ks (adoptSt e k t s) = some s') (hm : Nat.ble m0 m = true := by rfl) : Reaches P m0 todo s todo s' :=
  (Reaches.adopt e k h).trans (Reaches.norm hs hm)
/-- A run's end, as a contract tells it. -/
def EndsB (P : Program) (T : List (Nat × Ty)) (gs : List GV) (fn : Func) (cbs : List CB) (r : BR) : Prop :=
  ∃ todo' st v es, (todo' = [] ∨ todo' = [.fin]) ∧ FromK P (bM cbs) fn (bA cbs 0 (bM cbs)) (bH cbs 0 (bM cbs) ++ gH gs (bM cbs + bR cbs)) (bM cbs + bR cbs + gs.length) (gL gs (bM cbs + bR cbs)) todo' st ∧ resVal T st fn.results.toList = some v ∧ endK (bM cbs) st v es = true ∧ (v.ren (fun e => idx e es), newOf st.hp (fun e => idx e es) es, updE st.hp (fun e => idx e es) es 0 (bT cbs)) = (r.val, r.new, some r.upd)

theorem updE_spec {hp : List (Nat × Blk)} {τ : Nat → Nat} {es : List Nat} : ∀ (l : List TypeId) (i : Nat) (r : List (List Seg)), updE hp τ es i l = some r → r.length = l.length ∧ ∀ (j : Nat) (ty : TypeId), l[j]? = some ty → ∃ b, look hp (i + j) = some b ∧ b.k = 0 ∧ b.ty = ty ∧ (∀ s ∈ b.c, expB 0 es (fun _ => false) s = true) ∧ r[j]? = some (renL τ b.c)
  | [], i, r, h => by
    simp only [updE, Option.some.injEq] at h
    subst h
    exact ⟨rfl, fun j ty hj => by simp at hj⟩
  | ty :: l, i, r, h => by
    unfold updE at h
    split at h
    · rename_i b hb
      split at h
      · rename_i r' hk hr
        injection h with h
        subst h
        simp only [Bool.and_eq_true, List.all_eq_true] at hk
        obtain ⟨h1, h2⟩ := updE_spec l (i + 1) r' hr
        refine ⟨by simp [h1], fun j ty' hj => ?_⟩
        cases j with
        | zero =>
          simp only [List.getElem?_cons_zero, Option.some.injEq] at hj
          subst hj
          exact ⟨b, hb, Nat.eq_of_beq_eq_true hk.1, Nat.eq_of_beq_eq_true hk.2.1, hk.2.2, rfl⟩
        | succ j =>
          obtain ⟨b', a1, a2⟩ := h2 j ty' (by simpa using hj)
          exact ⟨b', by rw [show i + (j + 1) = i + 1 + j by omega]; exact a1, by simpa using a2⟩
      · cases h
    · cases h
theorem updZ_spec {base : Nat} : ∀ (ms : List Nat) (ts : List TypeId) (cs : List (List Seg)), ms.Nodup → ts.length = ms.length → cs.length = ms.length → (∀ (j id : Nat) (ty : TypeId) (c : List Seg), ms[j]? = some id → ts[j]? = some ty → cs[j]? = some c → look (updZ base ms ts cs) id = some (some ⟨0, ty, renL (fun e => base + e) c⟩)) ∧ (∀ id : Nat, id ∉ ms → look (updZ base ms ts cs) id = none) ∧ (updZ base ms ts cs = [] → ms = [])
  | [], _, _, _, _, _ => ⟨fun j id ty c h => by simp at h, fun _ _ => rfl, fun _ => rfl⟩
  | id :: ms, ty :: ts, c :: cs, hn, h1, h2 => by
    rw [List.nodup_cons] at hn
    obtain ⟨a1, a2, a3⟩ := updZ_spec (base := base) ms ts cs hn.2 (by simpa using h1) (by simpa using h2)
    refine ⟨fun j id' ty' c' e1 e2 e3 => ?_, fun id' hid => ?_, fun h => by cases h⟩
    · unfold updZ
      rw [look_cons]
      cases j with
      | zero =>
        simp only [List.getElem?_cons_zero, Option.some.injEq] at e1 e2 e3
        subst e1 e2 e3
        rw [if_pos rfl]
      | succ j =>
        simp only [List.getElem?_cons_succ] at e1 e2 e3
        rw [if_neg fun e => hn.1 (by rw [e]; exact List.mem_of_getElem? e1)]
        exact a1 j id' ty' c' e1 e2 e3
    · unfold updZ
      rw [look_cons, if_neg fun e => hid (by simp [e])]
      exact a2 id' fun h => hid (by simp [h])
  | _ :: _, [], _, _, h, _ => by simp at h
  | _ :: _, _ :: _, [], _, _, h => by simp at h

theorem msOf_eq {R G : Nat → Option Blk} : ∀ (shs : List ShB) (svs : List SV) (cbs : List CB) (ms : List Nat) (p : Asm), readBs R G shs svs = some (cbs, ms, p) → msOf shs svs = ms
  | [], [], cbs, ms, p, h => by
    simp only [readBs, Option.some.injEq, Prod.mk.injEq] at h
    obtain ⟨rfl, rfl, rfl⟩ := h
    rfl
  | [], _ :: _, _, _, _, h => by cases h
  | _ :: _, [], _, _, _, h => by cases h
  | s :: shs, x :: svs, cbs, ms, p, h => by
    unfold readBs at h
    split at h
    rotate_left
    · cases h
    rename_i c i p1 cs is q hc hcs
    simp only [Option.some.injEq, Prod.mk.injEq] at h
    obtain ⟨rfl, rfl, rfl⟩ := h
    have ih := msOf_eq shs svs cs is q hcs
    subst ih
    unfold readB at hc
    repeat' split at hc
    all_goals first
      | cases hc; done
      | (simp only [Option.some.injEq, Prod.mk.injEq] at hc; obtain ⟨_, rfl, _⟩ := hc; rfl)
theorem hide_some {G : Nat → Option Blk} {ms : List Nat} {id : Nat} {b : Blk} (h : hide G ms id = some b) : G id = some b ∧ id ∉ ms := by
  unfold hide at h
  split at h
  · cases h
  · rename_i hm
    exact ⟨h, fun hx => by rw [memB_mem.2 hx] at hm; cases hm⟩
/-- The memory that a contract's run begins with. -/
theorem canB_hr {cbs : List CB} {ms : List Nat} {gs : List GV} (hG : HR ρ D N M G w) (hgs : ∀ x, x ∈ gs → (x.1, x.2.2.map (Value.int x.2.1)) ∈ GT.tab) {ρc : Nat → Loc} (hms : ms.length = bM cbs) (hmn : ms.Nodup) (hm : ∀ (j id : Nat), ms[j]? = some id → ρc (0 + j) = ρ id) (hmG : ∀ (j id : Nat), ms[j]? = some id → ∃ b0, G id = some b0 ∧ b0.k = 0) (hρ : ∀ i x, gs[i]? = some x → ρc (bM cbs + bR cbs + i) = ⟨some ⟨x.1, 0, none⟩, x.2.2.length⟩) (h : ∀ i b, look (bH cbs 0 (bM cbs)) i = some b → CanR ρ (hide G ms) w ρc (bM cbs) (bM cbs + bR cbs) i b ∨ CanM ρ G ρc ms 0 (bM cbs) (bM cbs + bR cbs) i b) :
    HR ρc (· < bM cbs + bR cbs + gs.length) w.heap.size (ms.filterMap fun id => (ρ id).a.map (·.block)) (look (bH cbs 0 (bM cbs) ++ gH gs (bM cbs + bR cbs))) w := by
  have hgw := hG.gwc
  have hall : ∀ i b, look (bH cbs 0 (bM cbs) ++ gH gs (bM cbs + bR cbs)) i = some b → (i < bM cbs + bR cbs + gs.length ∧ b.k = 2 ∧ segsIn (· < bM cbs + bR cbs + gs.length) b.c ∧ ReadAt w (ρc i) (segsVals ρc b.c) ∧ ∀ (j id : Nat) (x y : Addr), ms[j]? = some id → (ρ id).a = some x → (ρc i).a = some y → x.block ≠ y.block) ∨ CanM ρ G ρc ms 0 (bM cbs) (bM cbs + bR cbs) i b := fun i b hb => by
    rw [look_app] at hb
    cases h1 : look (bH cbs 0 (bM cbs)) i with
    | some b' =>
      rw [h1] at hb
      simp only [Option.some_or, Option.some.injEq] at hb
      subst hb
      rcases h i b' h1 with ⟨a1, a2, a3, a4, a5, a6⟩ | h
      · refine .inl ⟨by omega, a3, a4.mono fun x hx => by omega, a5, fun j id x y hj hx hy => ?_⟩
        obtain ⟨id0, b0, x0, e1, e2, e3⟩ := a6 y hy
        obtain ⟨e4, e5⟩ := hide_some e1
        obtain ⟨b1, hb1, hk1⟩ := hmG j id hj
        rw [← e3]
        exact hG.dist id id0 b1 b0 x x0 hb1 e4 (fun e => e5 (by rw [← e]; exact List.mem_of_getElem? hj)) (by omega) hx e2
      · exact .inr h
    | none =>
      rw [h1, Option.none_or] at hb
      obtain ⟨h2, h3, x, hx, rfl⟩ := gH_spec _ _ _ _ hb
      obtain ⟨g1, g2, cs, ty, mk, g3, g4⟩ := hgw _ (hgs x (List.mem_of_getElem? hx))
      have e := hρ _ x hx
      rw [show bM cbs + bR cbs + (i - (bM cbs + bR cbs)) = i by omega] at e
      refine .inl ⟨h3, rfl, fun s hs => (by simp at hs; subst hs; trivial), ?_, fun j id x' y hj hx' hy => ?_⟩
      · rw [e, segsVals_one]
        refine ⟨by simp [Seg.vals], ?_, fun y hy => ?_⟩
        · right
          refine ⟨⟨x.1, 0, none⟩, rfl, fun j u hj => ?_⟩
          rw [Addr.add_lit]
          simp only at g3 g4
          simp only [Seg.vals] at hj
          rw [← g4] at hj
          simp only [World.cell?, g3, Nat.zero_add]
          simpa using hj
        · injection hy with hy
          subst hy
          exact g1
      · rw [e] at hy
        injection hy with hy
        subst hy
        obtain ⟨b1, hb1, hk1⟩ := hmG j id hj
        obtain ⟨k1, k2, _⟩ := hG.gw _ (hgs x (List.mem_of_getElem? hx))
        simp only at k1 k2
        rcases hG.own id b1 x' hb1 (by omega) hx' with h | h
        · intro e'
          simp only at e'
          omega
        · intro e'
          simp only at e'
          rw [e'] at h
          exact k2 h
  refine ⟨Nat.le_refl _, fun i b hb => ?_, fun i b x hb hx => ?_, fun i b x hb hk hx => ?_, fun i j bi bj x y hi hj hij hk hx hy => ?_, hG.gw.call hG.size fun g hg => ?_⟩
  · rcases hall i b hb with ⟨a1, a2, a3, a4, _⟩ | ⟨j, id, b0, e, hj, c1, c2, c3, c4, c5, c6⟩
    · refine ⟨a1, a3, ?_⟩
      obtain ⟨k, ty, c⟩ := b
      simp only at a2
      subst a2
      exact ⟨a4.1, a4.2.1⟩
    · have hjl : j < ms.length := (List.getElem?_eq_some_iff.1 hj).1
      refine ⟨by omega, c6.mono fun x hx => by omega, ?_⟩
      obtain ⟨k, ty, c⟩ := b
      simp only at c3 c4 c5
      subst c3 c4
      have hok := (hG.blk id b0 c1).2.2
      obtain ⟨k0, ty0, c0⟩ := b0
      simp only at c2
      subst c2
      obtain ⟨g, hg, hh⟩ := hok
      refine ⟨g, ?_, ?_⟩
      · rw [e, hm j id hj]; exact hg
      · rw [c5]; exact hh
  · rcases hall i b hb with ⟨a1, a2, a3, a4, _⟩ | ⟨j, id, b0, e, hj, c1, c2, c3, c4, c5, c6⟩
    · exact a4.2.2 x hx
    · rw [e, hm j id hj] at hx
      exact hG.lt id b0 x c1 hx
  · rcases hall i b hb with ⟨a1, a2, a3, a4, _⟩ | ⟨j, id, b0, e, hj, c1, c2, c3, c4, c5, c6⟩
    · omega
    · rw [e, hm j id hj] at hx
      right
      rw [List.mem_filterMap]
      exact ⟨id, List.mem_of_getElem? hj, by rw [hx]; rfl⟩
  · rcases hall i bi hi with ⟨a1, a2, a3, a4, _⟩ | ⟨j1, id, b0, e, hj1, c1, c2, c3, c4, c5, c6⟩
    · omega
    · rw [e, hm j1 id hj1] at hx
      rcases hall j bj hj with ⟨a1, a2, a3, a4, a5⟩ | ⟨j2, id2, b02, e2, hj2, d1, d2, d3, d4, d5, d6⟩
      · exact a5 j1 id x y hj1 hx hy
      · rw [e2, hm j2 id2 hj2] at hy
        refine hG.dist id id2 b0 b02 x y c1 d1 (fun e' => hij ?_) (by omega) hx hy
        subst e'
        rw [e, e2]
        have := (List.getElem?_inj (List.getElem?_eq_some_iff.1 hj1).1 hmn).1 (hj1.trans hj2.symm)
        omega
  · obtain ⟨id, hid, hgx⟩ := List.mem_filterMap.1 hg
    obtain ⟨j, hj⟩ := List.getElem?_of_mem hid
    obtain ⟨b0, hb0, hk0⟩ := hmG j id hj
    rw [Option.map_eq_some_iff] at hgx
    obtain ⟨x, hx, rfl⟩ := hgx
    exact hG.own id b0 x hb0 (by omega) hx

theorem Seg.ren_congr {f g : Nat → Nat} {s : Seg} (h : ∀ id ∈ s.ids, f id = g id) : s.ren f = s.ren g := by
  cases s <;> simp_all [Seg.ren, Seg.ids]
theorem renL_congr {f g : Nat → Nat} {l : List Seg} (h : ∀ s ∈ l, ∀ id ∈ s.ids, f id = g id) : renL f l = renL g l := by
  rw [renL_map, renL_map]
  exact List.map_congr_left fun s hs => Seg.ren_congr (h s hs)
theorem AV.ren_congr {f g : Nat → Nat} {a : AV} (h : ∀ s ∈ a.segs, ∀ id ∈ s.ids, f id = g id) : a.ren f = a.ren g := by
  cases a with
  | one s => simp only [AV.ren, Seg.ren_congr (h s (by simp [AV.segs]))]
  | agg l => simp only [AV.ren, renL_congr (l := l) h]
theorem SV.ren_congr {f g : Nat → Nat} {s : SV} (h : s.All fun x => ∀ id ∈ x.ids, f id = g id) : s.ren f = s.ren g := by
  cases s with
  | av a => simp only [SV.ren, AV.ren_congr (a := a) h]
  | tup l =>
    simp only [SV.ren, renT_map]
    congr 1
    exact List.map_congr_left fun a ha => AV.ren_congr (h a ha)
theorem exp_ids {es : List Nat} {s : Seg} (h : expB 0 es (fun _ => false) s = true) : (∀ id ∈ s.ids, id ∈ es) := by
  have key : ∀ id, (memB id es || (Nat.blt id 0 && false)) = true → id ∈ es := fun id h => by
    rw [Bool.and_false, Bool.or_false] at h
    exact memB_mem.1 h
  intro i hi
  cases s with
  | v | num | arr | ap => simp [Seg.ids] at hi
  | p id off => simp [Seg.ids] at hi; subst hi; exact key _ h
  | s id off len cap => simp [Seg.ids] at hi; subst hi; exact key _ h
  | r id off len ad => simp [Seg.ids] at hi; subst hi; exact memB_mem.1 h
/-- A contract, out of runs. -/
theorem ok_B (hT : TOK P T) {f : FuncId} {fn : Func} (hf : P.funcs[f]? = some fn) (hname : (fn.name == "runtime.NumGoroutine") = false) (hbs : fn.body.isSome = true) (gs : List GV) (hgs : ∀ x, x ∈ gs → (x.1, x.2.2.map (Value.int x.2.1)) ∈ GT.tab) {sh : List ShB} {F : List CB → Option BR} (hlen : Nat.ble sh.length fn.ntmps = true)
    (h : ∀ cbs r, F cbs = some r → r.pre → EndsB P T gs fn cbs r) : EntOK P f (entB sh F) := by
  refine ⟨⟨fn, hf, hname, hbs⟩, fun args G base res hr ha ρ D N M w hG hin hfr => ?_⟩
  unfold entB at hr
  split at hr
  rotate_left
  · cases hr
  rename_i cbs ms p hread
  split at hr
  rotate_left
  · cases hr
  rename_i r hnd hF
  simp only [Option.some.injEq] at hr
  subst hr
  obtain ⟨hap, har⟩ := ha
  have har : r.pre := har
  obtain ⟨todo', st, v, es, hfin, ⟨c, hc, hRe⟩, hv, hend, heq⟩ := h cbs r hF har
  simp only [Prod.mk.injEq] at heq
  obtain ⟨hrv, hrn, hru⟩ := heq
  have hms := msOf_eq _ _ _ _ _ hread
  rw [hms] at hread
  have hmn := nodupB_spec hnd
  have hGR : HR ρ D N M (hide G ms) w := hG.weaken fun id b hb => (hide_some hb).1
  obtain ⟨hcl, hml, htl, hmG, ρ0, hcan⟩ := canonB hGR sh args cbs ms p 0 (bM cbs) (by omega) hread hap
  obtain ⟨ρc, hρc⟩ : ∃ ρc : Nat → Loc, ρc = fun i => if i < bM cbs then ρ (ms.getD i 0) else if i < bM cbs + bR cbs then ρ0 i else match gs[i - (bM cbs + bR cbs)]? with
    | some x => ⟨some ⟨x.1, 0, none⟩, x.2.2.length⟩
    | none => ⟨none, 0⟩ := ⟨_, rfl⟩
  have hm : ∀ (j id : Nat), ms[j]? = some id → ρc (0 + j) = ρ id := fun j id hj => by
    have hjl := (List.getElem?_eq_some_iff.1 hj).1
    rw [hρc, Nat.zero_add]
    simp only
    rw [if_pos (by omega), List.getD_eq_getElem?_getD, hj]; rfl
  obtain ⟨h4, h4i, h5, h6⟩ := hcan ρc (fun i h1 h2 => by
    rw [hρc]
    simp only
    rw [if_neg (by omega), if_pos h2]) hm
  have hρg : ∀ i x, gs[i]? = some x → ρc (bM cbs + bR cbs + i) = ⟨some ⟨x.1, 0, none⟩, x.2.2.length⟩ := fun i x hx => by
    rw [hρc]
    simp only
    rw [if_neg (by omega), if_neg (by omega), show bM cbs + bR cbs + i - (bM cbs + bR cbs) = i by omega, hx]
  have hG0 := canB_hr hG hgs hml hmn hm hmG hρg h5
  obtain ⟨hul, hus⟩ := updE_spec _ _ _ hru
  unfold endK at hend
  rw [Bool.and_eq_true, Bool.and_eq_true] at hend
  obtain ⟨hvX, heX, hen⟩ := hend
  have heX := List.all_eq_true.1 heX
  have hesn := nodupB_spec hen
  have hesS : ∀ e ∈ es, ms.length ≤ e ∧ ∃ b, look st.hp e = some b ∧ b.k < 2 := fun e he => by
    have := heX e he
    unfold esB at this
    split at this
    · rename_i b hb
      rw [Bool.and_eq_true, Bool.and_eq_true] at this
      exact ⟨by rw [hml]; exact Nat.le_of_ble_eq_true this.1, b, hb, Nat.le_of_ble_eq_true this.2.1⟩
    · cases this
  obtain ⟨hn1, hn2⟩ := newOf_spec (hp := st.hp) (τ := fun e => idx e es) (es := es) fun e he => (hesS e he).2.imp fun _ h => h.1
  rw [hrn] at hn1 hn2
  have hmuS : ∀ (i id : Nat), ms[i]? = some id → ∃ (b0 b : Blk) (ty : TypeId), (bT cbs)[i]? = some ty ∧ G id = some b0 ∧ b0.k = 0 ∧ look st.hp i = some b ∧ b.k = 0 ∧ b.ty = ty ∧ (∀ s ∈ b.c, expB 0 es (fun _ => false) s = true) ∧ r.upd[i]? = some (renL (fun e => idx e es) b.c) := fun i id hi => by
    obtain ⟨b0, hb0, hk0⟩ := hmG i id hi
    have hil := (List.getElem?_eq_some_iff.1 hi).1
    obtain ⟨ty, hty⟩ : ∃ ty, (bT cbs)[i]? = some ty := ⟨_, List.getElem?_eq_getElem (by omega)⟩
    obtain ⟨b, e1, e2, e3, e4, e5⟩ := hus i ty hty
    rw [Nat.zero_add] at e1
    exact ⟨b0, b, ty, hty, hb0, hk0, e1, e2, e3, e4, e5⟩
  obtain ⟨hz1, hz2, hz3⟩ := updZ_spec (base := base) ms (bT cbs) r.upd hmn (by omega) (by omega)
  have hσn : ∀ (i j id : Nat), ms[i]? = some id → ms[j]? = some id → i = j := fun i j id hi hj => (List.getElem?_inj (List.getElem?_eq_some_iff.1 hi).1 hmn).1 (hi.trans hj.symm)
  have hargs : (args.map (SV.conc ρ)).toArray = ((bA cbs 0 (bM cbs)).map (SV.conc ρc)).toArray := by rw [h4]
  have hbl : (bA cbs 0 (bM cbs)).length = sh.length := by
    have := congrArg List.length h4
    simp only [List.length_map] at this
    have hal : args.length = sh.length := by
      have : ∀ (sh : List ShB) (args : List SV) (cbs : List CB) (ms : List Nat) (p : Asm), readBs (hide G ms) G sh args = some (cbs, ms, p) → True := fun _ _ _ _ _ _ => trivial
      have key : ∀ {R : Nat → Option Blk} (sh : List ShB) (args : List SV) (x : List CB × List Nat × Asm), readBs R G sh args = some x → args.length = sh.length := by
        intro R sh
        induction sh with
        | nil => intro args x h; cases args with
          | nil => rfl
          | cons _ _ => cases h
        | cons s l ih => intro args x h; cases args with
          | nil => cases h
          | cons y m =>
            unfold readBs at h
            split at h
            · rename_i c i p1 cs is q hc hcs
              simp [ih m _ hcs]
            · cases h
      exact key sh args _ hread
    omega
  rw [hargs]
  obtain ⟨Mc, hMc⟩ : ∃ Mc : List Nat, Mc = ms.filterMap fun id => (ρ id).a.map (·.block) := ⟨_, rfl⟩
  rw [← hMc] at hG0
  refine calls_am hf hc (ρ := ρc) (M := Mc) (nx := bM cbs + bR cbs + gs.length) (hp := bH cbs 0 (bM cbs) ++ gH gs (bM cbs + bR cbs)) (gl := gL gs (bM cbs + bR cbs)) rfl (fun s hs => ?_) (by rw [hbl]; exact Nat.le_of_ble_eq_true hlen) hG0 (lk := fun i => if i < bM cbs then (ρc i).a else none) (fun x i hx => ?_) ?_
  · exact (h4i s hs).mono fun x hx => by
      have hx : x < bM cbs + bR cbs := hx
      omega
  · rcases hx with ⟨g, rfl, hx⟩ | hx
    · obtain ⟨g1, g2, y, hy, rfl⟩ := gL_spec _ _ _ _ hx
      have := hρg _ y hy
      rw [show bM cbs + bR cbs + (i - (bM cbs + bR cbs)) = i by omega] at this
      exact ⟨by rw [this], g2⟩
    · by_cases hi : i < bM cbs
      · simp only [if_pos hi] at hx; exact ⟨hx, by omega⟩
      · simp only [if_neg hi] at hx; cases hx
  refine hRe _ _ _ _ (fun id x hx => ?_) (runs_end hT hfin hv fun ρ1 a1 w1 hrel => ⟨_, rfl, ?_⟩)
  · by_cases hi : id < bM cbs
    · exact hi
    · simp only [if_neg hi] at hx; cases hx
  have hlk : ∀ id x, (if id < bM cbs then (ρc id).a else none) = some x → (ρ1 id).a = some x := fun id x hx => (hrel.rel.globals x id (.inr hx)).1
  have hlk' : ∀ (i id : Nat) (x : Addr), ms[i]? = some id → (ρ id).a = some x → (ρ1 i).a = some x := fun i id x hi hx => by
    refine hlk i x ?_
    have hil := (List.getElem?_eq_some_iff.1 hi).1
    have := hm i id hi
    rw [Nat.zero_add] at this
    rw [if_pos (by omega), this]
    exact hx
  have hnewl : r.new.length = es.length := by rw [← hrn]; rw [← hrn] at hn1; exact hn1
  refine inl_fits (G1 := look st.hp) (nx := st.nx) (σ := ms) (es := es) (mu := List.range (bM cbs)) (Mc := Mc) hG (fun i id hi => ?_) hσn (fun id h1 h2 => hfr id h1 (by simp only [List.length_map]; omega)) hrel.rel.hr hrel.rel.kept hlk' (fun g hg => ?_) (fun i hi => ?_) hesS (fun i j e h1 h2 => ?_) (τ := fun i => if i < bM cbs then ms.getD i 0 else base + idx i es) (fun i id hi => ?_) (fun j e he => ?_) (r := { val := r.val.ren (fun e => base + e), new := r.new.map fun b => ⟨b.k, b.ty, renL (fun e => base + e) b.c⟩, upd := updZ base ms (bT cbs) r.upd, asm := p.and (.say r.pre) }) ?_ (by simp only [List.length_map]; exact hnewl) (fun j e b he hb => ?_) (fun i id b hi hid hb => ?_) (fun id hid => hz2 id fun hmem => ?_) (fun hu => ?_) (fun s => expB 0 es (fun _ => false) s = true) (fun s hs => ?_) (SV.allB_all.1 hvX) (fun e he b hb s hs => ?_) (fun i hi b hb s hs => ?_)
  · obtain ⟨b0, hb0, _⟩ := hmG i id hi
    exact (hG.blk id b0 hb0).1
  · rw [hMc] at hg
    obtain ⟨id, hid, hgx⟩ := List.mem_filterMap.1 hg
    obtain ⟨j, hj⟩ := List.getElem?_of_mem hid
    rw [Option.map_eq_some_iff] at hgx
    obtain ⟨x, hx, rfl⟩ := hgx
    have hjl := (List.getElem?_eq_some_iff.1 hj).1
    exact ⟨j, id, x, List.mem_range.2 (by omega), hj, hx, rfl⟩
  · have hil := List.mem_range.1 hi
    have hi2 : ms[i]? = some ms[i] := List.getElem?_eq_getElem (by omega)
    obtain ⟨b0, b, ty, _, e1, e2, e3, e4, _⟩ := hmuS i _ hi2
    exact ⟨_, b0, b, hi2, e1, e2, e3, e4⟩
  · exact (List.getElem?_inj (List.getElem?_eq_some_iff.1 h1).1 hesn).1 (h1.trans h2.symm)
  · have hil := (List.getElem?_eq_some_iff.1 hi).1
    rw [if_pos (by omega), List.getD_eq_getElem?_getD, hi]; rfl
  · have he' := List.mem_of_getElem? he
    have h1 := idx_get he'
    have h2 := (hesS e he').1
    rw [if_neg (by omega), (List.getElem?_inj (idx_lt he') hesn).1 (h1.trans he.symm)]
  · show r.val.ren (fun e => base + e) = _
    rw [← hrv, SV.ren_ren]
    refine SV.ren_congr ((SV.allB_all.1 hvX).mono fun s hs id hid => ?_)
    have := (hesS id (exp_ids hs id hid)).1
    rw [if_neg (by omega)]
  · have h1 := hn2 j e b he hb
    show (r.new.map _)[j]? = _
    rw [List.getElem?_map, h1]
    simp only [Option.map_some, renL_ren]
    congr 2
    refine renL_congr fun s hs id hid => ?_
    have hX := heX e (List.mem_of_getElem? he)
    unfold esB at hX
    rw [hb] at hX
    simp only [Bool.and_eq_true, List.all_eq_true] at hX
    have := (hesS id (exp_ids (hX.2.2 s hs) id hid)).1
    rw [if_neg (by omega)]
  · obtain ⟨b0, b', ty, e0, e1, e2, e3, e4, e5, e6, e7⟩ := hmuS i id hid
    rw [hb] at e3
    injection e3 with e3
    subst e3
    rw [hz1 i id ty _ hid e0 e7, e5, renL_ren]
    congr 3
    refine renL_congr fun s hs id hid => ?_
    have := (hesS id (exp_ids (e6 s hs) id hid)).1
    rw [if_neg (by omega)]
  · obtain ⟨j, hj⟩ := List.getElem?_of_mem hmem
    have hjl := (List.getElem?_eq_some_iff.1 hj).1
    exact hid j (List.mem_range.2 (by omega)) hj
  · have h0 := hz3 hu
    rw [h0] at hml
    rw [← hml]
    rfl
  · exact ⟨fun id hid => .inl (exp_ids hs id hid), fun id o l a he => by subst he; exact exp_ids hs id (by simp [Seg.ids])⟩
  · have hX := heX e he
    unfold esB at hX
    rw [hb] at hX
    simp only [Bool.and_eq_true, List.all_eq_true] at hX
    exact hX.2.2 s hs
  · have hil := List.mem_range.1 hi
    have hi2 : ms[i]? = some ms[i] := List.getElem?_eq_getElem (by omega)
    obtain ⟨b0, b', ty, e0, e1, e2, e3, e4, e5, e6, e7⟩ := hmuS i _ hi2
    rw [hb] at e3
    injection e3 with e3
    subst e3
    exact e6 s hs
end
end Go.Proofs.Ytkoackalpcmhaaa.Am
/- slices.Concat of one, two or three parts. Conditions: none. -/
namespace Go.Proofs.Ytkoackalpcmhaaa.Am
set_option linter.unusedVariables false
set_option linter.unusedSimpArgs false
open Go Go.RowKit
set_option linter.unusedSectionVars false
variable [GT]
noncomputable abbrev fCC : Func := Try.f30
noncomputable def ccO : List (Nat × Ent) := [(32, eGrow)]
theorem ccO_ok : OOK Try.prog ccO := ook_of (l := [(32, eGrow)]) ⟨grow_ent, trivial⟩
def ccH : Nat → Nat → Hint := atH 6 1 (isB false) (atH 13 2 symH noH)
def cc1B (a : List Int) (cap : Nat) : List CB := [.rs cap [.sl .u8 a]]
def cc2B (a b : List Int) (cap : Nat) : List CB := [.rs cap [.sl .u8 a, .sl .u8 b]]
def cc3B (a b c : List Int) (cap : Nat) : List CB := [.rs cap [.sl .u8 a, .sl .u8 b, .sl .u8 c]]
noncomputable def ccS (n L : Nat) (hp : List (Nat × Blk)) (z : List Int) : St := { tm := tmL 36 [(2, .av (.one (.r n 0 L 0)))], hp := hp ++ [(n, ⟨1, 5, [.arr .u8 z]⟩)], nx := n + 1, gl := [] }
theorem cc1_run (a : List Int) (cap : Nat) : runF tyT ccO ccH [(3, 2), (11, 2)] 2 [3] [2] fCC (bA (cc1B a cap) 0 0) (bH (cc1B a cap) 0 0) 2 [] = some ([.fin], ccS 2 (0 + a.length) (bH (cc1B a cap) 0 0) ([] ++ a.take a.length), [tB (decide (IntKind.wrap IntKind.i64 (0 + (a.length : Int)) < 0)) false, 0 ≤ IntKind.wrap IntKind.i64 (0 + (a.length : Int)) ∧ IntKind.wrap IntKind.i64 (0 + (a.length : Int)) ≤ 1000000, 0 = 0, 0 + a.length ≤ widths [Seg.arr IntKind.u8 a], (0 + a.length) * 2 ≤ 140737488355328]) := by kernel_rfl
theorem cc2_run (a b : List Int) (cap : Nat) : runF tyT ccO ccH [(3, 3), (11, 3)] 3 [5] [2] fCC (bA (cc2B a b cap) 0 0) (bH (cc2B a b cap) 0 0) 3 [] = some ([.fin], ccS 3 (widths [Seg.arr IntKind.u8 ([] ++ a.take a.length)] + b.length) (bH (cc2B a b cap) 0 0) ([] ++ a.take a.length ++ b.take b.length), [tB (decide (IntKind.wrap IntKind.i64 (0 + (a.length : Int)) < 0)) false, tB (decide (IntKind.wrap IntKind.i64 (IntKind.wrap IntKind.i64 (0 + (a.length : Int)) + (b.length : Int)) < 0)) false, 0 ≤ IntKind.wrap IntKind.i64 (IntKind.wrap IntKind.i64 (0 + (a.length : Int)) + (b.length : Int)) ∧ IntKind.wrap IntKind.i64 (IntKind.wrap IntKind.i64 (0 + (a.length : Int)) + (b.length : Int)) ≤ 1000000, 0 = 0, 0 + a.length ≤ widths [Seg.arr IntKind.u8 a], (0 + a.length) * 2 ≤ 140737488355328, 0 + a.length = widths [Seg.arr IntKind.u8 ([] ++ a.take a.length)], 0 + b.length ≤ widths [Seg.arr IntKind.u8 b], (widths [Seg.arr IntKind.u8 ([] ++ a.take a.length)] + b.length) * 2 ≤ 140737488355328]) := by kernel_rfl
theorem cc3_run (a b c : List Int) (cap : Nat) : runF tyT ccO ccH [(3, 4), (11, 4)] 4 [7] [2] fCC (bA (cc3B a b c cap) 0 0) (bH (cc3B a b c cap) 0 0) 4 [] = some ([.fin], ccS 4 (widths [Seg.arr IntKind.u8 ([] ++ a.take a.length ++ b.take b.length)] + c.length) (bH (cc3B a b c cap) 0 0) ([] ++ a.take a.length ++ b.take b.length ++ c.take c.length), [tB (decide (IntKind.wrap IntKind.i64 (0 + (a.length : Int)) < 0)) false, tB (decide (IntKind.wrap IntKind.i64 (IntKind.wrap IntKind.i64 (0 + (a.length : Int)) + (b.length : Int)) < 0)) false, tB (decide (IntKind.wrap IntKind.i64 (IntKind.wrap IntKind.i64 (IntKind.wrap IntKind.i64 (0 + (a.length : Int)) + (b.length : Int)) + (c.length : Int)) < 0)) false, 0 ≤ IntKind.wrap IntKind.i64 (IntKind.wrap IntKind.i64 (IntKind.wrap IntKind.i64 (0 + (a.length : Int)) + (b.length : Int)) + (c.length : Int)) ∧ IntKind.wrap IntKind.i64 (IntKind.wrap IntKind.i64 (IntKind.wrap IntKind.i64 (0 + (a.length : Int)) + (b.length : Int)) + (c.length : Int)) ≤ 1000000, 0 = 0, 0 + a.length ≤ widths [Seg.arr IntKind.u8 a], (0 + a.length) * 2 ≤ 140737488355328, 0 + a.length = widths [Seg.arr IntKind.u8 ([] ++ a.take a.length)], 0 + b.length ≤ widths [Seg.arr IntKind.u8 b], (widths [Seg.arr IntKind.u8 ([] ++ a.take a.length)] + b.length) * 2 ≤ 140737488355328, widths [Seg.arr IntKind.u8 ([] ++ a.take a.length)] + b.length = widths [Seg.arr IntKind.u8 ([] ++ a.take a.length ++ b.take b.length)], 0 + c.length ≤ widths [Seg.arr IntKind.u8 c], (widths [Seg.arr IntKind.u8 ([] ++ a.take a.length ++ b.take b.length)] + c.length) * 2 ≤ 140737488355328]) := by kernel_rfl
/-- Parts together. -/
def ccF : List CB → Option BR
  | [.rs _ [.sl .u8 a]] => some { pre := a.length ≤ 1000000, val := .av (.one (.r 0 0 a.length 0)), new := [⟨1, 5, [.arr .u8 a]⟩] }
  | [.rs _ [.sl .u8 a, .sl .u8 b]] => some { pre := a.length + b.length ≤ 1000000, val := .av (.one (.r 0 0 (a.length + b.length) 0)), new := [⟨1, 5, [.arr .u8 (a ++ b)]⟩] }
  | [.rs _ [.sl .u8 a, .sl .u8 b, .sl .u8 c]] => some { pre := a.length + b.length + c.length ≤ 1000000, val := .av (.one (.r 0 0 (a.length + b.length + c.length) 0)), new := [⟨1, 5, [.arr .u8 (a ++ b ++ c)]⟩] }
  | _ => none
theorem wN {n : Nat} (h : n ≤ 1000000) : IntKind.wrap IntKind.i64 (n : Int) = n := w64 (by omega) (by omega)
theorem cc_ends (cbs : List CB) (r : BR) (hF : ccF cbs = some r) (hp : r.pre) : EndsB Try.prog tyT [] fCC cbs r := by
  unfold ccF at hF
  split at hF
  · rename_i cap a
    injection hF with hF
    subst hF
    have hp : a.length ≤ 1000000 := hp
    have hr := cc1_run a cap
    simp only [List.nil_append, List.take_length, widths_o, Int.zero_add, Nat.zero_add, wN hp] at hr
    exact ⟨_, _, .av (.one (.r 2 0 a.length 0)), [2], .inr rfl, FromK.run tyT_ok ccO_ok mixed_ hr ⟨tB_nlt.2 (by omega), ⟨by omega, by omega⟩, trivial, Nat.le_refl _, by omega, trivial⟩, by kernel_rfl, by kernel_rfl, by kernel_rfl⟩
  · rename_i cap a b
    injection hF with hF
    subst hF
    have hp : a.length + b.length ≤ 1000000 := hp
    have hr := cc2_run a b cap
    have e2 : (a.length : Int) + (b.length : Int) = ((a.length + b.length : Nat) : Int) := by omega
    simp only [List.nil_append, List.take_length, widths_o, Int.zero_add, Nat.zero_add, wN (show a.length ≤ 1000000 by omega), e2, wN hp] at hr
    exact ⟨_, _, .av (.one (.r 3 0 (a.length + b.length) 0)), [3], .inr rfl, FromK.run tyT_ok ccO_ok mixed_ hr ⟨tB_nlt.2 (by omega), tB_nlt.2 (by omega), ⟨by omega, by omega⟩, trivial, Nat.le_refl _, by omega, trivial, Nat.le_refl _, by omega, trivial⟩, by kernel_rfl, by kernel_rfl, by kernel_rfl⟩
  · rename_i cap a b c
    injection hF with hF
    subst hF
    have hp : a.length + b.length + c.length ≤ 1000000 := hp
    have hr := cc3_run a b c cap
    have e2 : (a.length : Int) + (b.length : Int) = ((a.length + b.length : Nat) : Int) := by omega
    have e3 : ((a.length + b.length : Nat) : Int) + (c.length : Int) = ((a.length + b.length + c.length : Nat) : Int) := by omega
    simp only [List.nil_append, List.take_length, widths_o, Int.zero_add, Nat.zero_add, wN (show a.length ≤ 1000000 by omega), e2, wN (show a.length + b.length ≤ 1000000 by omega), e3, wN hp, List.length_append] at hr
    exact ⟨_, _, .av (.one (.r 4 0 (a.length + b.length + c.length) 0)), [4], .inr rfl, FromK.run tyT_ok ccO_ok mixed_ hr ⟨tB_nlt.2 (by omega), tB_nlt.2 (by omega), tB_nlt.2 (by omega), ⟨by omega, by omega⟩, trivial, Nat.le_refl _, by omega, trivial, Nat.le_refl _, by omega, trivial, Nat.le_refl _, by omega, trivial⟩, by kernel_rfl, by kernel_rfl, by kernel_rfl⟩
  · cases hF
theorem concat_ent (sh : List ShB) (hs : sh.length = 1 := by rfl) : EntOK Try.prog 30 (entB sh ccF) :=
  ok_B tyT_ok Try.func30 (by kernel_rfl) (by kernel_rfl) [] (fun x hx => by cases hx) (by rw [hs]; kernel_rfl) cc_ends
end Go.Proofs.Ytkoackalpcmhaaa.Am
/- The cipher's Turn: parts together with the stream. Conditions: none. -/
namespace Go.Proofs.Ytkoackalpcmhaaa.Am
set_option linter.unusedVariables false
set_option linter.unusedSimpArgs false
open Go Go.RowKit
set_option linter.unusedSectionVars false
variable [GT]
/-- Bytes together with others, up to i. -/
def xN (o st : List Int) (i : Nat) : List Int := (List.range o.length).map fun j => if j < i then ixor .u8 (o.getD j 0) (st.getD j 0) else o.getD j 0
def turnL (o st : List Int) : List Int := (List.range o.length).map fun j => ixor .u8 (o.getD j 0) (st.getD j 0)
theorem xN_len (o st : List Int) (i : Nat) : (xN o st i).length = o.length := by simp [xN]
theorem turnL_len (o st : List Int) : (turnL o st).length = o.length := by simp [turnL]
theorem xN_zero (o st : List Int) : xN o st 0 = o := by
  refine List.ext_getElem (xN_len _ _ _) fun j h1 h2 => ?_
  simp [xN, List.getElem_map, List.getD_eq_getElem?_getD, List.getElem?_eq_getElem h2]
theorem xN_all (o st : List Int) : xN o st o.length = turnL o st := by
  unfold xN turnL
  refine List.map_congr_left fun j hj => ?_
  rw [if_pos (List.mem_range.1 hj)]
theorem xN_get (o st : List Int) (i j : Nat) (h : j < o.length) : (xN o st i).getD j 0 = if j < i then ixor .u8 (o.getD j 0) (st.getD j 0) else o.getD j 0 := by
  unfold xN
  rw [List.getD_eq_getElem?_getD, List.getElem?_map, List.getElem?_range h]
  rfl
theorem xN_step (o st : List Int) (i : Nat) (h : i < o.length) : (xN o st i).set i (ixor .u8 ((xN o st i).getD i 0) (st.getD i 0)) = xN o st (i + 1) := by
  rw [xN_get o st i i h, if_neg (Nat.lt_irrefl _)]
  refine List.ext_getElem (by simp [xN_len]) fun j h1 h2 => ?_
  have hj : j < o.length := by rw [xN_len] at h2; exact h2
  have e1 := xN_get o st i j hj
  have e2 := xN_get o st (i + 1) j hj
  rw [List.getD_eq_getElem?_getD, List.getElem?_eq_getElem (by rw [xN_len]; exact hj)] at e1 e2
  simp only [Option.getD_some] at e1 e2
  rw [List.getElem_set, e2]
  by_cases hij : i = j
  · subst hij
    rw [if_pos rfl, if_pos (by omega)]
  · rw [if_neg hij, e1]
    by_cases hlt : j < i
    · rw [if_pos hlt, if_pos (by omega)]
    · rw [if_neg hlt, if_neg (by omega)]

noncomputable abbrev fTu : Func := Try.f19
noncomputable def tuO : List (Nat × Ent) := [(30, eOr (entB [.rs [.sw .u8]] ccF) (entB [.rs [.sw .u8, .sw .u8]] ccF)), (18, eStream)]
theorem tuO_ok : OOK Try.prog tuO := ook_of (l := [(30, eOr (entB [.rs [.sw .u8]] ccF) (entB [.rs [.sw .u8, .sw .u8]] ccF)), (18, eStream)]) ⟨eOr_ok (concat_ent _) (concat_ent _), stream_ent, trivial⟩
def tuB (kf bf : Nat → Int) (cap : Nat) (ps : List CF) : List CB := [.rd [.pi .u8 sbox, .ag .u8 (keyL 240 kf)], .ag .u8 (keyL 16 bf), .rs cap ps]
def tuS (o st : List Int) (n i : Nat) : St := { tm := tmL 32 [(7, .av (.one (.r 0 0 n 0))), (16, .av (.one (.s 1 0 n n))), (17, ofV (.int .i64 (n : Nat))), (18, ofV (.int .i64 (i : Nat)))], hp := [(0, ⟨1, 5, [.arr .u8 o]⟩), (1, ⟨1, 5, [.arr .u8 st]⟩)], nx := 2, gl := [] }
def tuE (o : List Int) (n : Nat) : St := { tm := tmL 32 [(6, .av (.one (.r 0 0 n 0)))], hp := [(0, ⟨1, 5, [.arr .u8 o]⟩)], nx := 1, gl := [] }
def tuH (i : Nat) : Nat → Nat → Hint := atH 3 0 (isB true) (atH 4 1 symH (atH 4 2 symH (atH 5 2 symH (atH 5 3 symH (atH 5 6 symH (atH 5 7 symH (atH 6 0 (isI .i64 ((i + 1 : Nat) : Int)) noH)))))))
theorem tu_1 (kf bf : Nat → Int) (a : List Int) (cap : Nat) : runF tyT tuO noH [] 0 [5, 6] [7, 16, 17, 18] fTu (bA (tuB kf bf cap [.sl .u8 a]) 0 0) (bH (tuB kf bf cap [.sl .u8 a]) 0 0) 4 [] = some (toAt fTu 3 [], tuS a (strm (keyL 240 kf) ((a.length + 15) / 16) (keyL 16 bf)) a.length 0, [a.length = a.length, a.length ≤ 1000000, sbox = sbox ∧ 0 ≤ ((a.length : Nat) : Int) ∧ ((a.length : Nat) : Int) ≤ 1000000]) := by kernel_rfl
theorem tu_2 (kf bf : Nat → Int) (a b : List Int) (cap : Nat) : runF tyT tuO noH [] 0 [6, 7] [7, 16, 17, 18] fTu (bA (tuB kf bf cap [.sl .u8 a, .sl .u8 b]) 0 0) (bH (tuB kf bf cap [.sl .u8 a, .sl .u8 b]) 0 0) 5 [] = some (toAt fTu 3 [], tuS (a ++ b) (strm (keyL 240 kf) ((a.length + b.length + 15) / 16) (keyL 16 bf)) (a.length + b.length) 0, [a.length = a.length, b.length = b.length, a.length + b.length ≤ 1000000, sbox = sbox ∧ 0 ≤ ((a.length + b.length : Nat) : Int) ∧ ((a.length + b.length : Nat) : Int) ≤ 1000000]) := by kernel_rfl
theorem tu_go (o st : List Int) (n i k : Nat) : runN tyT tuO (tuH i) [] 2000 0 [0, 1] [7, 16, 17, 18] (inAt fTu 3 [] k) (tuS o st n i) = some (hdAt fTu 3 [] k, tuS (o.set i (ixor .u8 (o.getD i 0) (st.getD i 0))) st n (i + 1), [tB (decide ((i : Int) < (n : Int))) true, 0 + n ≤ widths [Seg.arr .u8 st], 0 ≤ (i : Int) ∧ i ≤ n - 1, 1 ≤ n, i < st.length, 0 + n ≤ widths [Seg.arr .u8 o], 0 ≤ (i : Int) ∧ i ≤ n - 1, 1 ≤ n, i < o.length, 0 + n ≤ widths [Seg.arr .u8 o], 0 ≤ (i : Int) ∧ i ≤ n - 1, 1 ≤ n, i < o.length, tI .i64 (IntKind.wrap .i64 ((i : Int) + 1)) ((i + 1 : Nat) : Int)]) := by kernel_rfl
theorem tu_end (o st : List Int) (n i k : Nat) : runN tyT tuO (atH 3 0 (isB false) noH) [] 2000 0 [0] [6] (inAt fTu 3 [] k) (tuS o st n i) = some ([.fin], tuE o n, [tB (decide ((i : Int) < (n : Int))) false]) := by kernel_rfl
theorem tu_rounds (o st : List Int) (n : Nat) (h1 : n = o.length) (h2 : n ≤ st.length) (h3 : n ≤ 1000000) : ∀ (k i : Nat), i + k = n → Reaches Try.prog 0 (hdAt fTu 3 [] (k + 1)) (tuS (xN o st i) st n i) [.fin] (tuE (turnL o st) n)
  | 0, i, h => by
    refine Reaches.one (Reaches.run tyT_ok tuO_ok mixed_ (by rw [tu_end, show i = o.length by omega, xN_all]) ?_)
    simp only [allP_cons, allP_nil, and_true, tB_nlt]
    omega
  | k + 1, i, h => by
    refine (Reaches.one (Reaches.run tyT_ok tuO_ok mixed_ (by rw [tu_go, xN_step o st i (by omega)]) ?_)).trans (tu_rounds o st n h1 h2 h3 k (i + 1) (by omega))
    simp only [allP_cons, allP_nil, and_true, tB_lt, widths_o, xN_len, tI_iff]
    have := w64 (z := (i : Int) + 1) (by omega) (by omega)
    omega
theorem tu_reach (o st : List Int) (n : Nat) (h1 : n = o.length) (h2 : n ≤ st.length) (h3 : n ≤ 1000000) : Reaches Try.prog 0 (toAt fTu 3 []) (tuS o st n 0) [.fin] (tuE (turnL o st) n) := by
  have := tu_rounds o st n h1 h2 h3 n 0 (by omega)
  rw [xN_zero] at this
  exact Reaches.rounds (n + 1) this
def tuR (ks b o : List Int) : List Int := turnL o (strm ks ((o.length + 15) / 16) b)
/-- Parts together with the stream. -/
def tuF : List CB → Option BR
  | [.rd [.pi .u8 box, .ag .u8 ks], .ag .u8 b, .rs _ [.sl .u8 a]] => some { pre := box = sbox ∧ ks.length = 240 ∧ b.length = 16 ∧ a.length ≤ 1000000, val := .av (.one (.r 0 0 a.length 0)), new := [⟨1, 5, [.arr .u8 (tuR ks b a)]⟩] }
  | [.rd [.pi .u8 box, .ag .u8 ks], .ag .u8 b, .rs _ [.sl .u8 a, .sl .u8 c]] => some { pre := box = sbox ∧ ks.length = 240 ∧ b.length = 16 ∧ a.length + c.length ≤ 1000000, val := .av (.one (.r 0 0 (a.length + c.length) 0)), new := [⟨1, 5, [.arr .u8 (tuR ks b (a ++ c))]⟩] }
  | _ => none
theorem tu_ends (cbs : List CB) (r : BR) (hF : tuF cbs = some r) (hp : r.pre) : EndsB Try.prog tyT [] fTu cbs r := by
  unfold tuF at hF
  split at hF
  · rename_i box ks b cap a
    injection hF with hF
    subst hF
    obtain ⟨rfl, hk, hb, hp⟩ : box = sbox ∧ ks.length = 240 ∧ b.length = 16 ∧ a.length ≤ 1000000 := hp
    have hr := FromK.run (m0 := 0) tyT_ok tuO_ok mixed_ (tu_1 (g2 ks) (g2 b) a cap) ⟨rfl, hp, ⟨rfl, by omega, by omega⟩, trivial⟩
    unfold tuB at hr
    rw [keyL_g2 hk, keyL_g2 hb] at hr
    exact ⟨_, _, .av (.one (.r 0 0 a.length 0)), [0], .inr rfl, hr.trans (tu_reach _ _ _ rfl (by rw [strm_len]; omega) hp), by kernel_rfl, by kernel_rfl, by kernel_rfl⟩
  · rename_i box ks b cap a c
    injection hF with hF
    subst hF
    obtain ⟨rfl, hk, hb, hp⟩ : box = sbox ∧ ks.length = 240 ∧ b.length = 16 ∧ a.length + c.length ≤ 1000000 := hp
    have hr := FromK.run (m0 := 0) tyT_ok tuO_ok mixed_ (tu_2 (g2 ks) (g2 b) a c cap) ⟨rfl, rfl, hp, ⟨rfl, by omega, by omega⟩, trivial⟩
    unfold tuB at hr
    rw [keyL_g2 hk, keyL_g2 hb] at hr
    have h2 := tu_reach (a ++ c) (strm ks ((a.length + c.length + 15) / 16) b) (a.length + c.length) (by rw [List.length_append]) (by rw [strm_len]; omega) hp
    refine ⟨_, _, .av (.one (.r 0 0 (a.length + c.length) 0)), [0], .inr rfl, hr.trans h2, by kernel_rfl, by kernel_rfl, ?_⟩
    unfold tuR
    rw [List.length_append]
    kernel_rfl
  · cases hF
theorem Turn_ent (sh : List ShB) (hs : sh.length = 3 := by rfl) : EntOK Try.prog 19 (entB sh tuF) :=
  ok_B tyT_ok Try.func19 (by kernel_rfl) (by kernel_rfl) [] (fun x hx => by cases hx) (by rw [hs]; kernel_rfl) tu_ends
end Go.Proofs.Ytkoackalpcmhaaa.Am
/- The cipher: the reference's Next, and that it is Next. Conditions: none. -/
namespace Go.Proofs.Ytkoackalpcmhaaa.Am
set_option linter.unusedVariables false
set_option linter.unusedSimpArgs false
open Go Go.RowKit
variable [GT]

omit [GT] in
def setAt (bf : Nat → Int) (p : Nat) (v : Int) (j : Nat) : Int := if j = p then v else bf j
omit [GT] in
def inR' (z : Int) : Prop := 0 ≤ z ∧ z.toNat ≤ 255
omit [GT] in
def cN (z c : Int) : Int := IntKind.i64.wrap (IntKind.i64.wrap z + c)
omit [GT] in
def rG : Nat → Nat → Int → (Nat → Int) → (Nat → Int)
  | 0, _, _, bf => bf
  | n + 1, i, c, bf => rG n (i + 1) (IntKind.i64.wrap ((cN (bf (15 - i)) c).tdiv 256)) (setAt bf (15 - i) (IntKind.u8.wrap ((cN (bf (15 - i)) c).tmod 256)))
omit [GT] in
def rnextL (bs : List Int) : List Int := keyL 16 (rG 16 0 1 (g2 bs))
theorem rnext_run (bf : Nat → Int) : wholeV tyT [] noH [(3, 17)] 1000 Try.f17 [.av (.one (.arr .u8 (keyL 16 bf)))] = some (.av (.one (.arr .u8 (keyL 16 (rG 16 0 1 bf)))), []) := by
  kernel_rfl
theorem rnext_ent : EntOK Try.prog 17 (e16 rnextL) := by
  refine ok_e16 Try.func17 (by kernel_rfl) (by kernel_rfl) fun bs hl ρ w hgw => ?_
  have := am_val tyT_ok nil_ok mixed_ Try.func17 (avs := [.av (.one (.arr .u8 (keyL 16 (g2 bs))))]) (by kernel_rfl) (rnext_run (g2 bs)) trivial (by kernel_rfl) (by kernel_rfl) ρ w hgw
  rw [keyL_g2 hl] at this
  exact this

theorem i64_small {z : Int} (h : 0 ≤ z) (h' : z < 65536) : IntKind.i64.wrap z = z := by
  simp [IntKind.wrap, IntKind.bits, IntKind.signed]
  omega
theorem u8_small {z : Int} (h : 0 ≤ z) (h' : z < 256) : IntKind.u8.wrap z = z := by
  simp [IntKind.wrap, IntKind.bits, IntKind.signed]
  omega
theorem u8_eq (z : Int) : IntKind.u8.wrap z = z % 256 := by
  simp [IntKind.wrap, IntKind.bits, IntKind.signed]
theorem cN_small {z c : Int} (h : inR' z) (hc : 0 ≤ c) (hc' : c < 300) : cN z c = z + c := by
  unfold cN
  obtain ⟨h1, h2⟩ := h
  rw [i64_small h1 (by omega), i64_small (by omega) (by omega)]
theorem rG_zero : ∀ (n i : Nat) (bf : Nat → Int), (∀ j, inR' (bf j)) → rG n i 0 bf = bf
  | 0, _, _, _ => rfl
  | n + 1, i, bf, h => by
    have hz := h (15 - i)
    obtain ⟨h1, h2⟩ := hz
    have e : cN (bf (15 - i)) 0 = bf (15 - i) := by rw [cN_small ⟨h1, h2⟩ (by omega) (by omega), Int.add_zero]
    have e2 : setAt bf (15 - i) (IntKind.u8.wrap ((bf (15 - i)).tmod 256)) = bf := by
      funext j
      unfold setAt
      split
      · rename_i hj
        subst hj
        rw [Int.tmod_eq_emod_of_nonneg h1, Int.emod_eq_of_lt h1 (by omega), u8_small h1 (by omega)]
      · rfl
    rw [rG, e, e2, Int.tdiv_eq_ediv_of_nonneg h1, Int.ediv_eq_zero_of_lt h1 (by omega), i64_small (by omega) (by omega)]
    exact rG_zero n (i + 1) bf h
theorem next_rG : ∀ (n i : Nat) (bf : Nat → Int), (∀ j, inR' (bf j)) → nextG n i bf = rG n i 1 bf
  | 0, _, _, _ => rfl
  | n + 1, i, bf, h => by
    obtain ⟨h1, h2⟩ := h (15 - i)
    have e : cN (bf (15 - i)) 1 = bf (15 - i) + 1 := cN_small ⟨h1, h2⟩ (by omega) (by omega)
    have h3 : (0 : Int) ≤ bf (15 - i) + 1 := by omega
    have e2 : setAt bf (15 - i) (IntKind.u8.wrap ((bf (15 - i) + 1).tmod 256)) = incAt bf i := by
      funext j
      unfold setAt incAt inc
      split
      · rename_i hj
        subst hj
        rw [Int.tmod_eq_emod_of_nonneg h3, u8_eq, u8_eq, Int.emod_emod_of_dvd _ (Int.dvd_refl _)]
      · rfl
    have hin : ∀ j, inR' (incAt bf i j) := fun j => by
      unfold incAt
      split
      · unfold inc
        rw [u8_eq]
        constructor <;> omega
      · exact h j
    rw [nextG, rG, e, e2, Int.tdiv_eq_ediv_of_nonneg h3]
    by_cases h255 : bf (15 - i) = 255
    · have hc : (inc (bf (15 - i)) != 0) = false := by rw [h255]; decide
      rw [hc, if_neg (by decide), h255, show ((255 : Int) + 1) / 256 = 1 by decide, i64_small (by omega) (by omega)]
      exact next_rG n (i + 1) _ hin
    · have hc : (inc (bf (15 - i)) != 0) = true := by
        unfold inc
        rw [u8_small h3 (by omega), bne_iff_ne]
        omega
      rw [hc, if_pos rfl, Int.ediv_eq_zero_of_lt h3 (by omega), i64_small (by omega) (by omega)]
      exact (rG_zero n (i + 1) _ hin).symm
theorem next_eq {bs : List Int} (h : ∀ j, inR' (g2 bs j)) : nextL bs = rnextL bs := by
  unfold nextL rnextL
  rw [next_rG 16 0 _ h]
end Go.Proofs.Ytkoackalpcmhaaa.Am
/- The cipher: a key's words. Conditions: none. -/
namespace Go.Proofs.Ytkoackalpcmhaaa.Am
set_option linter.unusedVariables false
set_option linter.unusedSimpArgs false
open Go Go.RowKit
variable [GT]

omit [GT] in
noncomputable def nO : List (Nat × Ent) := [(21, tableE), (24, e1I .u8 tw), (23, turnE), (22, eWith)]
theorem nO_ok : OOK Try.prog nO := ook_of (l := [(21, tableE), (24, e1I .u8 tw), (23, turnE), (22, eWith)]) ⟨table_ent, twice_ent, turn_ent, with_ent, trivial⟩
omit [GT] in
def nArgs (cap : Nat) : List SV := [.av (.one (.s 0 0 32 cap))]
omit [GT] in
def nHp (kb : Nat → Int) : List (Nat × Blk) := [(0, ⟨2, 5, [.arr .u8 (keyL 32 kb)]⟩)]
omit [GT] in
def pieces (W : Nat → Int) (n : Nat) : List Seg := (upTo 0 n).map (piece W)
omit [GT] in
def nH : Nat → Nat → Hint := atH 9 8 symH noH
omit [GT] in
noncomputable def nTodo : List AI := match Try.f11.body with
  | some c => todoOf (arun tyT nO nH [] 1000 [.code c] (start (nArgs 32) 89 (nHp fun _ => 0) 1 []))
  | none => []
omit [GT] in
noncomputable def nX : Code := loopOf nTodo
omit [GT] in
noncomputable def nK : List AI := restOf nTodo
omit [GT] in
def nS (kb : Nat → Int) (cap : Nat) (W : Nat → Int) (x : Int) (i : Nat) : St := { tm := tmL 89 [(0, .av (.one (.s 0 0 32 cap))), (4, .av (.one (.p 2 0))), (5, ofV (.int .u8 x)), (14, ofV (.int .i64 i))], hp := nHp kb ++ [(1, ⟨0, 66, [.arr .u8 sbox]⟩), (2, ⟨0, 53, .p 1 0 :: pieces W 60⟩)], nx := 3, gl := [] }
omit [GT] in
def updW (W : Nat → Int) (i : Nat) (l : List Int) (j : Nat) : Int := if j / 4 = i then g2 l (j % 4) else W j
omit [GT] in
def w4 (W : Nat → Int) (i : Nat) : List Int := [W (4 * i), W (4 * i + 1), W (4 * i + 2), W (4 * i + 3)]
omit [GT] in
def newW (kb W : Nat → Int) (x : Int) (i : Nat) : List Int := match Nat.blt i 8 with
  | true => w4 kb i
  | false => match i % 8 with
    | 0 => wx (w4 W (i - 8) ++ wx [sb (W (4 * i - 3)), sb (W (4 * i - 2)), sb (W (4 * i - 1)), sb (W (4 * i - 4)), x, 0, 0, 0] 2) 2
    | 4 => wx (w4 W (i - 8) ++ [sb (W (4 * i - 4)), sb (W (4 * i - 3)), sb (W (4 * i - 2)), sb (W (4 * i - 1))]) 2
    | _ => wx (w4 W (i - 8) ++ w4 W (i - 1)) 2
omit [GT] in
def newX (x : Int) (i : Nat) : Int := match Nat.blt i 8 with
  | true => x
  | false => match i % 8 with
    | 0 => tw x
    | _ => x
omit [GT] in
def inR (z : Int) : Prop := 0 ≤ z ∧ z.toNat ≤ 255
omit [GT] in
def rP (z : Int) : List Prop := [inR z, z.toNat < sbox.length]
omit [GT] in
def newP (cap : Nat) (W : Nat → Int) (i : Nat) : List Prop := match Nat.blt i 8 with
  | true => [32 ≤ cap, 0 ≤ ((4 * i + 4 : Nat) : Int) ∧ ((4 * i + 4 : Nat) : Int).toNat ≤ cap, 0 ≤ ((4 * i : Nat) : Int) ∧ ((4 * i : Nat) : Int).toNat ≤ ((4 * i + 4 : Nat) : Int).toNat]
  | false => match i % 8 with
    | 0 => rP (W (4 * i - 3)) ++ (rP (W (4 * i - 2)) ++ (rP (W (4 * i - 1)) ++ rP (W (4 * i - 4))))
    | 4 => rP (W (4 * i - 4)) ++ (rP (W (4 * i - 3)) ++ (rP (W (4 * i - 2)) ++ rP (W (4 * i - 1))))
    | _ => []
theorem n_start (kb : Nat → Int) (cap : Nat) {c : Code} (hc : Try.f11.body = some c) : runN tyT nO nH [] 1000 3 [] [0, 4, 5, 14] [.code c] (start (nArgs cap) 89 (nHp kb) 1 []) = some (.code (.loop nX) :: nK, nS kb cap (fun _ => 0) 1 0, []) := by
  have : ∀ d, Try.f11.body = d → (match d with | some c => runN tyT nO nH [] 1000 3 [] [0, 4, 5, 14] [.code c] (start (nArgs cap) 89 (nHp kb) 1 []) | none => none) = some (.code (.loop nX) :: nK, nS kb cap (fun _ => 0) 1 0, []) := by
    intro d hd
    subst hd
    kernel_rfl
  exact this _ hc
theorem n_round0 (kb W : Nat → Int) (cap : Nat) (x : Int) (n : Nat) : runN tyT nO nH [] 2000 3 [] [0, 4, 5, 14] (.code nX :: .hd n nX :: nK) (nS kb cap W x 0) = some (.hd n nX :: nK, nS kb cap (updW W 0 (newW kb W x 0)) (newX x 0) 1, newP cap W 0) := by
  kernel_rfl
theorem n_round1 (kb W : Nat → Int) (cap : Nat) (x : Int) (n : Nat) : runN tyT nO nH [] 2000 3 [] [0, 4, 5, 14] (.code nX :: .hd n nX :: nK) (nS kb cap W x 1) = some (.hd n nX :: nK, nS kb cap (updW W 1 (newW kb W x 1)) (newX x 1) 2, newP cap W 1) := by
  kernel_rfl
theorem n_round2 (kb W : Nat → Int) (cap : Nat) (x : Int) (n : Nat) : runN tyT nO nH [] 2000 3 [] [0, 4, 5, 14] (.code nX :: .hd n nX :: nK) (nS kb cap W x 2) = some (.hd n nX :: nK, nS kb cap (updW W 2 (newW kb W x 2)) (newX x 2) 3, newP cap W 2) := by
  kernel_rfl
theorem n_round3 (kb W : Nat → Int) (cap : Nat) (x : Int) (n : Nat) : runN tyT nO nH [] 2000 3 [] [0, 4, 5, 14] (.code nX :: .hd n nX :: nK) (nS kb cap W x 3) = some (.hd n nX :: nK, nS kb cap (updW W 3 (newW kb W x 3)) (newX x 3) 4, newP cap W 3) := by
  kernel_rfl
theorem n_round4 (kb W : Nat → Int) (cap : Nat) (x : Int) (n : Nat) : runN tyT nO nH [] 2000 3 [] [0, 4, 5, 14] (.code nX :: .hd n nX :: nK) (nS kb cap W x 4) = some (.hd n nX :: nK, nS kb cap (updW W 4 (newW kb W x 4)) (newX x 4) 5, newP cap W 4) := by
  kernel_rfl
theorem n_round5 (kb W : Nat → Int) (cap : Nat) (x : Int) (n : Nat) : runN tyT nO nH [] 2000 3 [] [0, 4, 5, 14] (.code nX :: .hd n nX :: nK) (nS kb cap W x 5) = some (.hd n nX :: nK, nS kb cap (updW W 5 (newW kb W x 5)) (newX x 5) 6, newP cap W 5) := by
  kernel_rfl
theorem n_round6 (kb W : Nat → Int) (cap : Nat) (x : Int) (n : Nat) : runN tyT nO nH [] 2000 3 [] [0, 4, 5, 14] (.code nX :: .hd n nX :: nK) (nS kb cap W x 6) = some (.hd n nX :: nK, nS kb cap (updW W 6 (newW kb W x 6)) (newX x 6) 7, newP cap W 6) := by
  kernel_rfl
theorem n_round7 (kb W : Nat → Int) (cap : Nat) (x : Int) (n : Nat) : runN tyT nO nH [] 2000 3 [] [0, 4, 5, 14] (.code nX :: .hd n nX :: nK) (nS kb cap W x 7) = some (.hd n nX :: nK, nS kb cap (updW W 7 (newW kb W x 7)) (newX x 7) 8, newP cap W 7) := by
  kernel_rfl
theorem n_round8 (kb W : Nat → Int) (cap : Nat) (x : Int) (n : Nat) : runN tyT nO nH [] 2000 3 [] [0, 4, 5, 14] (.code nX :: .hd n nX :: nK) (nS kb cap W x 8) = some (.hd n nX :: nK, nS kb cap (updW W 8 (newW kb W x 8)) (newX x 8) 9, newP cap W 8) := by
  kernel_rfl
theorem n_round9 (kb W : Nat → Int) (cap : Nat) (x : Int) (n : Nat) : runN tyT nO nH [] 2000 3 [] [0, 4, 5, 14] (.code nX :: .hd n nX :: nK) (nS kb cap W x 9) = some (.hd n nX :: nK, nS kb cap (updW W 9 (newW kb W x 9)) (newX x 9) 10, newP cap W 9) := by
  kernel_rfl
theorem n_round10 (kb W : Nat → Int) (cap : Nat) (x : Int) (n : Nat) : runN tyT nO nH [] 2000 3 [] [0, 4, 5, 14] (.code nX :: .hd n nX :: nK) (nS kb cap W x 10) = some (.hd n nX :: nK, nS kb cap (updW W 10 (newW kb W x 10)) (newX x 10) 11, newP cap W 10) := by
  kernel_rfl
theorem n_round11 (kb W : Nat → Int) (cap : Nat) (x : Int) (n : Nat) : runN tyT nO nH [] 2000 3 [] [0, 4, 5, 14] (.code nX :: .hd n nX :: nK) (nS kb cap W x 11) = some (.hd n nX :: nK, nS kb cap (updW W 11 (newW kb W x 11)) (newX x 11) 12, newP cap W 11) := by
  kernel_rfl
theorem n_round12 (kb W : Nat → Int) (cap : Nat) (x : Int) (n : Nat) : runN tyT nO nH [] 2000 3 [] [0, 4, 5, 14] (.code nX :: .hd n nX :: nK) (nS kb cap W x 12) = some (.hd n nX :: nK, nS kb cap (updW W 12 (newW kb W x 12)) (newX x 12) 13, newP cap W 12) := by
  kernel_rfl
theorem n_round13 (kb W : Nat → Int) (cap : Nat) (x : Int) (n : Nat) : runN tyT nO nH [] 2000 3 [] [0, 4, 5, 14] (.code nX :: .hd n nX :: nK) (nS kb cap W x 13) = some (.hd n nX :: nK, nS kb cap (updW W 13 (newW kb W x 13)) (newX x 13) 14, newP cap W 13) := by
  kernel_rfl
theorem n_round14 (kb W : Nat → Int) (cap : Nat) (x : Int) (n : Nat) : runN tyT nO nH [] 2000 3 [] [0, 4, 5, 14] (.code nX :: .hd n nX :: nK) (nS kb cap W x 14) = some (.hd n nX :: nK, nS kb cap (updW W 14 (newW kb W x 14)) (newX x 14) 15, newP cap W 14) := by
  kernel_rfl
theorem n_round15 (kb W : Nat → Int) (cap : Nat) (x : Int) (n : Nat) : runN tyT nO nH [] 2000 3 [] [0, 4, 5, 14] (.code nX :: .hd n nX :: nK) (nS kb cap W x 15) = some (.hd n nX :: nK, nS kb cap (updW W 15 (newW kb W x 15)) (newX x 15) 16, newP cap W 15) := by
  kernel_rfl
theorem n_round16 (kb W : Nat → Int) (cap : Nat) (x : Int) (n : Nat) : runN tyT nO nH [] 2000 3 [] [0, 4, 5, 14] (.code nX :: .hd n nX :: nK) (nS kb cap W x 16) = some (.hd n nX :: nK, nS kb cap (updW W 16 (newW kb W x 16)) (newX x 16) 17, newP cap W 16) := by
  kernel_rfl
theorem n_round17 (kb W : Nat → Int) (cap : Nat) (x : Int) (n : Nat) : runN tyT nO nH [] 2000 3 [] [0, 4, 5, 14] (.code nX :: .hd n nX :: nK) (nS kb cap W x 17) = some (.hd n nX :: nK, nS kb cap (updW W 17 (newW kb W x 17)) (newX x 17) 18, newP cap W 17) := by
  kernel_rfl
theorem n_round18 (kb W : Nat → Int) (cap : Nat) (x : Int) (n : Nat) : runN tyT nO nH [] 2000 3 [] [0, 4, 5, 14] (.code nX :: .hd n nX :: nK) (nS kb cap W x 18) = some (.hd n nX :: nK, nS kb cap (updW W 18 (newW kb W x 18)) (newX x 18) 19, newP cap W 18) := by
  kernel_rfl
theorem n_round19 (kb W : Nat → Int) (cap : Nat) (x : Int) (n : Nat) : runN tyT nO nH [] 2000 3 [] [0, 4, 5, 14] (.code nX :: .hd n nX :: nK) (nS kb cap W x 19) = some (.hd n nX :: nK, nS kb cap (updW W 19 (newW kb W x 19)) (newX x 19) 20, newP cap W 19) := by
  kernel_rfl
theorem n_round20 (kb W : Nat → Int) (cap : Nat) (x : Int) (n : Nat) : runN tyT nO nH [] 2000 3 [] [0, 4, 5, 14] (.code nX :: .hd n nX :: nK) (nS kb cap W x 20) = some (.hd n nX :: nK, nS kb cap (updW W 20 (newW kb W x 20)) (newX x 20) 21, newP cap W 20) := by
  kernel_rfl
theorem n_round21 (kb W : Nat → Int) (cap : Nat) (x : Int) (n : Nat) : runN tyT nO nH [] 2000 3 [] [0, 4, 5, 14] (.code nX :: .hd n nX :: nK) (nS kb cap W x 21) = some (.hd n nX :: nK, nS kb cap (updW W 21 (newW kb W x 21)) (newX x 21) 22, newP cap W 21) := by
  kernel_rfl
theorem n_round22 (kb W : Nat → Int) (cap : Nat) (x : Int) (n : Nat) : runN tyT nO nH [] 2000 3 [] [0, 4, 5, 14] (.code nX :: .hd n nX :: nK) (nS kb cap W x 22) = some (.hd n nX :: nK, nS kb cap (updW W 22 (newW kb W x 22)) (newX x 22) 23, newP cap W 22) := by
  kernel_rfl
theorem n_round23 (kb W : Nat → Int) (cap : Nat) (x : Int) (n : Nat) : runN tyT nO nH [] 2000 3 [] [0, 4, 5, 14] (.code nX :: .hd n nX :: nK) (nS kb cap W x 23) = some (.hd n nX :: nK, nS kb cap (updW W 23 (newW kb W x 23)) (newX x 23) 24, newP cap W 23) := by
  kernel_rfl
theorem n_round24 (kb W : Nat → Int) (cap : Nat) (x : Int) (n : Nat) : runN tyT nO nH [] 2000 3 [] [0, 4, 5, 14] (.code nX :: .hd n nX :: nK) (nS kb cap W x 24) = some (.hd n nX :: nK, nS kb cap (updW W 24 (newW kb W x 24)) (newX x 24) 25, newP cap W 24) := by
  kernel_rfl
theorem n_round25 (kb W : Nat → Int) (cap : Nat) (x : Int) (n : Nat) : runN tyT nO nH [] 2000 3 [] [0, 4, 5, 14] (.code nX :: .hd n nX :: nK) (nS kb cap W x 25) = some (.hd n nX :: nK, nS kb cap (updW W 25 (newW kb W x 25)) (newX x 25) 26, newP cap W 25) := by
  kernel_rfl
theorem n_round26 (kb W : Nat → Int) (cap : Nat) (x : Int) (n : Nat) : runN tyT nO nH [] 2000 3 [] [0, 4, 5, 14] (.code nX :: .hd n nX :: nK) (nS kb cap W x 26) = some (.hd n nX :: nK, nS kb cap (updW W 26 (newW kb W x 26)) (newX x 26) 27, newP cap W 26) := by
  kernel_rfl
theorem n_round27 (kb W : Nat → Int) (cap : Nat) (x : Int) (n : Nat) : runN tyT nO nH [] 2000 3 [] [0, 4, 5, 14] (.code nX :: .hd n nX :: nK) (nS kb cap W x 27) = some (.hd n nX :: nK, nS kb cap (updW W 27 (newW kb W x 27)) (newX x 27) 28, newP cap W 27) := by
  kernel_rfl
theorem n_round28 (kb W : Nat → Int) (cap : Nat) (x : Int) (n : Nat) : runN tyT nO nH [] 2000 3 [] [0, 4, 5, 14] (.code nX :: .hd n nX :: nK) (nS kb cap W x 28) = some (.hd n nX :: nK, nS kb cap (updW W 28 (newW kb W x 28)) (newX x 28) 29, newP cap W 28) := by
  kernel_rfl
theorem n_round29 (kb W : Nat → Int) (cap : Nat) (x : Int) (n : Nat) : runN tyT nO nH [] 2000 3 [] [0, 4, 5, 14] (.code nX :: .hd n nX :: nK) (nS kb cap W x 29) = some (.hd n nX :: nK, nS kb cap (updW W 29 (newW kb W x 29)) (newX x 29) 30, newP cap W 29) := by
  kernel_rfl
theorem n_round30 (kb W : Nat → Int) (cap : Nat) (x : Int) (n : Nat) : runN tyT nO nH [] 2000 3 [] [0, 4, 5, 14] (.code nX :: .hd n nX :: nK) (nS kb cap W x 30) = some (.hd n nX :: nK, nS kb cap (updW W 30 (newW kb W x 30)) (newX x 30) 31, newP cap W 30) := by
  kernel_rfl
theorem n_round31 (kb W : Nat → Int) (cap : Nat) (x : Int) (n : Nat) : runN tyT nO nH [] 2000 3 [] [0, 4, 5, 14] (.code nX :: .hd n nX :: nK) (nS kb cap W x 31) = some (.hd n nX :: nK, nS kb cap (updW W 31 (newW kb W x 31)) (newX x 31) 32, newP cap W 31) := by
  kernel_rfl
theorem n_round32 (kb W : Nat → Int) (cap : Nat) (x : Int) (n : Nat) : runN tyT nO nH [] 2000 3 [] [0, 4, 5, 14] (.code nX :: .hd n nX :: nK) (nS kb cap W x 32) = some (.hd n nX :: nK, nS kb cap (updW W 32 (newW kb W x 32)) (newX x 32) 33, newP cap W 32) := by
  kernel_rfl
theorem n_round33 (kb W : Nat → Int) (cap : Nat) (x : Int) (n : Nat) : runN tyT nO nH [] 2000 3 [] [0, 4, 5, 14] (.code nX :: .hd n nX :: nK) (nS kb cap W x 33) = some (.hd n nX :: nK, nS kb cap (updW W 33 (newW kb W x 33)) (newX x 33) 34, newP cap W 33) := by
  kernel_rfl
theorem n_round34 (kb W : Nat → Int) (cap : Nat) (x : Int) (n : Nat) : runN tyT nO nH [] 2000 3 [] [0, 4, 5, 14] (.code nX :: .hd n nX :: nK) (nS kb cap W x 34) = some (.hd n nX :: nK, nS kb cap (updW W 34 (newW kb W x 34)) (newX x 34) 35, newP cap W 34) := by
  kernel_rfl
theorem n_round35 (kb W : Nat → Int) (cap : Nat) (x : Int) (n : Nat) : runN tyT nO nH [] 2000 3 [] [0, 4, 5, 14] (.code nX :: .hd n nX :: nK) (nS kb cap W x 35) = some (.hd n nX :: nK, nS kb cap (updW W 35 (newW kb W x 35)) (newX x 35) 36, newP cap W 35) := by
  kernel_rfl
theorem n_round36 (kb W : Nat → Int) (cap : Nat) (x : Int) (n : Nat) : runN tyT nO nH [] 2000 3 [] [0, 4, 5, 14] (.code nX :: .hd n nX :: nK) (nS kb cap W x 36) = some (.hd n nX :: nK, nS kb cap (updW W 36 (newW kb W x 36)) (newX x 36) 37, newP cap W 36) := by
  kernel_rfl
theorem n_round37 (kb W : Nat → Int) (cap : Nat) (x : Int) (n : Nat) : runN tyT nO nH [] 2000 3 [] [0, 4, 5, 14] (.code nX :: .hd n nX :: nK) (nS kb cap W x 37) = some (.hd n nX :: nK, nS kb cap (updW W 37 (newW kb W x 37)) (newX x 37) 38, newP cap W 37) := by
  kernel_rfl
theorem n_round38 (kb W : Nat → Int) (cap : Nat) (x : Int) (n : Nat) : runN tyT nO nH [] 2000 3 [] [0, 4, 5, 14] (.code nX :: .hd n nX :: nK) (nS kb cap W x 38) = some (.hd n nX :: nK, nS kb cap (updW W 38 (newW kb W x 38)) (newX x 38) 39, newP cap W 38) := by
  kernel_rfl
theorem n_round39 (kb W : Nat → Int) (cap : Nat) (x : Int) (n : Nat) : runN tyT nO nH [] 2000 3 [] [0, 4, 5, 14] (.code nX :: .hd n nX :: nK) (nS kb cap W x 39) = some (.hd n nX :: nK, nS kb cap (updW W 39 (newW kb W x 39)) (newX x 39) 40, newP cap W 39) := by
  kernel_rfl
theorem n_round40 (kb W : Nat → Int) (cap : Nat) (x : Int) (n : Nat) : runN tyT nO nH [] 2000 3 [] [0, 4, 5, 14] (.code nX :: .hd n nX :: nK) (nS kb cap W x 40) = some (.hd n nX :: nK, nS kb cap (updW W 40 (newW kb W x 40)) (newX x 40) 41, newP cap W 40) := by
  kernel_rfl
theorem n_round41 (kb W : Nat → Int) (cap : Nat) (x : Int) (n : Nat) : runN tyT nO nH [] 2000 3 [] [0, 4, 5, 14] (.code nX :: .hd n nX :: nK) (nS kb cap W x 41) = some (.hd n nX :: nK, nS kb cap (updW W 41 (newW kb W x 41)) (newX x 41) 42, newP cap W 41) := by
  kernel_rfl
theorem n_round42 (kb W : Nat → Int) (cap : Nat) (x : Int) (n : Nat) : runN tyT nO nH [] 2000 3 [] [0, 4, 5, 14] (.code nX :: .hd n nX :: nK) (nS kb cap W x 42) = some (.hd n nX :: nK, nS kb cap (updW W 42 (newW kb W x 42)) (newX x 42) 43, newP cap W 42) := by
  kernel_rfl
theorem n_round43 (kb W : Nat → Int) (cap : Nat) (x : Int) (n : Nat) : runN tyT nO nH [] 2000 3 [] [0, 4, 5, 14] (.code nX :: .hd n nX :: nK) (nS kb cap W x 43) = some (.hd n nX :: nK, nS kb cap (updW W 43 (newW kb W x 43)) (newX x 43) 44, newP cap W 43) := by
  kernel_rfl
theorem n_round44 (kb W : Nat → Int) (cap : Nat) (x : Int) (n : Nat) : runN tyT nO nH [] 2000 3 [] [0, 4, 5, 14] (.code nX :: .hd n nX :: nK) (nS kb cap W x 44) = some (.hd n nX :: nK, nS kb cap (updW W 44 (newW kb W x 44)) (newX x 44) 45, newP cap W 44) := by
  kernel_rfl
theorem n_round45 (kb W : Nat → Int) (cap : Nat) (x : Int) (n : Nat) : runN tyT nO nH [] 2000 3 [] [0, 4, 5, 14] (.code nX :: .hd n nX :: nK) (nS kb cap W x 45) = some (.hd n nX :: nK, nS kb cap (updW W 45 (newW kb W x 45)) (newX x 45) 46, newP cap W 45) := by
  kernel_rfl
theorem n_round46 (kb W : Nat → Int) (cap : Nat) (x : Int) (n : Nat) : runN tyT nO nH [] 2000 3 [] [0, 4, 5, 14] (.code nX :: .hd n nX :: nK) (nS kb cap W x 46) = some (.hd n nX :: nK, nS kb cap (updW W 46 (newW kb W x 46)) (newX x 46) 47, newP cap W 46) := by
  kernel_rfl
theorem n_round47 (kb W : Nat → Int) (cap : Nat) (x : Int) (n : Nat) : runN tyT nO nH [] 2000 3 [] [0, 4, 5, 14] (.code nX :: .hd n nX :: nK) (nS kb cap W x 47) = some (.hd n nX :: nK, nS kb cap (updW W 47 (newW kb W x 47)) (newX x 47) 48, newP cap W 47) := by
  kernel_rfl
theorem n_round48 (kb W : Nat → Int) (cap : Nat) (x : Int) (n : Nat) : runN tyT nO nH [] 2000 3 [] [0, 4, 5, 14] (.code nX :: .hd n nX :: nK) (nS kb cap W x 48) = some (.hd n nX :: nK, nS kb cap (updW W 48 (newW kb W x 48)) (newX x 48) 49, newP cap W 48) := by
  kernel_rfl
theorem n_round49 (kb W : Nat → Int) (cap : Nat) (x : Int) (n : Nat) : runN tyT nO nH [] 2000 3 [] [0, 4, 5, 14] (.code nX :: .hd n nX :: nK) (nS kb cap W x 49) = some (.hd n nX :: nK, nS kb cap (updW W 49 (newW kb W x 49)) (newX x 49) 50, newP cap W 49) := by
  kernel_rfl
theorem n_round50 (kb W : Nat → Int) (cap : Nat) (x : Int) (n : Nat) : runN tyT nO nH [] 2000 3 [] [0, 4, 5, 14] (.code nX :: .hd n nX :: nK) (nS kb cap W x 50) = some (.hd n nX :: nK, nS kb cap (updW W 50 (newW kb W x 50)) (newX x 50) 51, newP cap W 50) := by
  kernel_rfl
theorem n_round51 (kb W : Nat → Int) (cap : Nat) (x : Int) (n : Nat) : runN tyT nO nH [] 2000 3 [] [0, 4, 5, 14] (.code nX :: .hd n nX :: nK) (nS kb cap W x 51) = some (.hd n nX :: nK, nS kb cap (updW W 51 (newW kb W x 51)) (newX x 51) 52, newP cap W 51) := by
  kernel_rfl
theorem n_round52 (kb W : Nat → Int) (cap : Nat) (x : Int) (n : Nat) : runN tyT nO nH [] 2000 3 [] [0, 4, 5, 14] (.code nX :: .hd n nX :: nK) (nS kb cap W x 52) = some (.hd n nX :: nK, nS kb cap (updW W 52 (newW kb W x 52)) (newX x 52) 53, newP cap W 52) := by
  kernel_rfl
theorem n_round53 (kb W : Nat → Int) (cap : Nat) (x : Int) (n : Nat) : runN tyT nO nH [] 2000 3 [] [0, 4, 5, 14] (.code nX :: .hd n nX :: nK) (nS kb cap W x 53) = some (.hd n nX :: nK, nS kb cap (updW W 53 (newW kb W x 53)) (newX x 53) 54, newP cap W 53) := by
  kernel_rfl
theorem n_round54 (kb W : Nat → Int) (cap : Nat) (x : Int) (n : Nat) : runN tyT nO nH [] 2000 3 [] [0, 4, 5, 14] (.code nX :: .hd n nX :: nK) (nS kb cap W x 54) = some (.hd n nX :: nK, nS kb cap (updW W 54 (newW kb W x 54)) (newX x 54) 55, newP cap W 54) := by
  kernel_rfl
theorem n_round55 (kb W : Nat → Int) (cap : Nat) (x : Int) (n : Nat) : runN tyT nO nH [] 2000 3 [] [0, 4, 5, 14] (.code nX :: .hd n nX :: nK) (nS kb cap W x 55) = some (.hd n nX :: nK, nS kb cap (updW W 55 (newW kb W x 55)) (newX x 55) 56, newP cap W 55) := by
  kernel_rfl
theorem n_round56 (kb W : Nat → Int) (cap : Nat) (x : Int) (n : Nat) : runN tyT nO nH [] 2000 3 [] [0, 4, 5, 14] (.code nX :: .hd n nX :: nK) (nS kb cap W x 56) = some (.hd n nX :: nK, nS kb cap (updW W 56 (newW kb W x 56)) (newX x 56) 57, newP cap W 56) := by
  kernel_rfl
theorem n_round57 (kb W : Nat → Int) (cap : Nat) (x : Int) (n : Nat) : runN tyT nO nH [] 2000 3 [] [0, 4, 5, 14] (.code nX :: .hd n nX :: nK) (nS kb cap W x 57) = some (.hd n nX :: nK, nS kb cap (updW W 57 (newW kb W x 57)) (newX x 57) 58, newP cap W 57) := by
  kernel_rfl
theorem n_round58 (kb W : Nat → Int) (cap : Nat) (x : Int) (n : Nat) : runN tyT nO nH [] 2000 3 [] [0, 4, 5, 14] (.code nX :: .hd n nX :: nK) (nS kb cap W x 58) = some (.hd n nX :: nK, nS kb cap (updW W 58 (newW kb W x 58)) (newX x 58) 59, newP cap W 58) := by
  kernel_rfl
theorem n_round59 (kb W : Nat → Int) (cap : Nat) (x : Int) (n : Nat) : runN tyT nO nH [] 2000 3 [] [0, 4, 5, 14] (.code nX :: .hd n nX :: nK) (nS kb cap W x 59) = some (.hd n nX :: nK, nS kb cap (updW W 59 (newW kb W x 59)) (newX x 59) 60, newP cap W 59) := by
  kernel_rfl
omit [GT] in
def nEnd (kb W : Nat → Int) : St := { tm := tmL 89 [(2, .av (.one (.p 2 0))), (3, ofV (.int .i64 0))], hp := nHp kb ++ [(1, ⟨0, 66, [.arr .u8 sbox]⟩), (2, ⟨0, 53, .p 1 0 :: pieces W 60⟩)], nx := 3, gl := [] }
theorem n_end (kb W : Nat → Int) (cap : Nat) (x : Int) (n : Nat) : runN tyT nO nH [] 2000 3 [] [2, 3] (.code nX :: .hd n nX :: nK) (nS kb cap W x 60) = some ([.fin], nEnd kb W, []) := by
  kernel_rfl
end Go.Proofs.Ytkoackalpcmhaaa.Am
/- The cipher: New's contract. Conditions: none. -/
namespace Go.Proofs.Ytkoackalpcmhaaa.Am
set_option linter.unusedVariables false
set_option linter.unusedSimpArgs false
open Go Go.RowKit
variable [GT]

omit [GT] in
def xsN : Nat → Int
  | 0 => 1
  | i + 1 => newX (xsN i) i
omit [GT] in
def wsN (kb : Nat → Int) : Nat → (Nat → Int)
  | 0 => fun _ => 0
  | i + 1 => updW (wsN kb i) i (newW kb (wsN kb i) (xsN i) i)
theorem wx2_range (l : List Int) : ∀ x ∈ wx l 2, inR x := fun x hx => by
  simp only [wx, List.mem_cons, List.not_mem_nil, or_false] at hx
  rcases hx with rfl | rfl | rfl | rfl <;> exact bx_range _ _
theorem wsN_range {kb : Nat → Int} (hk : ∀ j, j < 32 → inR (kb j)) : ∀ i j, inR (wsN kb i j)
  | 0, j => ⟨Int.le_refl _, Nat.zero_le _⟩
  | i + 1, j => by
    unfold wsN updW
    split
    · refine g2_range (fun x hx => ?_) _
      unfold newW at hx
      split at hx
      · rename_i hi
        have hi : i + 1 ≤ 8 := Nat.le_of_ble_eq_true hi
        simp only [w4, List.mem_cons, List.not_mem_nil, or_false] at hx
        rcases hx with rfl | rfl | rfl | rfl <;> exact hk _ (by omega)
      · split at hx <;> exact wx2_range _ x hx
    · exact wsN_range hk i j
theorem rP_ok {z : Int} (h : inR z) : AllP (rP z) := ⟨h, by have := h.2; have : sbox.length = 256 := by decide +kernel
                                                            omega, trivial⟩
theorem AllP_append : ∀ {l m : List Prop}, AllP l → AllP m → AllP (l ++ m)
  | [], _, _, h => h
  | _ :: _, _, h, k => ⟨h.1, AllP_append h.2 k⟩
theorem newP_ok {cap : Nat} {W : Nat → Int} (hc : 32 ≤ cap) (hW : ∀ j, inR (W j)) (i : Nat) : AllP (newP cap W i) := by
  unfold newP
  split
  · rename_i hi
    have hi : i + 1 ≤ 8 := Nat.le_of_ble_eq_true hi
    exact ⟨hc, ⟨by omega, by omega⟩, ⟨by omega, by omega⟩, trivial⟩
  · split
    · exact AllP_append (rP_ok (hW _)) (AllP_append (rP_ok (hW _)) (AllP_append (rP_ok (hW _)) (rP_ok (hW _))))
    · exact AllP_append (rP_ok (hW _)) (AllP_append (rP_ok (hW _)) (AllP_append (rP_ok (hW _)) (rP_ok (hW _))))
    · trivial
theorem n_step (kb : Nat → Int) (cap : Nat) (hc : 32 ≤ cap) (hk : ∀ j, j < 32 → inR (kb j)) (n : Nat) : ∀ i, i < 60 → Reaches Try.prog 0 (.hd (n + 1) nX :: nK) (nS kb cap (wsN kb i) (xsN i) i) (.hd n nX :: nK) (nS kb cap (wsN kb (i + 1)) (xsN (i + 1)) (i + 1))
  | 0, _ => Reaches.round (reach_run tyT_ok nO_ok mixed_ (n_round0 kb (wsN kb 0) cap (xsN 0) n) (newP_ok hc (wsN_range hk 0) 0) rfl)
  | 1, _ => Reaches.round (reach_run tyT_ok nO_ok mixed_ (n_round1 kb (wsN kb 1) cap (xsN 1) n) (newP_ok hc (wsN_range hk 1) 1) rfl)
  | 2, _ => Reaches.round (reach_run tyT_ok nO_ok mixed_ (n_round2 kb (wsN kb 2) cap (xsN 2) n) (newP_ok hc (wsN_range hk 2) 2) rfl)
  | 3, _ => Reaches.round (reach_run tyT_ok nO_ok mixed_ (n_round3 kb (wsN kb 3) cap (xsN 3) n) (newP_ok hc (wsN_range hk 3) 3) rfl)
  | 4, _ => Reaches.round (reach_run tyT_ok nO_ok mixed_ (n_round4 kb (wsN kb 4) cap (xsN 4) n) (newP_ok hc (wsN_range hk 4) 4) rfl)
  | 5, _ => Reaches.round (reach_run tyT_ok nO_ok mixed_ (n_round5 kb (wsN kb 5) cap (xsN 5) n) (newP_ok hc (wsN_range hk 5) 5) rfl)
  | 6, _ => Reaches.round (reach_run tyT_ok nO_ok mixed_ (n_round6 kb (wsN kb 6) cap (xsN 6) n) (newP_ok hc (wsN_range hk 6) 6) rfl)
  | 7, _ => Reaches.round (reach_run tyT_ok nO_ok mixed_ (n_round7 kb (wsN kb 7) cap (xsN 7) n) (newP_ok hc (wsN_range hk 7) 7) rfl)
  | 8, _ => Reaches.round (reach_run tyT_ok nO_ok mixed_ (n_round8 kb (wsN kb 8) cap (xsN 8) n) (newP_ok hc (wsN_range hk 8) 8) rfl)
  | 9, _ => Reaches.round (reach_run tyT_ok nO_ok mixed_ (n_round9 kb (wsN kb 9) cap (xsN 9) n) (newP_ok hc (wsN_range hk 9) 9) rfl)
  | 10, _ => Reaches.round (reach_run tyT_ok nO_ok mixed_ (n_round10 kb (wsN kb 10) cap (xsN 10) n) (newP_ok hc (wsN_range hk 10) 10) rfl)
  | 11, _ => Reaches.round (reach_run tyT_ok nO_ok mixed_ (n_round11 kb (wsN kb 11) cap (xsN 11) n) (newP_ok hc (wsN_range hk 11) 11) rfl)
  | 12, _ => Reaches.round (reach_run tyT_ok nO_ok mixed_ (n_round12 kb (wsN kb 12) cap (xsN 12) n) (newP_ok hc (wsN_range hk 12) 12) rfl)
  | 13, _ => Reaches.round (reach_run tyT_ok nO_ok mixed_ (n_round13 kb (wsN kb 13) cap (xsN 13) n) (newP_ok hc (wsN_range hk 13) 13) rfl)
  | 14, _ => Reaches.round (reach_run tyT_ok nO_ok mixed_ (n_round14 kb (wsN kb 14) cap (xsN 14) n) (newP_ok hc (wsN_range hk 14) 14) rfl)
  | 15, _ => Reaches.round (reach_run tyT_ok nO_ok mixed_ (n_round15 kb (wsN kb 15) cap (xsN 15) n) (newP_ok hc (wsN_range hk 15) 15) rfl)
  | 16, _ => Reaches.round (reach_run tyT_ok nO_ok mixed_ (n_round16 kb (wsN kb 16) cap (xsN 16) n) (newP_ok hc (wsN_range hk 16) 16) rfl)
  | 17, _ => Reaches.round (reach_run tyT_ok nO_ok mixed_ (n_round17 kb (wsN kb 17) cap (xsN 17) n) (newP_ok hc (wsN_range hk 17) 17) rfl)
  | 18, _ => Reaches.round (reach_run tyT_ok nO_ok mixed_ (n_round18 kb (wsN kb 18) cap (xsN 18) n) (newP_ok hc (wsN_range hk 18) 18) rfl)
  | 19, _ => Reaches.round (reach_run tyT_ok nO_ok mixed_ (n_round19 kb (wsN kb 19) cap (xsN 19) n) (newP_ok hc (wsN_range hk 19) 19) rfl)
  | 20, _ => Reaches.round (reach_run tyT_ok nO_ok mixed_ (n_round20 kb (wsN kb 20) cap (xsN 20) n) (newP_ok hc (wsN_range hk 20) 20) rfl)
  | 21, _ => Reaches.round (reach_run tyT_ok nO_ok mixed_ (n_round21 kb (wsN kb 21) cap (xsN 21) n) (newP_ok hc (wsN_range hk 21) 21) rfl)
  | 22, _ => Reaches.round (reach_run tyT_ok nO_ok mixed_ (n_round22 kb (wsN kb 22) cap (xsN 22) n) (newP_ok hc (wsN_range hk 22) 22) rfl)
  | 23, _ => Reaches.round (reach_run tyT_ok nO_ok mixed_ (n_round23 kb (wsN kb 23) cap (xsN 23) n) (newP_ok hc (wsN_range hk 23) 23) rfl)
  | 24, _ => Reaches.round (reach_run tyT_ok nO_ok mixed_ (n_round24 kb (wsN kb 24) cap (xsN 24) n) (newP_ok hc (wsN_range hk 24) 24) rfl)
  | 25, _ => Reaches.round (reach_run tyT_ok nO_ok mixed_ (n_round25 kb (wsN kb 25) cap (xsN 25) n) (newP_ok hc (wsN_range hk 25) 25) rfl)
  | 26, _ => Reaches.round (reach_run tyT_ok nO_ok mixed_ (n_round26 kb (wsN kb 26) cap (xsN 26) n) (newP_ok hc (wsN_range hk 26) 26) rfl)
  | 27, _ => Reaches.round (reach_run tyT_ok nO_ok mixed_ (n_round27 kb (wsN kb 27) cap (xsN 27) n) (newP_ok hc (wsN_range hk 27) 27) rfl)
  | 28, _ => Reaches.round (reach_run tyT_ok nO_ok mixed_ (n_round28 kb (wsN kb 28) cap (xsN 28) n) (newP_ok hc (wsN_range hk 28) 28) rfl)
  | 29, _ => Reaches.round (reach_run tyT_ok nO_ok mixed_ (n_round29 kb (wsN kb 29) cap (xsN 29) n) (newP_ok hc (wsN_range hk 29) 29) rfl)
  | 30, _ => Reaches.round (reach_run tyT_ok nO_ok mixed_ (n_round30 kb (wsN kb 30) cap (xsN 30) n) (newP_ok hc (wsN_range hk 30) 30) rfl)
  | 31, _ => Reaches.round (reach_run tyT_ok nO_ok mixed_ (n_round31 kb (wsN kb 31) cap (xsN 31) n) (newP_ok hc (wsN_range hk 31) 31) rfl)
  | 32, _ => Reaches.round (reach_run tyT_ok nO_ok mixed_ (n_round32 kb (wsN kb 32) cap (xsN 32) n) (newP_ok hc (wsN_range hk 32) 32) rfl)
  | 33, _ => Reaches.round (reach_run tyT_ok nO_ok mixed_ (n_round33 kb (wsN kb 33) cap (xsN 33) n) (newP_ok hc (wsN_range hk 33) 33) rfl)
  | 34, _ => Reaches.round (reach_run tyT_ok nO_ok mixed_ (n_round34 kb (wsN kb 34) cap (xsN 34) n) (newP_ok hc (wsN_range hk 34) 34) rfl)
  | 35, _ => Reaches.round (reach_run tyT_ok nO_ok mixed_ (n_round35 kb (wsN kb 35) cap (xsN 35) n) (newP_ok hc (wsN_range hk 35) 35) rfl)
  | 36, _ => Reaches.round (reach_run tyT_ok nO_ok mixed_ (n_round36 kb (wsN kb 36) cap (xsN 36) n) (newP_ok hc (wsN_range hk 36) 36) rfl)
  | 37, _ => Reaches.round (reach_run tyT_ok nO_ok mixed_ (n_round37 kb (wsN kb 37) cap (xsN 37) n) (newP_ok hc (wsN_range hk 37) 37) rfl)
  | 38, _ => Reaches.round (reach_run tyT_ok nO_ok mixed_ (n_round38 kb (wsN kb 38) cap (xsN 38) n) (newP_ok hc (wsN_range hk 38) 38) rfl)
  | 39, _ => Reaches.round (reach_run tyT_ok nO_ok mixed_ (n_round39 kb (wsN kb 39) cap (xsN 39) n) (newP_ok hc (wsN_range hk 39) 39) rfl)
  | 40, _ => Reaches.round (reach_run tyT_ok nO_ok mixed_ (n_round40 kb (wsN kb 40) cap (xsN 40) n) (newP_ok hc (wsN_range hk 40) 40) rfl)
  | 41, _ => Reaches.round (reach_run tyT_ok nO_ok mixed_ (n_round41 kb (wsN kb 41) cap (xsN 41) n) (newP_ok hc (wsN_range hk 41) 41) rfl)
  | 42, _ => Reaches.round (reach_run tyT_ok nO_ok mixed_ (n_round42 kb (wsN kb 42) cap (xsN 42) n) (newP_ok hc (wsN_range hk 42) 42) rfl)
  | 43, _ => Reaches.round (reach_run tyT_ok nO_ok mixed_ (n_round43 kb (wsN kb 43) cap (xsN 43) n) (newP_ok hc (wsN_range hk 43) 43) rfl)
  | 44, _ => Reaches.round (reach_run tyT_ok nO_ok mixed_ (n_round44 kb (wsN kb 44) cap (xsN 44) n) (newP_ok hc (wsN_range hk 44) 44) rfl)
  | 45, _ => Reaches.round (reach_run tyT_ok nO_ok mixed_ (n_round45 kb (wsN kb 45) cap (xsN 45) n) (newP_ok hc (wsN_range hk 45) 45) rfl)
  | 46, _ => Reaches.round (reach_run tyT_ok nO_ok mixed_ (n_round46 kb (wsN kb 46) cap (xsN 46) n) (newP_ok hc (wsN_range hk 46) 46) rfl)
  | 47, _ => Reaches.round (reach_run tyT_ok nO_ok mixed_ (n_round47 kb (wsN kb 47) cap (xsN 47) n) (newP_ok hc (wsN_range hk 47) 47) rfl)
  | 48, _ => Reaches.round (reach_run tyT_ok nO_ok mixed_ (n_round48 kb (wsN kb 48) cap (xsN 48) n) (newP_ok hc (wsN_range hk 48) 48) rfl)
  | 49, _ => Reaches.round (reach_run tyT_ok nO_ok mixed_ (n_round49 kb (wsN kb 49) cap (xsN 49) n) (newP_ok hc (wsN_range hk 49) 49) rfl)
  | 50, _ => Reaches.round (reach_run tyT_ok nO_ok mixed_ (n_round50 kb (wsN kb 50) cap (xsN 50) n) (newP_ok hc (wsN_range hk 50) 50) rfl)
  | 51, _ => Reaches.round (reach_run tyT_ok nO_ok mixed_ (n_round51 kb (wsN kb 51) cap (xsN 51) n) (newP_ok hc (wsN_range hk 51) 51) rfl)
  | 52, _ => Reaches.round (reach_run tyT_ok nO_ok mixed_ (n_round52 kb (wsN kb 52) cap (xsN 52) n) (newP_ok hc (wsN_range hk 52) 52) rfl)
  | 53, _ => Reaches.round (reach_run tyT_ok nO_ok mixed_ (n_round53 kb (wsN kb 53) cap (xsN 53) n) (newP_ok hc (wsN_range hk 53) 53) rfl)
  | 54, _ => Reaches.round (reach_run tyT_ok nO_ok mixed_ (n_round54 kb (wsN kb 54) cap (xsN 54) n) (newP_ok hc (wsN_range hk 54) 54) rfl)
  | 55, _ => Reaches.round (reach_run tyT_ok nO_ok mixed_ (n_round55 kb (wsN kb 55) cap (xsN 55) n) (newP_ok hc (wsN_range hk 55) 55) rfl)
  | 56, _ => Reaches.round (reach_run tyT_ok nO_ok mixed_ (n_round56 kb (wsN kb 56) cap (xsN 56) n) (newP_ok hc (wsN_range hk 56) 56) rfl)
  | 57, _ => Reaches.round (reach_run tyT_ok nO_ok mixed_ (n_round57 kb (wsN kb 57) cap (xsN 57) n) (newP_ok hc (wsN_range hk 57) 57) rfl)
  | 58, _ => Reaches.round (reach_run tyT_ok nO_ok mixed_ (n_round58 kb (wsN kb 58) cap (xsN 58) n) (newP_ok hc (wsN_range hk 58) 58) rfl)
  | 59, _ => Reaches.round (reach_run tyT_ok nO_ok mixed_ (n_round59 kb (wsN kb 59) cap (xsN 59) n) (newP_ok hc (wsN_range hk 59) 59) rfl)
  | i + 60, h => by omega
theorem n_steps (kb : Nat → Int) (cap : Nat) (hc : 32 ≤ cap) (hk : ∀ j, j < 32 → inR (kb j)) (n : Nat) : ∀ i, i ≤ 60 → Reaches Try.prog 0 (.hd (n + i) nX :: nK) (nS kb cap (wsN kb 0) (xsN 0) 0) (.hd n nX :: nK) (nS kb cap (wsN kb i) (xsN i) i)
  | 0, _ => Reaches.refl
  | i + 1, h => by
    have := n_steps kb cap hc hk (n + 1) i (by omega)
    rw [show n + 1 + i = n + (i + 1) by omega] at this
    exact this.trans (n_step kb cap hc hk n i (by omega))
theorem n_reach (kb : Nat → Int) (cap : Nat) (hc : 32 ≤ cap) (hk : ∀ j, j < 32 → inR (kb j)) {c : Code} (hb : Try.f11.body = some c) : Reaches Try.prog 0 [.code c] (start (nArgs cap) 89 (nHp kb) 1 []) [.fin] (nEnd kb (wsN kb 60)) :=
  (reach_run tyT_ok nO_ok mixed_ (n_start kb cap hb) trivial rfl).trans (Reaches.loop (1 + 60) ((n_steps kb cap hc hk 1 60 (Nat.le_refl _)).trans (Reaches.round (reach_run tyT_ok nO_ok mixed_ (n_end kb (wsN kb 60) cap (xsN 60) 0) trivial rfl))))
omit [GT] in
/-- The key's words of these bytes. -/
def schedW (zs : List Int) (off : Nat) : Nat → Int := wsN (fun j => g2 zs (off + j)) 60
omit [GT] in
def eNew : Ent := fun args G base => match args with
  | [.av (.one (.s id off n cap))] => match G id with
    | some b => match intsOf .u8 b.c with
      | some zs => match Nat.beq n 32 && Nat.ble (off + 32) zs.length with
        | true => some { val := .tup [.one (.p (base + 1) 0), .one (.v (.int .i64 0))], new := [⟨0, 66, [.arr .u8 sbox]⟩, ⟨0, 53, .p (base + 0) 0 :: pieces (schedW zs off) 60⟩], asm := .say (32 ≤ cap ∧ ∀ j, j < 32 → inR (g2 zs (off + j))) }
        | false => none
      | none => none
    | none => none
  | _ => none
theorem renL_pieces (f : Nat → Nat) (W : Nat → Int) : ∀ l : List Nat, renL f (l.map (piece W)) = l.map (piece W)
  | [] => rfl
  | x :: l => by rw [List.map_cons, renL, renL_pieces f W l]; rfl
theorem new_ent : EntOK Try.prog 11 eNew := by
  refine ⟨⟨_, Try.func11, by kernel_rfl, by kernel_rfl⟩, fun args G base res hr ha ρ D N M w hG hin hfr => ?_⟩
  unfold eNew at hr
  split at hr
  · rename_i id off n cap
    split at hr
    · rename_i b hb
      split at hr
      · rename_i zs hz
        split at hr
        · rename_i hn
          rw [Bool.and_eq_true] at hn
          have e1 := Nat.eq_of_beq_eq_true hn.1
          have hle := Nat.le_of_ble_eq_true hn.2
          subst e1
          simp only [Option.some.injEq] at hr
          subst hr
          obtain ⟨hcap, hk⟩ : 32 ≤ cap ∧ ∀ j, j < 32 → inR (g2 zs (off + j)) := ha
          obtain ⟨kb, hkb⟩ : ∃ kb : Nat → Int, kb = fun j => g2 zs (off + j) := ⟨_, rfl⟩
          have hk' : ∀ j, j < 32 → inR (kb j) := fun j hj => by rw [hkb]; exact hk j hj
          obtain ⟨ρc, hρc⟩ : ∃ ρc : Nat → Loc, ρc = fun _ => ⟨(ρ id).a.map (·.add off), 32⟩ := ⟨_, rfl⟩
          have hv := intsOf_spec ρ _ _ hz
          have hcell : ∀ j, j < 32 → ∃ x, (ρ id).a = some x ∧ w.cell? (x.add (off + j)) = some (.int .u8 (kb j)) := fun j hj => by
            refine (hG.blk id b hb).2.2.cells ?_
            rw [hv, List.getElem?_map, List.getElem?_eq_getElem (by omega), hkb]
            simp [g2, List.getD_eq_getElem?_getD, List.getElem?_eq_getElem (show off + j < zs.length by omega)]
          obtain ⟨y, hy, _⟩ := hcell 0 (by omega)
          have hH : HR ρc (· < 1) w.heap.size [] (look (nHp kb)) w := by
            refine ⟨Nat.le_refl _, fun i b' hb' => ?_, fun i b' x hb' hx => ?_, fun i b' x hb' hk hx => ?_, fun i j bi bj x y hi hj hij hk hx hy => ?_, hG.gwc⟩
            · unfold nHp at hb'
              rw [look_cons] at hb'
              split at hb'
              · rename_i hi
                injection hb' with hb'
                subst hb'
                refine ⟨by omega, (fun s hs => (by simp at hs; subst hs; trivial)), ?_⟩
                show (segsVals ρc [.arr .u8 (keyL 32 kb)]).length ≤ (ρc i).cap ∧ _
                rw [segsVals_one]
                have hl : (Seg.vals ρc (.arr .u8 (keyL 32 kb))) = (keyL 32 kb).map (Value.int .u8) := rfl
                rw [hl, hρc]
                refine ⟨by rw [List.length_map, keyL_len]; exact Nat.le_refl _, .inr ⟨y.add off, by simp only [hy, Option.map_some], fun j u hj => ?_⟩⟩
                have hj32 : j < 32 := by
                  rcases Nat.lt_or_ge j 32 with h | h
                  · exact h
                  · rw [List.getElem?_eq_none (by rw [List.length_map, keyL_len]; exact h)] at hj; cases hj
                rw [List.getElem?_map, keyL_get 32 kb j hj32] at hj
                injection hj with hj
                subst hj
                obtain ⟨y', hy', hc⟩ := hcell j hj32
                rw [hy] at hy'
                injection hy' with hy'
                subst hy'
                rw [add_add]
                exact hc
              · cases hb'
            · rw [hρc] at hx
              simp only [hy, Option.map_some, Option.some.injEq] at hx
              subst hx
              have := hG.lt id b y hb hy
              have e : (y.add off).block = y.block := by unfold Addr.add; split <;> rfl
              rw [e]; exact this
            · unfold nHp at hb'
              rw [look_cons] at hb'
              split at hb'
              · injection hb' with hb'; subst hb'; simp at hk
              · cases hb'
            · unfold nHp at hi
              rw [look_cons] at hi
              split at hi
              · injection hi with hi; subst hi; simp at hk
              · cases hi
          obtain ⟨c, hc⟩ : ∃ c, Try.f11.body = some c := Option.isSome_iff_exists.1 (by kernel_rfl)
          have hcall := reach_new (D := D) (N := N) (M := M) (G := G) (base := base) (ρ := ρ) tyT_ok Try.func11 hc (avs := nArgs cap) (.inr rfl) (n_reach kb cap hcap hk' hc) (v := .tup [.one (.p 2 0), .one (.v (.int .i64 0))]) (by kernel_rfl) (es := [1, 2]) (by kernel_rfl) (by kernel_rfl) (by kernel_rfl) (by kernel_rfl) (fun s hs => by
            simp only [nArgs, List.mem_cons, List.not_mem_nil, or_false] at hs
            subst hs
            exact fun s hs => (by simp [AV.segs] at hs; subst hs; exact (show (0 : Nat) < 1 by omega))) hH hG hfr (r := { val := .tup [.one (.p (base + 1) 0), .one (.v (.int .i64 0))], new := [⟨0, 66, [.arr .u8 sbox]⟩, ⟨0, 53, .p (base + 0) 0 :: pieces (wsN kb 60) 60⟩] }) (by kernel_rfl)
          have e : (nArgs cap).map (SV.conc ρc) = [SV.av (.one (.s id off 32 cap))].map (SV.conc ρ) := by
            simp only [nArgs, List.map_cons, List.map_nil, SV.conc, AV.conc, Seg.conc, hρc, hy, Option.map_some, add_add, Nat.add_zero]
          rw [e] at hcall
          have e2 : schedW zs off = wsN kb 60 := by rw [hkb]; rfl
          rw [e2]
          refine hcall.mono fun e w' ⟨v, h1, ρ', hF⟩ => ⟨v, h1, ρ', ⟨hF.agree, hF.val, hF.hr, hF.kept, hF.fresh⟩⟩
        · cases hr
      · cases hr
    · cases hr
  · cases hr
end Go.Proofs.Ytkoackalpcmhaaa.Am
/- The cipher: what is awake. Conditions: none. -/
namespace Go.Proofs.Ytkoackalpcmhaaa.Am
set_option linter.unusedVariables false
set_option linter.unusedSimpArgs false
open Go Go.RowKit
variable [GT]

/-! rounds on lists -/
omit [GT] in
def stepL (kf : Nat → Int) (r : Nat) (l : List Int) : List Int := keyL 16 (gAdd kf r (gMix (gRow (g2 l))))
omit [GT] in
def rndsL (kf : Nat → Int) : Nat → Nat → List Int → List Int
  | _, 0, l => l
  | r, n + 1, l => rndsL kf (r + 1) n (stepL kf r l)
omit [GT] in
def encF (kf bf : Nat → Int) : List Int := keyL 16 (gAdd kf 14 (gRow (g2 (rndsL kf 1 13 (keyL 16 (gAdd kf 0 bf))))))
theorem gAdd_congr {kf g h : Nat → Int} (e : ∀ i, i < 16 → g i = h i) (r i : Nat) (hi : i < 16) : gAdd kf r g i = gAdd kf r h i := by
  unfold gAdd wk
  rw [e (4 * (i / 4)) (by omega), e (4 * (i / 4) + 1) (by omega), e (4 * (i / 4) + 2) (by omega), e (4 * (i / 4) + 3) (by omega)]
theorem gRow_congr {g h : Nat → Int} (e : ∀ i, i < 16 → g i = h i) (i : Nat) (hi : i < 16) : gRow g i = gRow h i := by
  unfold gRow
  rw [e _ (by omega)]
theorem gMix_congr {g h : Nat → Int} (e : ∀ i, i < 16 → g i = h i) (i : Nat) (hi : i < 16) : gMix g i = gMix h i := by
  unfold gMix
  rw [e (4 * (i / 4)) (by omega), e (4 * (i / 4) + 1) (by omega), e (4 * (i / 4) + 2) (by omega), e (4 * (i / 4) + 3) (by omega)]
theorem rnds_L {kf : Nat → Int} : ∀ (n r : Nat) (g : Nat → Int) (l : List Int), (∀ i, i < 16 → g i = g2 l i) → ∀ i, i < 16 → rnds kf r n g i = g2 (rndsL kf r n l) i
  | 0, _, _, _, h => h
  | n + 1, r, g, l, h => by
    refine rnds_L n (r + 1) _ _ fun i hi => ?_
    rw [stepL, g2_keyL 16 _ i hi]
    exact gAdd_congr (fun i hi => gMix_congr (fun i hi => gRow_congr h i hi) i hi) r i hi
theorem enc_F (kf bf : Nat → Int) : keyL 16 (encG kf bf) = encF kf bf :=
  keyL_congr fun i hi => gAdd_congr (fun i hi => gRow_congr (rnds_L 13 1 _ _ fun i hi => (g2_keyL 16 _ i hi).symm) i hi) 14 i hi

omit [GT] in
def w0K : Nat → Int := schedW (List.replicate 32 0) 0
theorem w0_list : ∃ ks : List Int, keyL 240 w0K = ks ∧ (encF (g2 ks) (g2 (List.replicate 16 255)) == List.replicate 16 255) = false := ⟨_, rfl, by decide +kernel⟩

omit [GT] in
noncomputable def lO : List (Nat × Ent) := [(11, eNew), (16, e16 nextL), (13, eBlock)]
theorem lO_ok : OOK Try.prog lO := ook_of (l := [(11, eNew), (16, e16 nextL), (13, eBlock)]) ⟨new_ent, next_ent, block_ent, trivial⟩
omit [GT] in
def ffs : List Int := List.replicate 16 255
omit [GT] in
def awPs : List Prop := [32 ≤ 32 ∧ ∀ j, j < 32 → inR (g2 (List.replicate 32 0) (0 + j)), sbox = sbox, isA (!(encL (keyL 240 w0K) ffs == ffs)) true]
theorem awake_run : wholeV tyT lO (atH 8 17 (isB true) noH) [(3, 17)] 1000 Try.f10 [] = some (ofV (.bool true), awPs) := by
  kernel_rfl
theorem awPs_ok : AllP awPs := by
  refine ⟨⟨Nat.le_refl _, fun j hj => ?_⟩, rfl, fun ρ => ?_, trivial⟩
  · refine g2_range (fun x hx => ?_) _
    rw [List.mem_replicate] at hx
    rw [hx.2]
    exact ⟨Int.le_refl _, Nat.zero_le _⟩
  · obtain ⟨ks, h1, h2⟩ := w0_list
    have : encL (keyL 240 w0K) ffs = encF (g2 ks) (g2 (List.replicate 16 255)) := by
      rw [← h1]
      exact enc_F _ _
    rw [this]
    show (ofV (.bool (!(_ == List.replicate 16 255)))).conc ρ = _
    rw [h2]
    rfl
omit [GT] in
def eTrue : Ent := fun args _ _ => match args with
  | [] => some { val := ofV (.bool true) }
  | _ => none
theorem awake_ent : EntOK Try.prog 10 eTrue := by
  refine ⟨⟨_, Try.func10, by kernel_rfl, by kernel_rfl⟩, fun args G base res hr ha ρ D N M w hG hin hfr => ?_⟩
  unfold eTrue at hr
  split at hr
  · simp only [Option.some.injEq] at hr
    subst hr
    exact ent_val (am_val tyT_ok lO_ok mixed_ Try.func10 (avs := []) (by kernel_rfl) awake_run awPs_ok (by kernel_rfl) (by kernel_rfl) ρ w hG.gwc) hG rfl rfl rfl
  · cases hr
end Go.Proofs.Ytkoackalpcmhaaa.Am
/- Law 05's Next. Conditions: none. -/
namespace Go.Proofs.Ytkoackalpcmhaaa.Am
set_option linter.unusedVariables false
set_option linter.unusedSimpArgs false
open Go Go.RowKit
variable [GT]

omit [GT] in
noncomputable def mO : List (Nat × Ent) := [(10, eTrue), (11, eNew), (16, e16 nextL), (13, eBlock), (17, e16 rnextL)]
theorem mO_ok : OOK Try.prog mO := ook_of (l := [(10, eTrue), (11, eNew), (16, e16 nextL), (13, eBlock), (17, e16 rnextL)]) ⟨awake_ent, new_ent, next_ent, block_ent, rnext_ent, trivial⟩
theorem lawNext_run (bf : Nat → Int) : wholeV tyT mO (atH 1 6 (isB true) noH) [] 1000 Try.f4 [.av (.one (.arr .u8 (keyL 16 bf)))] = some (ofV (.bool true), [isA (nextL (keyL 16 bf) == rnextL (keyL 16 bf)) true]) := by
  kernel_rfl
theorem wf_inR {z : Int} (h : (Lit.int .u8 z).wf = true) : inR z := by
  have := bounds_u8 h
  constructor <;> omega
theorem wf_g2 {bs : List Int} (h : ∀ z ∈ bs, (Lit.int .u8 z).wf = true) (j : Nat) : inR (g2 bs j) := g2_range (fun x hx => wf_inR (h x hx)) j
theorem lawNext_fact (bs : List Int) (hl : bs.length = 16) (hw : ∀ z ∈ bs, (Lit.int .u8 z).wf = true) (w : World) (hgw : GWok w.heap.size [] w) : Calls Try.prog 4 #[.agg (bs.map (Value.int .u8)).toArray] w fun e w' => e = .returned (.bool true) ∧ Below w.heap.size w w' := by
  have := am_val tyT_ok mO_ok mixed_ Try.func4 (avs := [.av (.one (.arr .u8 (keyL 16 (g2 bs))))]) (by kernel_rfl) (lawNext_run (g2 bs)) ⟨fun ρ => by
    rw [keyL_g2 hl, next_eq (bs := bs) (wf_g2 hw), beq_self_eq_true], trivial⟩ (by kernel_rfl) (by kernel_rfl) (fun _ => ⟨none, 0⟩) w hgw
  rw [keyL_g2 hl] at this
  exact this
end Go.Proofs.Ytkoackalpcmhaaa.Am
/- Law 05's Streams: the run. Conditions: none. -/
namespace Go.Proofs.Ytkoackalpcmhaaa.Am
set_option linter.unusedVariables false
set_option linter.unusedSimpArgs false
open Go Go.RowKit
set_option linter.unusedSectionVars false
variable [GT]
noncomputable def lsO : List (Nat × Ent) := [(10, eTrue), (11, eNew), (16, e16 nextL), (18, eStream)]
theorem lsO_ok : OOK Try.prog lsO := ook_of (l := [(10, eTrue), (11, eNew), (16, e16 nextL), (18, eStream)]) ⟨awake_ent, new_ent, next_ent, stream_ent, trivial⟩
def lsH (a c : Nat) : Nat → Nat → Hint := atH 7 2 (isI .i64 (a : Nat)) (atH 8 9 (isI .i64 (c : Nat)) (atH 8 10 (isI .i64 ((a + c : Nat) : Int)) (atH 8 11 (isI .i64 ((a + c + 16 : Nat) : Int)) (atH 10 3 (isB true) (atH 10 7 symH (atH 10 8 symH (atH 10 10 symH (atH 10 11 (isB true) (atH 10 18 (isI .i64 ((a + c : Nat) : Int)) (atH 10 19 (isI .i64 ((a : Nat) : Int)) (atH 10 20 symH (atH 10 21 symH (atH 10 23 symH (atH 10 24 symH (atH 10 28 (isI .i64 ((a + c : Nat) : Int)) (atH 10 29 (isI .i64 ((a : Nat) : Int)) (atH 10 30 symH (atH 10 31 (isB true) noH))))))))))))))))))
def lsK (kf : Nat → Int) : List Int := keyL 240 (schedW (keyL 32 kf) 0)
def lsS (kf bf : Nat → Int) (n : Nat) : List Int := strm (lsK kf) n (keyL 16 bf)
def lsX (kf bf : Nat → Int) (n : Nat) : List Int := strm (lsK kf) n (nextL (keyL 16 bf))
def lsQ (kf bf : Nat → Int) (a c : Nat) : ByteArray := strOf (((lsS kf bf ((a + c + 16 + 15) / 16)).drop (slOff 0 16 (a + c + 16) (a + c + 16) 1)).take (a + c + 16 - 16) ++ [])
def lsP (kf bf : Nat → Int) (p q : Int) (a c : Nat) : List Prop := [32 ≤ 32 ∧ ∀ j, j < 32 → inR (g2 (keyL 32 kf) (0 + j)),
  tI .i64 (IntKind.i64.wrap (Int.tmod p 80)) (a : Nat), sbox = sbox ∧ 0 ≤ (a : Int) ∧ (a : Int) ≤ 1000000, tI .i64 (IntKind.i64.wrap (Int.tmod q 80)) (c : Nat),
  tI .i64 (IntKind.i64.wrap ((a : Int) + (c : Int))) ((a + c : Nat) : Int), tI .i64 (IntKind.i64.wrap (((a + c : Nat) : Int) + 16)) ((a + c + 16 : Nat) : Int),
  sbox = sbox ∧ 0 ≤ ((a + c + 16 : Nat) : Int) ∧ ((a + c + 16 : Nat) : Int) ≤ 1000000, sbox = sbox ∧ 0 ≤ (a : Int) ∧ (a : Int) ≤ 1000000,
  tB ((a : Int) == (a : Int)) true, a + c + 16 ≤ a + c + 16, 0 ≤ (a : Int) ∧ a ≤ a + c + 16,
  0 + a ≤ widths [Seg.arr .u8 (lsS kf bf ((a + c + 16 + 15) / 16))], 0 + a ≤ widths [Seg.arr .u8 (lsS kf bf ((a + 15) / 16))],
  tB ((strOf ((lsS kf bf ((a + c + 16 + 15) / 16)).take a ++ [])).toList == (strOf ((lsS kf bf ((a + 15) / 16)).take a ++ [])).toList) true,
  tI .i64 (IntKind.i64.wrap (((a + c + 16 : Nat) : Int) - 16)) ((a + c : Nat) : Int), tI .i64 (if ((a + c : Nat) : Int) < (a : Int) then ((a + c : Nat) : Int) else (a : Int)) (a : Int),
  a ≤ a, 0 ≤ (a : Int) ∧ a ≤ a, 0 + a ≤ widths [Seg.arr .u8 (lsX kf bf ((a + 15) / 16))], a + c + 16 ≤ a + c + 16, (0 : Int) ≤ 16 ∧ 16 ≤ a + c + 16,
  slOff 0 16 (a + c + 16) (a + c + 16) 1 + (a + c + 16 - 16) ≤ widths [Seg.arr .u8 (lsS kf bf ((a + c + 16 + 15) / 16))],
  tI .i64 (IntKind.i64.wrap (((a + c + 16 : Nat) : Int) - 16)) ((a + c : Nat) : Int), tI .i64 (if ((a + c : Nat) : Int) < (a : Int) then ((a + c : Nat) : Int) else (a : Int)) (a : Int),
  0 ≤ (a : Int) ∧ a ≤ (lsQ kf bf a c).size,
  tB ((strOf ((lsX kf bf ((a + 15) / 16)).take a ++ [])).toList == ((lsQ kf bf a c).extract 0 a).toList) true]
noncomputable abbrev fLS : Func := Try.f7
def lsA (kf bf : Nat → Int) (p q : Int) : List SV := [.av (.one (.arr .u8 (keyL 32 kf))), .av (.one (.arr .u8 (keyL 16 bf))), .av (.one (.arr .u8 [p, q]))]
noncomputable def lsEnd : St := { tm := tmL 86 [(6, ofV (.bool true))], hp := [], nx := 0, gl := [] }
theorem ls_run (kf bf : Nat → Int) (p q : Int) (a c : Nat) : runF tyT lsO (lsH a c) [] 0 [] [6] fLS (lsA kf bf p q) [] 0 [] = some ([.fin], lsEnd, lsP kf bf p q a c) := by kernel_rfl
end Go.Proofs.Ytkoackalpcmhaaa.Am
/- Opening arrays of bytes, and rows of them, at a law's call. Conditions: none. -/
namespace Go.Proofs.Ytkoackalpcmhaaa
set_option linter.unusedVariables false
set_option linter.unusedSimpArgs false
open Go Go.ChangeShapes Go.WideShapes Go.ChangeAt Go.RowKit

theorem own_ : ownKnob Try.prog.godebug = none := by kernel_rfl
theorem laidOut_ : laidOutB Try.prog = true := by kernel_rfl
theorem ints_of {k : IntKind} : ∀ l : List Value, (∀ i, i < l.length → ∃ z, l[i]? = some (.int k z) ∧ (Lit.int k z).wf = true) → ∃ bs : List Int, l = bs.map (Value.int k) ∧ ∀ z ∈ bs, (Lit.int k z).wf = true
  | [], _ => ⟨[], rfl, by simp⟩
  | x :: l, h => by
    obtain ⟨z, hz, hw⟩ := h 0 (by simp)
    obtain ⟨bs, hb, hbw⟩ := ints_of l fun i hi => by
      obtain ⟨z, hz, hw⟩ := h (i + 1) (by simp; omega)
      exact ⟨z, by simpa using hz, hw⟩
    simp only [List.getElem?_cons_zero, Option.some.injEq] at hz
    subst hz
    refine ⟨z :: bs, by rw [hb]; rfl, fun y hy => ?_⟩
    rcases List.mem_cons.1 hy with rfl | hy
    · exact hw
    · exact hbw y hy
/-- An array of integers that comes in. -/
theorem open_arr {H : Type} {enc : TypeId × Value → H} {W : World} {base : Nat} {b0 : Nat} {spare : Nat → Bool} {held : Bool} {v : Value} {d : DataW H} {ps : List MemPlace} {t e : TypeId} {n : Nat} {k : IntKind}
    (ht : Try.prog.underlying t = some (.array n e)) (he : Try.prog.underlying e = some (.int k)) (hct : Try.prog.cellsOf t = n) (hce : Try.prog.cellsOf e = 1)
    (hval : Value.okWide Try.prog W .any b0 t v) (h : DataW.Trod enc Try.prog W base spare held t v d ps) :
    ∃ bs : List Int, bs.length = n ∧ (∀ z ∈ bs, (Lit.int k z).wf = true) ∧ v = .agg (bs.map (Value.int k)).toArray := by
  obtain ⟨cs, rfl, hsz, _⟩ : ∃ cs, v = .agg cs ∧ cs.size = Try.prog.cellsOf t ∧ Row.okWide Try.prog W .any b0 t cs := by
    simpa [Value.okWide, ht] using hval
  rw [hct] at hsz
  obtain ⟨fuel, hf⟩ := h
  obtain ⟨xs, m, _, _, hl, hxs, hel⟩ := DataW.trod_array ht hf
  obtain ⟨l⟩ := cs
  have hl' : l.length = n := hsz
  have hc : (Value.agg ⟨l⟩).cells.toList = l := rfl
  obtain ⟨bs, hb, hw⟩ := ints_of (k := k) l fun i hi => by
    have := hel i (by omega)
    rw [hc, hce, Nat.mul_one, List.getElem?_eq_getElem (by omega)] at this
    obtain ⟨z, hz, _, hzw⟩ := DataW.trod_int he this
    refine ⟨z, ?_, hzw⟩
    have h2 := congrArg (fun q => q[0]?) hz
    simpa [List.getElem?_take, List.getElem?_drop] using h2
  exact ⟨bs, by rw [hb] at hl'; simpa using hl', hw, by rw [hb]⟩

/-- What is known of a row of integers that came in. -/
def IsRow (k : IntKind) (w : World) (a : Option Addr) (len cap : Nat) (zs : List Int) : Prop :=
  (a = none ∧ len = 0 ∧ cap = 0 ∧ zs = []) ∨
  ∃ x, a = some x ∧ len ≤ cap ∧ cap ≤ maxLen ∧ zs.length = cap ∧ (∀ i, i < zs.length → w.cell? (x.add i) = some (.int k (zs.getD i 0))) ∧ ∀ n ∈ zs, (Lit.int k n).wf = true

end Go.Proofs.Ytkoackalpcmhaaa
