/- The abstract machine: operation by operation: slices of slices, slices made. Conditions: none. -/
import Derived.Test.YtkoackalpcmhaaaM9
import Derived.Laws.MakeOwn
namespace Go.Proofs.Ytkoackalpcmhaaa.Am
set_option linter.unusedVariables false
set_option linter.unusedSimpArgs false
open Go Go.RowKit
open Rg (gives)

section
variable {P : Program} {T : List (Nat × Ty)} {ρ : Nat → Loc} {D : Nat → Prop} {N : Nat} {M : List Nat} {G : Nat → Option Blk} {base : Nat} {w : World} {o : Oper} {a : Act} {ev : Operand → Option SV}

theorem run_bound {k : IntKind} {z : Int} {n y : Nat} {code : BoundsCode} (h0 : 0 ≤ z) (hn : z.toNat = n) (hy : n ≤ y) : (Instr.sliceBound (.int k z) y code).run P w = .ok n w := by
  simp only [Instr.sliceBound, asIntOf, Sem.run_bind, Sem.run_pure, Result.andThen_ok]
  rw [if_pos ⟨h0, by omega⟩, hn]
  rfl
def mcap : Option SV → Nat → Nat → Nat
  | none, c, _ => c
  | some _, _, m => m
theorem bnds_spec {sym sl : Bool} {len cap l h m : Nat} {lo hi mx : Option SV} {p : Asm} (hb : bnds sym len cap lo hi mx = some (l, h, m, p)) (hp : p.holds) (hlc : len ≤ cap) {cap' : Nat} (hcc : cap ≤ cap') :
    (Instr.sliceBounds sl len cap' (lo.map (SV.conc ρ)) (hi.map (SV.conc ρ)) (mx.map (SV.conc ρ))).run P w = .ok (l, h, mcap mx cap' m) w ∧ l ≤ h ∧ h ≤ m ∧ m ≤ cap ∧ (mx = none → m = cap) := by
  cases mx with
  | some v =>
    cases hi with
    | none =>
      simp only [bnds] at hb
      split at hb
      · rename_i h2; cases h2
      · cases hb
    | some u =>
      simp only [bnds] at hb
      cases h1 : natOf sym cap v with
      | none => simp [h1] at hb
      | some x1 =>
        obtain ⟨m', p1⟩ := x1
        cases h2 : natOf sym m' u with
        | none => simp [h1, h2] at hb
        | some x2 =>
          obtain ⟨h', p2⟩ := x2
          simp only [h1, h2] at hb
          cases lo with
          | none =>
            simp only [Option.some.injEq, Prod.mk.injEq] at hb
            obtain ⟨rfl, rfl, rfl, rfl⟩ := hb
            obtain ⟨k1, z1, e1, n1, t1, le1⟩ := natOf_spec (ρ := ρ) h1 hp.1
            obtain ⟨k2, z2, e2, n2, t2, le2⟩ := natOf_spec (ρ := ρ) h2 hp.2
            refine ⟨?_, Nat.zero_le _, le2, le1, fun h => by cases h⟩
            simp only [Option.map_some, Option.map_none, e1, e2, Instr.sliceBounds, Sem.run_bind, run_bound n1 t1 (Nat.le_trans le1 hcc), run_bound n2 t2 le2, Result.andThen_ok, mcap]
            rfl
          | some z =>
            cases h3 : natOf sym h' z with
            | none => simp [h3] at hb
            | some x3 =>
              obtain ⟨l', p3⟩ := x3
              simp only [h3, Option.some.injEq, Prod.mk.injEq] at hb
              obtain ⟨rfl, rfl, rfl, rfl⟩ := hb
              obtain ⟨k1, z1, e1, n1, t1, le1⟩ := natOf_spec (ρ := ρ) h1 hp.1
              obtain ⟨k2, z2, e2, n2, t2, le2⟩ := natOf_spec (ρ := ρ) h2 hp.2.1
              obtain ⟨k3, z3, e3, n3, t3, le3⟩ := natOf_spec (ρ := ρ) h3 hp.2.2
              refine ⟨?_, le3, le2, le1, fun h => by cases h⟩
              simp only [Option.map_some, e1, e2, e3, Instr.sliceBounds, Sem.run_bind, run_bound n1 t1 (Nat.le_trans le1 hcc), run_bound n2 t2 le2, run_bound n3 t3 le3, Result.andThen_ok, mcap]
              rfl
  | none =>
    cases hi with
    | some u =>
      simp only [bnds] at hb
      cases h2 : natOf sym cap u with
      | none => simp [h2] at hb
      | some x2 =>
        obtain ⟨h', p2⟩ := x2
        simp only [h2] at hb
        cases lo with
        | none =>
          simp only [Option.some.injEq, Prod.mk.injEq] at hb
          obtain ⟨rfl, rfl, rfl, rfl⟩ := hb
          obtain ⟨k2, z2, e2, n2, t2, le2⟩ := natOf_spec (ρ := ρ) h2 hp
          refine ⟨?_, Nat.zero_le _, le2, Nat.le_refl _, fun _ => rfl⟩
          simp only [Option.map_some, Option.map_none, e2, Instr.sliceBounds, Sem.run_bind, Sem.run_pure, run_bound n2 t2 (Nat.le_trans le2 hcc), Result.andThen_ok, mcap]
        | some z =>
          cases h3 : natOf sym h' z with
          | none => simp [h3] at hb
          | some x3 =>
            obtain ⟨l', p3⟩ := x3
            simp only [h3, Option.some.injEq, Prod.mk.injEq] at hb
            obtain ⟨rfl, rfl, rfl, rfl⟩ := hb
            obtain ⟨k2, z2, e2, n2, t2, le2⟩ := natOf_spec (ρ := ρ) h2 hp.1
            obtain ⟨k3, z3, e3, n3, t3, le3⟩ := natOf_spec (ρ := ρ) h3 hp.2
            refine ⟨?_, le3, le2, Nat.le_refl _, fun _ => rfl⟩
            simp only [Option.map_some, Option.map_none, e2, e3, Instr.sliceBounds, Sem.run_bind, Sem.run_pure, run_bound n2 t2 (Nat.le_trans le2 hcc), run_bound n3 t3 le3, Result.andThen_ok, mcap]
    | none =>
      simp only [bnds] at hb
      cases lo with
      | none =>
        simp only [Option.some.injEq, Prod.mk.injEq] at hb
        obtain ⟨rfl, rfl, rfl, rfl⟩ := hb
        refine ⟨?_, Nat.zero_le _, hlc, Nat.le_refl _, fun _ => rfl⟩
        simp only [Option.map_none, Instr.sliceBounds, Sem.run_bind, Sem.run_pure, Result.andThen_ok, mcap]
      | some z =>
        cases h3 : natOf sym len z with
        | none => simp [h3] at hb
        | some x3 =>
          obtain ⟨l', p3⟩ := x3
          simp only [h3, Option.some.injEq, Prod.mk.injEq] at hb
          obtain ⟨rfl, rfl, rfl, rfl⟩ := hb
          obtain ⟨k3, z3, e3, n3, t3, le3⟩ := natOf_spec (ρ := ρ) h3 hp
          refine ⟨?_, le3, hlc, Nat.le_refl _, fun _ => rfl⟩
          simp only [Option.map_some, Option.map_none, e3, Instr.sliceBounds, Sem.run_bind, Sem.run_pure, run_bound n3 t3 le3, Result.andThen_ok, mcap]

theorem slice_exec {t : TypeId} {x : Operand} {lo hi mx : Option Operand} (hop : o.op = .slice t x lo hi mx) : execOp a.eval o = (Instr.sliceAt t (a.eval x) (lo.map a.eval) (hi.map a.eval) (mx.map a.eval)).bind fun z => .pure (.value z) := by
  unfold execOp; rw [hop]; rfl
/-- What slicing a slice comes to, in the model. -/
theorem sliceAt_sl {t e : TypeId} {te : Ty} (hun : P.underlying t = some (.slice e)) (hte : TyOK P e te) {ad : Option Addr} {len cap l h m : Nat} {lo hi mx : Option Value} (hb : (Instr.sliceBounds true len cap lo hi mx).run P w = .ok (l, h, m) w) :
    (Instr.sliceAt t (.slice ad len cap) lo hi mx).run P w = .ok (.slice (if m = l then ad else ad.map (·.add (l * te.size))) (h - l) (m - l)) w := by
  simp only [Instr.sliceAt, Instr.slice, Sem.run_bind, run_underlying hun, Result.andThen_ok, hb, hte.run_size, Sem.run_pure]
theorem sliceAt_arr {t e : TypeId} {n : Nat} {te : Ty} (hun : P.underlying t = some (.array n e)) (hte : TyOK P e te) {ad : Addr} {l h m : Nat} {lo hi mx : Option Value} (hb : (Instr.sliceBounds false n n lo hi mx).run P w = .ok (l, h, m) w) :
    (Instr.sliceAt t (.pointer (some ad)) lo hi mx).run P w = .ok (.slice (some (if m = l then ad else ad.add (l * te.size))) (h - l) (m - l)) w := by
  simp only [Instr.sliceAt, Instr.sureAddr, Sem.run_bind, run_underlying hun, Result.andThen_ok, hb, hte.run_size, Sem.run_pure]
theorem map_add (ad : Option Addr) (m n : Nat) : (ad.map (·.add m)).map (·.add n) = ad.map (·.add (m + n)) := by
  cases ad <;> simp [add_add]
theorem sliceOf_spec (hG : HR ρ D N M G w) {t e : TypeId} {te : Ty} (hte : TyOK P e te) {sym : Bool} {x : SV} {lo hi mx : Option SV} {n : Nat} {r : Res} (h : sliceOf sym te.size G x lo hi mx n = some r) (hp : r.asm.holds) (hun : (∃ id off, x = .av (.one (.p id off)) ∧ P.underlying t = some (.array n e)) ∨ ((∀ id off, x ≠ .av (.one (.p id off))) ∧ P.underlying t = some (.slice e))) :
    (Instr.sliceAt t (x.conc ρ) (lo.map (SV.conc ρ)) (hi.map (SV.conc ρ)) (mx.map (SV.conc ρ))).run P w = .ok (r.val.conc ρ) w ∧ r.new = [] ∧ r.upd = [] := by
  have hsl : (∀ id off, x ≠ .av (.one (.p id off))) → P.underlying t = some (.slice e) := fun hx => by
    rcases hun with ⟨id, off, rfl, _⟩ | h
    · exact absurd rfl (hx id off)
    · exact h.2
  unfold sliceOf at h
  split at h
  · rename_i id off
    have hun' : P.underlying t = some (.array n e) := by
      rcases hun with ⟨_, _, _, h⟩ | h
      · exact h
      · exact absurd rfl (h.1 id off)
    split at h
    · rename_i b hb
      split at h
      · rename_i l h' m p hA hbn
        simp only [Option.some.injEq] at h
        subst h
        obtain ⟨u, ha⟩ := (hG.blk id _ hb).2.2.hasA hA
        obtain ⟨hrun, h1, h2, h3, h4⟩ := bnds_spec (P := P) (ρ := ρ) (w := w) (sl := false) hbn hp (Nat.le_refl _) (Nat.le_refl _)
        have hm : mcap mx n m = m := by
          cases mx
          · exact (h4 rfl).symm
          · rfl
        rw [hm] at hrun
        refine ⟨?_, rfl, rfl⟩
        rw [conc_p, ha]
        simp only [Option.map_some]
        rw [sliceAt_arr hun' hte hrun]
        simp only [SV.conc, AV.conc, Seg.conc, ha, Option.map_some, slOff_eq _ _ _ _ _ h2]
        by_cases hml : m = l
        · rw [if_pos hml, if_pos hml]
        · rw [if_neg hml, if_neg hml, add_add]
      · cases h
    · cases h
  · split at h
    · rename_i l h' m p hbn
      simp only [Option.some.injEq] at h
      subst h
      obtain ⟨hrun, h1, h2, h3, h4⟩ := bnds_spec (P := P) (ρ := ρ) (w := w) (sl := true) hbn hp (Nat.le_refl _) (Nat.le_refl _)
      refine ⟨?_, rfl, rfl⟩
      have := sliceAt_sl (ad := none) (hsl (by simp)) hte hrun
      refine this.trans ?_
      have e1 : h' - l = 0 := by omega
      have e2 : mcap mx 0 m - l = 0 := by cases mx <;> simp only [mcap] <;> omega
      rw [e1, e2]
      simp only [Option.map_none, ite_self]
      rfl
    · cases h
  · rename_i id off len cap
    split at h
    · rename_i l h' m p p0 hbn hw
      simp only [Option.some.injEq] at h
      subst h
      have hlc := within_spec hw hp.1
      obtain ⟨hrun, h1, h2, h3, h4⟩ := bnds_spec (P := P) (ρ := ρ) (w := w) (sl := true) hbn hp.2 hlc (Nat.le_refl _)
      have hm : mcap mx cap m = m := by
        cases mx
        · exact (h4 rfl).symm
        · rfl
      rw [hm] at hrun
      refine ⟨?_, rfl, rfl⟩
      have := sliceAt_sl (ad := (ρ id).a.map (·.add off)) (hsl (by simp)) hte hrun
      refine this.trans ?_
      simp only [SV.conc, AV.conc, Seg.conc, slOff_eq _ _ _ _ _ h2]
      by_cases hml : m = l
      · rw [if_pos hml, if_pos hml]
      · rw [if_neg hml, if_neg hml, map_add]
    · cases h
  · rename_i id off len ad
    split at h
    · rename_i b hb
      have hbk := (hG.blk id b hb).2.2
      have hcap : 1 ≤ b.k → widths b.c ≤ (ρ id).cap := by
        intro hk
        rw [← segsVals_len ρ]
        obtain ⟨k, bty, bc⟩ := b
        match k, hk, hbk with
        | 1, _, hbk =>
          rcases hbk.2 with ⟨hv, hn⟩ | ⟨g, cap, cur, hv, _, _, hnc, _⟩
          · simp only at hn ⊢; omega
          · injection hv with _ _ hv; simp only at hnc ⊢; omega
        | k + 2, _, hbk => exact hbk.1
      have hrad : ∀ {q : Nat}, off < q → q ≤ (ρ id).cap → radr (ρ id) off ad = (ρ id).a.map (·.add off) := fun h1 h2 => by
        unfold radr; rw [if_neg (by omega)]
      split at h
      · rename_i p0 hk hsz hw
        have hk := hcap (Nat.le_of_ble_eq_true hk)
        have hsz := Nat.eq_of_beq_eq_true hsz
        split at h
        · rename_i l h' m p hbn
          simp only [Option.some.injEq] at h
          subst h
          have hlc := within_spec hw hp.1
          obtain ⟨hrun, h1, h2, h3, h4⟩ := bnds_spec (P := P) (ρ := ρ) (w := w) (sl := true) hbn hp.2 (by omega) (show widths b.c - off ≤ (ρ id).cap - off by omega)
          simp only [mcap] at hrun
          refine ⟨?_, rfl, rfl⟩
          have := sliceAt_sl (ad := radr (ρ id) off ad) (hsl (by simp)) hte hrun
          refine this.trans ?_
          simp only [SV.conc, AV.conc, Seg.conc, plusO_eq]
          have e : (ρ id).cap - off - l = (ρ id).cap - (off + l) := by omega
          rw [e, hsz, Nat.mul_one]
          congr 2
          by_cases hl0 : l = 0
          · subst hl0
            have : (radr (ρ id) off ad).map (·.add 0) = radr (ρ id) off ad := by
              cases radr (ρ id) off ad <;> simp [Addr.add]
            rw [this, ite_self, if_pos rfl]
            rfl
          · rw [if_neg hl0, hrad (q := off + l) (by omega) (by omega), map_add]
            unfold radr
            by_cases hml : (ρ id).cap - off = l
            · rw [if_pos hml, if_pos (by omega)]
            · rw [if_neg hml, if_neg (by omega)]
        · cases h
      · rename_i p0 v hk hsz hw
        have hk := hcap (Nat.le_of_ble_eq_true hk)
        split at h
        · rename_i h' m p hbn
          split at h
          · rename_i p1 hw1
            simp only [Option.some.injEq] at h
            subst h
            have hlc := within_spec hw hp.1
            have hm1 := within_spec hw1 hp.2.2
            obtain ⟨hrun, h1, h2, h3, h4⟩ := bnds_spec (P := P) (ρ := ρ) (w := w) (sl := true) hbn hp.2.1 (by omega) (show widths b.c - off ≤ (ρ id).cap - off by omega)
            simp only [mcap] at hrun
            refine ⟨?_, rfl, rfl⟩
            have := sliceAt_sl (ad := radr (ρ id) off ad) (hsl (by simp)) hte hrun
            refine this.trans ?_
            simp only [SV.conc, AV.conc, Seg.conc]
            rw [if_neg (by omega), hrad (q := off + m) (by omega) (by omega), map_add]
            simp
          · cases h
        · cases h
      · cases h
    · cases h
  · cases h

end
end Go.Proofs.Ytkoackalpcmhaaa.Am
