/- The abstract machine: contracts that hand back a new row, or a row to be read. Conditions: none. -/
import Derived.Test.YtkoackalpcmhaaaM21
namespace Go.Proofs.Ytkoackalpcmhaaa.Am
set_option linter.unusedVariables false
set_option linter.unusedSimpArgs false
open Go Go.RowKit

section
variable {P : Program} {ρ : Nat → Loc} {D : Nat → Prop} {N : Nat} {M : List Nat} {G : Nat → Option Blk} {base : Nat}

/-- One new block behind a call that leaves old memory alone. -/
theorem fits_fresh {w w' : World} (hG : HR ρ D N M G w) (hb : Below w.heap.size w w') {b : Blk} {l : Loc} {r : Res} {v : Value} (hf : ¬ D base) (hn : r.new = [b]) (hu : r.upd = []) (hin : segsIn D b.c) (hok : BlkOK (up ρ base l) w' base b) (hfr : ∀ x, l.a = some x → w.heap.size ≤ x.block ∧ x.block < w'.heap.size) (hv : v = r.val.conc (up ρ base l)) : Fits ρ D N M G base r w (up ρ base l) v w' := by
  have hag : ∀ i, D i → up ρ base l i = ρ i := up_agree hf
  refine ⟨hag, hv, ?_, Kept.of_below (hb.mono hG.size), fun _ => ⟨hb, fun k b' x hk hx => ?_⟩⟩
  · have ha : ∀ id, appl G base r id = if id = base then some b else G id := fun id => by
      unfold appl
      rw [hu, hn]
      simp only [look, List.length_cons, List.length_nil]
      by_cases h : id = base
      · subst h; simp
      · rw [if_neg (by omega), if_neg h]
    refine hG.step (U := fun id => id = base) hag (fun id h => .inl h) hb.size (fun id b' hb' hU => ?_) (fun id b' x hb' hU hx => ?_) (fun id b' hb' hU => ?_) (fun id b' x hb' hU hx => ?_) (fun id b' x hb' hU hk hx => ?_) (fun i j bi bj x y hi hj hij hU hk hx hy => ?_)
    · rw [ha, if_neg hU] at hb'; exact hb'
    · rw [ha, if_neg hU] at hb'
      exact hb.block _ (hG.lt id b' x hb' hx)
    · subst hU
      rw [ha, if_pos rfl] at hb'
      injection hb' with hb'
      subst hb'
      exact ⟨.inr ⟨Nat.le_refl _, by rw [hn]; simp⟩, hin.mono fun i h => .inl h, hok⟩
    · subst hU
      rw [up_self] at hx
      exact (hfr x hx).2
    · subst hU
      rw [up_self] at hx
      exact .inl (Nat.le_trans hG.size (hfr x hx).1)
    · rw [ha] at hi hj
      by_cases h1 : i = base
      · subst h1
        rw [if_neg fun e => hij e.symm] at hj
        rw [up_self] at hx
        have h3 := (hfr x hx).1
        rw [hag j (hG.blk j bj hj).1] at hy
        have := hG.lt j bj y hj hy
        omega
      · have h2 : j = base := hU.resolve_left h1
        subst h2
        rw [if_neg h1] at hi
        rw [up_self] at hy
        have h3 := (hfr y hy).1
        rw [hag i (hG.blk i bi hi).1] at hx
        have := hG.lt i bi x hi hx
        omega
  · rw [hn] at hk
    cases k with
    | zero =>
      simp only [Nat.add_zero, up_self] at hx
      exact (hfr x hx).1
    | succ k => simp at hk

theorem ent_row {f : FuncId} {args : Array Value} {w : World} {ty : TypeId} {n : Nat} {xs : List Value} (h : Calls P f args w fun e w' => (∃ v, e = .returned v ∧ w'.ownsRow w.heap.size ty 1 v n xs) ∧ Below w.heap.size w w') (hG : HR ρ D N M G w) {c : List Seg} {r : Res} (hf : ¬ D base) (hn : r.new = [⟨1, ty, c⟩]) (hu : r.upd = []) (hin : segsIn D c) (hc : segsVals ρ c = xs) (hv : r.val = .av (.one (.r base 0 n 0))) :
    Calls P f args w fun e w' => ∃ v, e = .returned v ∧ ∃ ρ', Fits ρ D N M G base r w ρ' v w' := by
  refine h.mono fun e w' ⟨⟨v, he, ho⟩, hb⟩ => ?_
  obtain ⟨ad, cap, hvv⟩ : ∃ ad cap, v = .slice ad n cap := by
    rcases ho.2 with ⟨rfl, h⟩ | ⟨g, cap, cur, rfl, _⟩
    · exact ⟨none, 0, by rw [h]⟩
    · exact ⟨_, cap, rfl⟩
  have hl : xs.length = n := by have := ho.1; omega
  have hag : ∀ i, D i → up ρ base ⟨ad, cap⟩ i = ρ i := up_agree hf
  refine ⟨v, he, _, fits_fresh (l := ⟨ad, cap⟩) hG hb hf hn hu hin ?_ ?_ ?_⟩
  · show w'.ownsRow 0 ty 1 _ _ _
    simp only [up_self]
    rw [segsVals_congr hag hin, hc, hl, ← hvv]
    refine ⟨ho.1, ?_⟩
    rcases ho.2 with h | ⟨g, cap, cur, h1, h2, h3⟩
    · exact .inl h
    · exact .inr ⟨g, cap, cur, h1, Nat.zero_le _, h3⟩
  · intro x hx
    have := ho.lt x.block (by rw [hvv]; simp only at hx; rw [hx]; rfl)
    exact this
  · rw [hv, hvv]
    simp only [SV.conc, AV.conc, Seg.conc, up_self, radr, Nat.sub_zero]
    congr 1
    cases ad <;> simp [Addr.add]
end

/-! numbers -/
def wd (n j : Nat) : Nat := n / 18446744073709551616 ^ j % 18446744073709551616
theorem wd_lt (n j : Nat) : wd n j < 18446744073709551616 := Nat.mod_lt _ (by decide)
theorem word_wd (n j : Nat) : word n j = (wd n j : Int) := rfl

end Go.Proofs.Ytkoackalpcmhaaa.Am
