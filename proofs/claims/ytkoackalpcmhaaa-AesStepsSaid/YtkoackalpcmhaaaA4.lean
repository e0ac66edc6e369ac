/- The cipher: contracts of with, mixed, turn, add, rows. Conditions: none. -/
import Derived.Test.YtkoackalpcmhaaaA3
namespace Go.Proofs.Ytkoackalpcmhaaa.Am
set_option linter.unusedVariables false
set_option linter.unusedSimpArgs false
open Go Go.RowKit

def eWith : Ent := fun args G _ => match args with
  | [.av (.one (.s id 0 n m))] => match G id with
    | some b => match intsOf .u8 b.c with
      | some [a, b, c, d, e, f, g, h] => match Nat.beq n 2 && Nat.beq m 2 with
        | true => some { val := .av (.one (.arr .u8 (wx [a, b, c, d, e, f, g, h] 2))) }
        | false => none
      | some [a0, a1, a2, a3, b0, b1, b2, b3, c0, c1, c2, c3, d0, d1, d2, d3, e0, e1, e2, e3] => match Nat.beq n 5 && Nat.beq m 5 with
        | true => some { val := .av (.one (.arr .u8 (wx [a0, a1, a2, a3, b0, b1, b2, b3, c0, c1, c2, c3, d0, d1, d2, d3, e0, e1, e2, e3] 5))) }
        | false => none
      | _ => none
    | none => none
  | _ => none
theorem valR_some {o : Option Res} {v : SV} (h : valR o = some (v, [], [], [])) : ∃ r, o = some r ∧ r.val = v ∧ r.new = [] ∧ r.upd = [] ∧ r.asm.holds := by
  unfold valR at h
  split at h
  · rename_i r
    simp only [Option.some.injEq, Prod.mk.injEq] at h
    exact ⟨r, rfl, h.1, h.2.1, h.2.2.1, (Asm.of_list r.asm [] (by rw [h.2.2.2]; trivial)).1⟩
  · cases h
theorem with_go {ρ : Nat → Loc} {D : Nat → Prop} {N : Nat} {M : List Nat} {G : Nat → Option Blk} {w : World} (hG : HR ρ D N M G w) {id n : Nat} {b : Blk} (hb : G id = some b) {zs : List Int} (hz : intsOf .u8 b.c = some zs) {v : List Int} (hv : ∀ base, valR (withI [.av (.one (.s 0 0 n n))] (fun i => if i = 0 then some ⟨2, 50, [.arr .u8 zs]⟩ else none) base) = some (.av (.one (.arr .u8 v)), [], [], [])) :
    Calls Try.prog 22 ([SV.av (.one (.s id 0 n n))].map (SV.conc ρ)).toArray w fun e w' => e = .returned (SV.conc ρ (.av (.one (.arr .u8 v)))) ∧ Below w.heap.size w w' := by
  obtain ⟨r, hr, h1, h2, h3, h4⟩ := valR_some (hv 1)
  have hH := hr_one (ty := 50) (c := [.arr .u8 zs]) hG hb (fun s hs => by simp at hs; subst hs; rfl) (by rw [intsOf_spec ρ _ _ hz, segsVals_one]; rfl)
  have := ent_pure with_ent0 hr h4 h2 h3 (by rw [h1]; rfl) hH (fun s hs => by simp at hs; subst hs; intro s hs; simp [AV.segs] at hs; subst hs; exact Nat.zero_lt_one)
  rw [h1] at this
  exact this
theorem with_ent : EntOK Try.prog 22 eWith := by
  refine ⟨with_ent0.1, fun args G base res hr ha ρ D N M w hG hin hfr => ?_⟩
  unfold eWith at hr
  split at hr
  · rename_i id n m
    split at hr
    · rename_i b hb
      split at hr
      · rename_i a0 a1 a2 a3 b0 b1 b2 b3 hz
        split at hr
        · rename_i hnm
          rw [Bool.and_eq_true] at hnm
          have e1 := Nat.eq_of_beq_eq_true hnm.1
          have e2 := Nat.eq_of_beq_eq_true hnm.2
          subst e1 e2
          simp only [Option.some.injEq] at hr
          subst hr
          exact ent_val (with_go hG hb hz fun base => with2 a0 a1 a2 a3 b0 b1 b2 b3 base) hG rfl rfl rfl
        · cases hr
      · rename_i a0 a1 a2 a3 b0 b1 b2 b3 c0 c1 c2 c3 d0 d1 d2 d3 e0 e1 e2 e3 hz
        split at hr
        · rename_i hnm
          rw [Bool.and_eq_true] at hnm
          have e1' := Nat.eq_of_beq_eq_true hnm.1
          have e2' := Nat.eq_of_beq_eq_true hnm.2
          subst e1' e2'
          simp only [Option.some.injEq] at hr
          subst hr
          exact ent_val (with_go hG hb hz fun base => with5 a0 a1 a2 a3 b0 b1 b2 b3 c0 c1 c2 c3 d0 d1 d2 d3 e0 e1 e2 e3 base) hG rfl rfl rfl
        · cases hr
      · cases hr
    · cases hr
  · cases hr

/-- A column, mixed. -/
def mixW (a b c d : Int) : List Int := wx [tw a, tw b, tw c, tw d, tw b, tw c, tw d, tw a, b, c, d, a, c, d, a, b, d, a, b, c] 5
def eMix : Ent := fun args _ _ => match args with
  | [.av a] => match intsOf .u8 a.segs, aggB a with
    | some [x, y, z, u], true => some { val := .av (.one (.arr .u8 (mixW x y z u))) }
    | _, _ => none
  | _ => none
theorem mix_go (x y z u : Int) (ρ : Nat → Loc) (w : World) : Calls Try.prog 29 ([SV.av (.one (.arr .u8 [x, y, z, u]))].map (SV.conc ρ)).toArray w fun e w' => e = .returned (SV.conc ρ (.av (.one (.arr .u8 (mixW x y z u))))) ∧ Below w.heap.size w w' :=
  am_val (ps := []) tyT_ok (ook_of (l := [(24, e1I .u8 tw), (22, eWith)]) ⟨twice_ent, with_ent, trivial⟩) mixed_ Try.func29 (by kernel_rfl) (H := noH) (LH := []) (fuel := 1000) (by kernel_rfl) trivial (by kernel_rfl) (by kernel_rfl) ρ w
theorem mix_ent : EntOK Try.prog 29 eMix := by
  refine ⟨⟨_, Try.func29, by kernel_rfl, by kernel_rfl⟩, fun args G base res hr ha ρ D N M w hG hin hfr => ?_⟩
  unfold eMix at hr
  split at hr
  · rename_i a
    split at hr
    · rename_i x y z u hz hagg
      simp only [Option.some.injEq] at hr
      subst hr
      have e : SV.conc ρ (.av a) = SV.conc ρ (.av (.one (.arr .u8 [x, y, z, u]))) := by
        rw [conc_av, aggB_conc ρ hagg, intsOf_spec ρ _ _ hz]
        rfl
      have h := mix_go x y z u ρ w
      simp only [List.map_cons, List.map_nil] at h ⊢
      rw [e]
      exact ent_val h hG rfl rfl rfl
    · cases hr
  · cases hr
end Go.Proofs.Ytkoackalpcmhaaa.Am
