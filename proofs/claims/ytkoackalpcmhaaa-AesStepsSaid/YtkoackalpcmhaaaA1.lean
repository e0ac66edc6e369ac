/- The cipher: twice, the turned bytes, words. Conditions: none. -/
import Derived.Test.YtkoackalpcmhaaaM25
namespace Go.Proofs.Ytkoackalpcmhaaa.Am
set_option linter.unusedVariables false
set_option linter.unusedSimpArgs false
open Go Go.RowKit

def tw (z : Int) : Int := if (ba z 128 != 0) = true then bx (bs z 1) 27 else bs z 1
theorem twice_ent : EntOK Try.prog 24 (e1I .u8 tw) := by
  refine ok_e1I Try.func24 (by kernel_rfl) (by kernel_rfl) fun z w => ?_
  unfold tw
  cases hc : (ba z 128 != 0) with
  | true =>
    exact am_val (avs := [ofV (.int .u8 z)]) (v := ofV (.int .u8 (bx (bs z 1) 27))) tyT_ok (ook_of (l := []) trivial) mixed_ Try.func24 (by kernel_rfl) (H := atH 1 2 (isB true) noH) (LH := []) (fuel := 100) (ps := [∀ ρ : Nat → Loc, (ofV (.bool (ba z 128 != 0))).conc ρ = (ofV (.bool true)).conc ρ]) (by kernel_rfl) ⟨fun ρ => by rw [hc], trivial⟩ (by kernel_rfl) (by kernel_rfl) (fun _ => ⟨none, 0⟩) w
  | false =>
    exact am_val (avs := [ofV (.int .u8 z)]) (v := ofV (.int .u8 (bs z 1))) tyT_ok (ook_of (l := []) trivial) mixed_ Try.func24 (by kernel_rfl) (H := atH 1 2 (isB false) noH) (LH := []) (fuel := 100) (ps := [∀ ρ : Nat → Loc, (ofV (.bool (ba z 128 != 0))).conc ρ = (ofV (.bool false)).conc ρ]) (by kernel_rfl) ⟨fun ρ => by rw [hc], trivial⟩ (by kernel_rfl) (by kernel_rfl) (fun _ => ⟨none, 0⟩) w
end Go.Proofs.Ytkoackalpcmhaaa.Am
