/- Law 05's Next. Conditions: none. -/
import Derived.Test.YtkoackalpcmhaaaA10
import Derived.Test.YtkoackalpcmhaaaA11
namespace Go.Proofs.Ytkoackalpcmhaaa.Am
set_option linter.unusedVariables false
set_option linter.unusedSimpArgs false
open Go Go.RowKit

noncomputable def mO : List (Nat × Ent) := [(10, eTrue), (11, eNew), (16, e16 nextL), (13, eBlock), (17, e16 rnextL)]
theorem mO_ok : OOK Try.prog mO := ook_of (l := [(10, eTrue), (11, eNew), (16, e16 nextL), (13, eBlock), (17, e16 rnextL)]) ⟨awake_ent, new_ent, next_ent, block_ent, rnext_ent, trivial⟩
theorem lawNext_run (bf : Nat → Int) : wholeV tyT mO (atH 1 6 (isB true) noH) [] 1000 Try.f4 [.av (.one (.arr .u8 (keyL 16 bf)))] = some (ofV (.bool true), [isA (nextL (keyL 16 bf) == rnextL (keyL 16 bf)) true]) := by
  kernel_rfl
theorem wf_inR {z : Int} (h : (Lit.int .u8 z).wf = true) : inR z := by
  have := bounds_u8 h
  constructor <;> omega
theorem wf_g2 {bs : List Int} (h : ∀ z ∈ bs, (Lit.int .u8 z).wf = true) (j : Nat) : inR (g2 bs j) := g2_range (fun x hx => wf_inR (h x hx)) j
theorem lawNext_fact (bs : List Int) (hl : bs.length = 16) (hw : ∀ z ∈ bs, (Lit.int .u8 z).wf = true) (w : World) : Calls Try.prog 4 #[.agg (bs.map (Value.int .u8)).toArray] w fun e w' => e = .returned (.bool true) ∧ Below w.heap.size w w' := by
  have := am_val tyT_ok mO_ok mixed_ Try.func4 (avs := [.av (.one (.arr .u8 (keyL 16 (g2 bs))))]) (by kernel_rfl) (lawNext_run (g2 bs)) ⟨fun ρ => by
    rw [keyL_g2 hl, next_eq (bs := bs) (wf_g2 hw), beq_self_eq_true], trivial⟩ (by kernel_rfl) (by kernel_rfl) (fun _ => ⟨none, 0⟩) w
  rw [keyL_g2 hl] at this
  exact this
end Go.Proofs.Ytkoackalpcmhaaa.Am
