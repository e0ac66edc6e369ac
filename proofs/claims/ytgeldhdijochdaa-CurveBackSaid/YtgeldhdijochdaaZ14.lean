/- Opening a number's four words and a row of bytes at a law's call. Conditions: none. -/
import Derived.Test.YtgeldhdijochdaaZ5
import Derived.Test.YtgeldhdijochdaaRows
import Derived.WalkKit
import Derived.ProofKit
import Derived.OpenShut
import Derived.ChangeOld
import Derived.Below
import Derived.Test.YtgeldhdijochdaaZ13
set_option linter.unusedSectionVars false
namespace Go.Proofs.Ytgeldhdijochdaa
set_option linter.unusedVariables false
set_option linter.unusedSimpArgs false
open Go Go.ChangeShapes Go.WideShapes Go.ChangeAt Go.RowKit
open Pl (W4)

theorem own_ : ownKnob Try.prog.godebug = none := by kernel_rfl
theorem laidOut_ : laidOutB Try.prog = true := by kernel_rfl
theorem cells_num : Try.prog.cellsOf 26 = 4 := by kernel_rfl
theorem cells_u64 : Try.prog.cellsOf 24 = 1 := by kernel_rfl
theorem array_four {α : Type} {cs : Array α} (h : cs.size = 4) : ∃ c0 c1 c2 c3, cs = #[c0, c1, c2, c3] := by
  obtain ⟨l⟩ := cs
  match l, h with
  | [a, b, c, d], _ => exact ⟨a, b, c, d, rfl⟩
theorem nat_of_wf {x : Int} (h : (Lit.int .u64 x).wf = true) : ∃ n : Nat, n < 18446744073709551616 ∧ x = (n : Int) := by
  have h := bounds_u64 h
  exact ⟨x.toNat, by omega, by omega⟩

set_option maxRecDepth 100000 in
/-- A number that comes in: four words. -/
theorem open_num {H : Type} {enc : TypeId × Value → H} {W : World} {base : Nat} {b0 : Nat} {spare : Nat → Bool} {held : Bool} {v : Value} {d : DataW H} {ps : List MemPlace}
    (hval : Value.okWide Try.prog W .any b0 26 v) (h : DataW.Trod enc Try.prog W base spare held 26 v d ps) :
    ∃ a0 a1 a2 a3 : Nat, W4 a0 a1 a2 a3 ∧ v = .agg #[.int .u64 a0, .int .u64 a1, .int .u64 a2, .int .u64 a3] := by
  obtain ⟨cs, rfl, hsz, _⟩ : ∃ cs, v = .agg cs ∧ cs.size = Try.prog.cellsOf 26 ∧ Row.okWide Try.prog W .any b0 26 cs := by
    simpa [Value.okWide, Try.underlying26] using hval
  rw [cells_num] at hsz
  obtain ⟨c0, c1, c2, c3, rfl⟩ := array_four hsz
  obtain ⟨fuel, hf⟩ := h
  obtain ⟨y0, y1, y2, y3, m, hx, hy0, hy1, hy2, hy3⟩ := trod_array4 Try.underlying26 cells_u64 hf
  obtain ⟨x0, e0, rfl, w0⟩ := DataW.trod_int Try.underlying24 hy0
  obtain ⟨x1, e1, rfl, w1⟩ := DataW.trod_int Try.underlying24 hy1
  obtain ⟨x2, e2, rfl, w2⟩ := DataW.trod_int Try.underlying24 hy2
  obtain ⟨x3, e3, rfl, w3⟩ := DataW.trod_int Try.underlying24 hy3
  simp at e0 e1 e2 e3
  subst e0 e1 e2 e3
  obtain ⟨a0, l0, rfl⟩ := nat_of_wf w0
  obtain ⟨a1, l1, rfl⟩ := nat_of_wf w1
  obtain ⟨a2, l2, rfl⟩ := nat_of_wf w2
  obtain ⟨a3, l3, rfl⟩ := nat_of_wf w3
  exact ⟨a0, a1, a2, a3, ⟨l0, l1, l2, l3⟩, rfl⟩

/-- What is known of a row of integers that came in. -/
def IsRow (k : IntKind) (w : World) (a : Option Addr) (len cap : Nat) (zs : List Int) : Prop :=
  (a = none ∧ len = 0 ∧ cap = 0 ∧ zs = []) ∨
  ∃ x, a = some x ∧ len ≤ cap ∧ cap ≤ maxLen ∧ zs.length = cap ∧ (∀ i, i < zs.length → w.cell? (x.add i) = some (.int k (zs.getD i 0))) ∧ ∀ n ∈ zs, (Lit.int k n).wf = true

end Go.Proofs.Ytgeldhdijochdaa
