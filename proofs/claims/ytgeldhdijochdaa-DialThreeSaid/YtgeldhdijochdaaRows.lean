/-
  No cell of these rows narrows 'for every input' (looked for: loops, veiled, ifaces, maps, wideKeys, modest, calm, conditions, laid).
  DERIVED. THE GIVEN ROWS OF THIS SEAT. 7 by the template 'for every input the law returns true; each argument reads behind the call as it read before'; 0 by the template 'total and deterministic' (their statements: YtgeldhdijochdaaTotals.lean).
  GIVEN WITH THE SEED: the statements are not yours to turn. If you find one false, say at which input.
  Laid BY PROGRAM, IN A SANDBOX (cutbox-rows.mjs): the forced cells as the released guide's own fill.sh prints them over the translation 23fe3c4a89a82874… (all of the seat's roots in one cut). By AI agents, Wed Nov 11 2026. No macro, syntax, notation, axiom, sorry.
-/
import Derived.Test.YtgeldhdijochdaaChecked
import GoSem.Claim
import GoSem.ClaimJoined
import GoSem.ClaimMapViews
import Derived.JoinedTies
import Derived.KernelRfl
namespace Go.Proofs.Ytgeldhdijochdaa
/- THE CELL 'sum', in the pinned program and in every row, IS THE sha256 OF THE DUMP (.gsa) THAT YtgeldhdijochdaaProg.lean LOADS. Nothing in Lean hashes anything: it is a label: what it is worth is what the hold of that sum in a sandbox is worth. -/
noncomputable def Try.pinned : Pinned := { name := "ytgeldhdijochdaa", sum := "23fe3c4a89a828743f15e12cb9e890f113d380e74e5b7688dc159c7435801a75", checked := Try.checked }
namespace Rows
def none {H : Type} : Left H := { results := [], args := [] }

/-- 'escutcheonlaw09.CurveOrders': WHATEVER THE INPUT: true; the input reads as it did. -/
def curveOrdersSpec : ChangeSpec := { name := "curveOrders", fn := fun _ => fun
  | [d1, d2, d3] => { results := [.lit (.bool true)], args := [d1, d2, d3] }
  | _ => none }
def curveOrdersRow : OpenClaim := { program := "ytgeldhdijochdaa", sum := "23fe3c4a89a828743f15e12cb9e890f113d380e74e5b7688dc159c7435801a75", func := "escutcheon/escutcheonlaw09.CurveOrders", spec := "curveOrders", inPlace := ["math/bits.Sub64", "math/bits.Add64"], apart := false }
def CurveOrdersSaid : Prop := curveOrdersRow.holds Try.pinned (OpenSpec.ofChange curveOrdersSpec)

/-- ITS FALSE NEIGHBOUR: 'it returns false'. Refute it at one input. -/
def curveOrdersWrong : ChangeSpec := { name := "curveOrders", fn := fun _ => fun
  | [d1, d2, d3] => { results := [.lit (.bool false)], args := [d1, d2, d3] }
  | _ => none }
def CurveOrdersWrongFalsely : Prop := curveOrdersRow.holds Try.pinned (OpenSpec.ofChange curveOrdersWrong)

/-- 'escutcheonlaw09.CurveTwice': WHATEVER THE INPUT: true; the input reads as it did. -/
def curveTwiceSpec : ChangeSpec := { name := "curveTwice", fn := fun _ => fun
  | [d1, d2, d3] => { results := [.lit (.bool true)], args := [d1, d2, d3] }
  | _ => none }
def curveTwiceRow : OpenClaim := { program := "ytgeldhdijochdaa", sum := "23fe3c4a89a828743f15e12cb9e890f113d380e74e5b7688dc159c7435801a75", func := "escutcheon/escutcheonlaw09.CurveTwice", spec := "curveTwice", inPlace := ["math/bits.Sub64", "math/bits.Add64"], apart := false }
def CurveTwiceSaid : Prop := curveTwiceRow.holds Try.pinned (OpenSpec.ofChange curveTwiceSpec)

/-- ITS FALSE NEIGHBOUR: 'it returns false'. Refute it at one input. -/
def curveTwiceWrong : ChangeSpec := { name := "curveTwice", fn := fun _ => fun
  | [d1, d2, d3] => { results := [.lit (.bool false)], args := [d1, d2, d3] }
  | _ => none }
def CurveTwiceWrongFalsely : Prop := curveTwiceRow.holds Try.pinned (OpenSpec.ofChange curveTwiceWrong)

/-- 'escutcheonlaw09.CurveBytes': WHATEVER THE INPUT: true; the input reads as it did. -/
def curveBytesSpec : ChangeSpec := { name := "curveBytes", fn := fun _ => fun
  | [d] => { results := [.lit (.bool true)], args := [d] }
  | _ => none }
def curveBytesRow : OpenClaim := { program := "ytgeldhdijochdaa", sum := "23fe3c4a89a828743f15e12cb9e890f113d380e74e5b7688dc159c7435801a75", func := "escutcheon/escutcheonlaw09.CurveBytes", spec := "curveBytes", inPlace := ["math/bits.Sub64", "math/bits.Add64"], apart := false }
def CurveBytesSaid : Prop := curveBytesRow.holds Try.pinned (OpenSpec.ofChange curveBytesSpec)

/-- ITS FALSE NEIGHBOUR: 'it returns false'. Refute it at one input. -/
def curveBytesWrong : ChangeSpec := { name := "curveBytes", fn := fun _ => fun
  | [d] => { results := [.lit (.bool false)], args := [d] }
  | _ => none }
def CurveBytesWrongFalsely : Prop := curveBytesRow.holds Try.pinned (OpenSpec.ofChange curveBytesWrong)

/-- 'escutcheonlaw09.CurveBack': WHATEVER THE INPUT: true; the input reads as it did. -/
def curveBackSpec : ChangeSpec := { name := "curveBack", fn := fun _ => fun
  | [d] => { results := [.lit (.bool true)], args := [d] }
  | _ => none }
def curveBackRow : OpenClaim := { program := "ytgeldhdijochdaa", sum := "23fe3c4a89a828743f15e12cb9e890f113d380e74e5b7688dc159c7435801a75", func := "escutcheon/escutcheonlaw09.CurveBack", spec := "curveBack", inPlace := ["math/bits.Sub64", "math/bits.Add64"], unfollowed := true, recurses := true, apart := false }
def CurveBackSaid : Prop := curveBackRow.holds Try.pinned (OpenSpec.ofChange curveBackSpec)

/-- ITS FALSE NEIGHBOUR: 'it returns false'. Refute it at one input. -/
def curveBackWrong : ChangeSpec := { name := "curveBack", fn := fun _ => fun
  | [d] => { results := [.lit (.bool false)], args := [d] }
  | _ => none }
def CurveBackWrongFalsely : Prop := curveBackRow.holds Try.pinned (OpenSpec.ofChange curveBackWrong)

/-- 'escutcheonlaw11.DialBoth': WHATEVER THE INPUT: true; the input reads as it did. -/
def dialBothSpec : ChangeSpec := { name := "dialBoth", fn := fun _ => fun
  | [d1, d2] => { results := [.lit (.bool true)], args := [d1, d2] }
  | _ => none }
def dialBothRow : OpenClaim := { program := "ytgeldhdijochdaa", sum := "23fe3c4a89a828743f15e12cb9e890f113d380e74e5b7688dc159c7435801a75", func := "escutcheon/escutcheonlaw11.DialBoth", spec := "dialBoth", inPlace := ["math/bits.Sub64", "math/bits.Add64"], apart := false }
def DialBothSaid : Prop := dialBothRow.holds Try.pinned (OpenSpec.ofChange dialBothSpec)

/-- ITS FALSE NEIGHBOUR: 'it returns false'. Refute it at one input. -/
def dialBothWrong : ChangeSpec := { name := "dialBoth", fn := fun _ => fun
  | [d1, d2] => { results := [.lit (.bool false)], args := [d1, d2] }
  | _ => none }
def DialBothWrongFalsely : Prop := dialBothRow.holds Try.pinned (OpenSpec.ofChange dialBothWrong)

/-- 'escutcheonlaw11.DialNines': WHATEVER THE INPUT: true; the input reads as it did. -/
def dialNinesSpec : ChangeSpec := { name := "dialNines", fn := fun _ => fun
  | [d] => { results := [.lit (.bool true)], args := [d] }
  | _ => none }
def dialNinesRow : OpenClaim := { program := "ytgeldhdijochdaa", sum := "23fe3c4a89a828743f15e12cb9e890f113d380e74e5b7688dc159c7435801a75", func := "escutcheon/escutcheonlaw11.DialNines", spec := "dialNines", inPlace := ["math/bits.Sub64", "math/bits.Add64"], apart := false }
def DialNinesSaid : Prop := dialNinesRow.holds Try.pinned (OpenSpec.ofChange dialNinesSpec)

/-- ITS FALSE NEIGHBOUR: 'it returns false'. Refute it at one input. -/
def dialNinesWrong : ChangeSpec := { name := "dialNines", fn := fun _ => fun
  | [d] => { results := [.lit (.bool false)], args := [d] }
  | _ => none }
def DialNinesWrongFalsely : Prop := dialNinesRow.holds Try.pinned (OpenSpec.ofChange dialNinesWrong)

/-- 'escutcheonlaw11.DialThree': WHATEVER THE INPUT: true; the input reads as it did. -/
def dialThreeSpec : ChangeSpec := { name := "dialThree", fn := fun _ => fun
  | [d1, d2, d3] => { results := [.lit (.bool true)], args := [d1, d2, d3] }
  | _ => none }
def dialThreeRow : OpenClaim := { program := "ytgeldhdijochdaa", sum := "23fe3c4a89a828743f15e12cb9e890f113d380e74e5b7688dc159c7435801a75", func := "escutcheon/escutcheonlaw11.DialThree", spec := "dialThree", inPlace := ["math/bits.Sub64", "math/bits.Add64"], apart := false }
def DialThreeSaid : Prop := dialThreeRow.holds Try.pinned (OpenSpec.ofChange dialThreeSpec)

/-- ITS FALSE NEIGHBOUR: 'it returns false'. Refute it at one input. -/
def dialThreeWrong : ChangeSpec := { name := "dialThree", fn := fun _ => fun
  | [d1, d2, d3] => { results := [.lit (.bool false)], args := [d1, d2, d3] }
  | _ => none }
def DialThreeWrongFalsely : Prop := dialThreeRow.holds Try.pinned (OpenSpec.ofChange dialThreeWrong)

/- THE SECOND FORM. 'bulk': how many values and letters a reading holds, each counted each time it is reached (what is shared counts as often as it is met; a slice's spare places count too). A statement '..UptoSaid' is the law's where the arguments, and the package variables that the reading takes, are together of bulk at most 1048576: NARROWER than '..Said'. Prove '..Said' where nothing that the law and all that it calls make is longer than what came in: it says more and counts as full. Else prove '..UptoSaid'. A law counts once. -/
mutual
def uptoBulk {H : Type} : DataW H → Nat
  | .lit (.string bytes) => bytes.length + 1
  | .lit _ => 1
  | .nil => 1
  | .ptr d => uptoBulk d + 1
  | .slice elems spare => uptoBulkAll elems + uptoBulkAll spare + 1
  | .agg parts => uptoBulkAll parts + 1
  | .iface _ d => uptoBulk d + 1
  | .map entries => uptoBulkEntries entries + 1
  | .held _ => 1
def uptoBulkAll {H : Type} : List (DataW H) → Nat
  | [] => 0
  | d :: r => uptoBulk d + uptoBulkAll r
def uptoBulkEntries {H : Type} : List (Lit × DataW H) → Nat
  | [] => 0
  | x :: r => uptoBulkEntry x + uptoBulkEntries r
def uptoBulkEntry {H : Type} : Lit × DataW H → Nat
  | (.string bytes, d) => bytes.length + uptoBulk d + 1
  | (_, d) => uptoBulk d + 1
 end
def uptoSmall : (H : Type) → List (DataW H) → Bool := fun _ ds => decide (uptoBulkAll ds ≤ 1048576)
def OpenSpec.upto (s : _root_.Go.ChangeSpec) : _root_.Go.OpenSpec := { _root_.Go.OpenSpec.ofChange s with cond := some uptoSmall }

/-- 'escutcheonlaw09.CurveOrders', WHERE WHAT IT READS IS OF BULK AT MOST 1048576: true; the input reads as it did. -/
def curveOrdersUptoRow : OpenClaim := { program := "ytgeldhdijochdaa", sum := "23fe3c4a89a828743f15e12cb9e890f113d380e74e5b7688dc159c7435801a75", func := "escutcheon/escutcheonlaw09.CurveOrders", spec := "curveOrders", inPlace := ["math/bits.Sub64", "math/bits.Add64"], apart := false, narrowed := true }
def CurveOrdersUptoSaid : Prop := curveOrdersUptoRow.holds Try.pinned (OpenSpec.upto curveOrdersSpec)

/-- 'escutcheonlaw09.CurveTwice', WHERE WHAT IT READS IS OF BULK AT MOST 1048576: true; the input reads as it did. -/
def curveTwiceUptoRow : OpenClaim := { program := "ytgeldhdijochdaa", sum := "23fe3c4a89a828743f15e12cb9e890f113d380e74e5b7688dc159c7435801a75", func := "escutcheon/escutcheonlaw09.CurveTwice", spec := "curveTwice", inPlace := ["math/bits.Sub64", "math/bits.Add64"], apart := false, narrowed := true }
def CurveTwiceUptoSaid : Prop := curveTwiceUptoRow.holds Try.pinned (OpenSpec.upto curveTwiceSpec)

/-- 'escutcheonlaw09.CurveBytes', WHERE WHAT IT READS IS OF BULK AT MOST 1048576: true; the input reads as it did. -/
def curveBytesUptoRow : OpenClaim := { program := "ytgeldhdijochdaa", sum := "23fe3c4a89a828743f15e12cb9e890f113d380e74e5b7688dc159c7435801a75", func := "escutcheon/escutcheonlaw09.CurveBytes", spec := "curveBytes", inPlace := ["math/bits.Sub64", "math/bits.Add64"], apart := false, narrowed := true }
def CurveBytesUptoSaid : Prop := curveBytesUptoRow.holds Try.pinned (OpenSpec.upto curveBytesSpec)

/-- 'escutcheonlaw09.CurveBack', WHERE WHAT IT READS IS OF BULK AT MOST 1048576: true; the input reads as it did. -/
def curveBackUptoRow : OpenClaim := { program := "ytgeldhdijochdaa", sum := "23fe3c4a89a828743f15e12cb9e890f113d380e74e5b7688dc159c7435801a75", func := "escutcheon/escutcheonlaw09.CurveBack", spec := "curveBack", inPlace := ["math/bits.Sub64", "math/bits.Add64"], unfollowed := true, recurses := true, apart := false, narrowed := true }
def CurveBackUptoSaid : Prop := curveBackUptoRow.holds Try.pinned (OpenSpec.upto curveBackSpec)

/-- 'escutcheonlaw11.DialBoth', WHERE WHAT IT READS IS OF BULK AT MOST 1048576: true; the input reads as it did. -/
def dialBothUptoRow : OpenClaim := { program := "ytgeldhdijochdaa", sum := "23fe3c4a89a828743f15e12cb9e890f113d380e74e5b7688dc159c7435801a75", func := "escutcheon/escutcheonlaw11.DialBoth", spec := "dialBoth", inPlace := ["math/bits.Sub64", "math/bits.Add64"], apart := false, narrowed := true }
def DialBothUptoSaid : Prop := dialBothUptoRow.holds Try.pinned (OpenSpec.upto dialBothSpec)

/-- 'escutcheonlaw11.DialNines', WHERE WHAT IT READS IS OF BULK AT MOST 1048576: true; the input reads as it did. -/
def dialNinesUptoRow : OpenClaim := { program := "ytgeldhdijochdaa", sum := "23fe3c4a89a828743f15e12cb9e890f113d380e74e5b7688dc159c7435801a75", func := "escutcheon/escutcheonlaw11.DialNines", spec := "dialNines", inPlace := ["math/bits.Sub64", "math/bits.Add64"], apart := false, narrowed := true }
def DialNinesUptoSaid : Prop := dialNinesUptoRow.holds Try.pinned (OpenSpec.upto dialNinesSpec)

/-- 'escutcheonlaw11.DialThree', WHERE WHAT IT READS IS OF BULK AT MOST 1048576: true; the input reads as it did. -/
def dialThreeUptoRow : OpenClaim := { program := "ytgeldhdijochdaa", sum := "23fe3c4a89a828743f15e12cb9e890f113d380e74e5b7688dc159c7435801a75", func := "escutcheon/escutcheonlaw11.DialThree", spec := "dialThree", inPlace := ["math/bits.Sub64", "math/bits.Add64"], apart := false, narrowed := true }
def DialThreeUptoSaid : Prop := dialThreeUptoRow.holds Try.pinned (OpenSpec.upto dialThreeSpec)

end Rows
end Go.Proofs.Ytgeldhdijochdaa
