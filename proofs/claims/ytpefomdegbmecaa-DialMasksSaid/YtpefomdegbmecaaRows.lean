/-
  No cell of these rows narrows 'for every input' (looked for: loops, veiled, ifaces, maps, wideKeys, modest, calm, conditions, laid).
  DERIVED. THE GIVEN ROWS OF THIS SEAT. 7 by the template 'for every input the law returns true; each argument reads behind the call as it read before'; 0 by the template 'total and deterministic' (their statements: YtpefomdegbmecaaTotals.lean).
  GIVEN WITH THE SEED: the statements are not yours to turn. If you find one false, say at which input.
  Laid BY PROGRAM, IN A SANDBOX (cutbox-rows.mjs): the forced cells as the released guide's own fill.sh prints them over the translation d872f44479068e9f… (all of the seat's roots in one cut). By AI agents, Wed Nov 11 2026. No macro, syntax, notation, axiom, sorry.
-/
import Derived.Test.YtpefomdegbmecaaChecked
import GoSem.Claim
import GoSem.ClaimJoined
import GoSem.ClaimMapViews
import Derived.JoinedTies
import Derived.KernelRfl
namespace Go.Proofs.Ytpefomdegbmecaa
/- THE CELL 'sum', in the pinned program and in every row, IS THE sha256 OF THE DUMP (.gsa) THAT YtpefomdegbmecaaProg.lean LOADS. Nothing in Lean hashes anything: it is a label: what it is worth is what the hold of that sum in a sandbox is worth. -/
noncomputable def Try.pinned : Pinned := { name := "ytpefomdegbmecaa", sum := "d872f44479068e9f42e65094d5c4c0c1e5a0acf53c43156ac09e000a407f4a0a", checked := Try.checked }
namespace Rows
def none {H : Type} : Left H := { results := [], args := [] }

/-- 'escutcheonlaw11.DialShares': WHATEVER THE INPUT: true; the input reads as it did. -/
def dialSharesSpec : ChangeSpec := { name := "dialShares", fn := fun _ => fun
  | [d1, d2] => { results := [.lit (.bool true)], args := [d1, d2] }
  | _ => none }
def dialSharesRow : OpenClaim := { program := "ytpefomdegbmecaa", sum := "d872f44479068e9f42e65094d5c4c0c1e5a0acf53c43156ac09e000a407f4a0a", func := "escutcheon/escutcheonlaw11.DialShares", spec := "dialShares", inPlace := ["math/bits.Sub64", "math/bits.Add64"], apart := false }
def DialSharesSaid : Prop := dialSharesRow.holds Try.pinned (OpenSpec.ofChange dialSharesSpec)

/-- ITS FALSE NEIGHBOUR: 'it returns false'. Refute it at one input. -/
def dialSharesWrong : ChangeSpec := { name := "dialShares", fn := fun _ => fun
  | [d1, d2] => { results := [.lit (.bool false)], args := [d1, d2] }
  | _ => none }
def DialSharesWrongFalsely : Prop := dialSharesRow.holds Try.pinned (OpenSpec.ofChange dialSharesWrong)

/-- 'escutcheonlaw11.DialMasks': WHATEVER THE INPUT: true; the input reads as it did. -/
def dialMasksSpec : ChangeSpec := { name := "dialMasks", fn := fun _ => fun
  | [d1, d2, d3] => { results := [.lit (.bool true)], args := [d1, d2, d3] }
  | _ => none }
def dialMasksRow : OpenClaim := { program := "ytpefomdegbmecaa", sum := "d872f44479068e9f42e65094d5c4c0c1e5a0acf53c43156ac09e000a407f4a0a", func := "escutcheon/escutcheonlaw11.DialMasks", spec := "dialMasks", inPlace := ["math/bits.Sub64", "math/bits.Add64"], apart := false }
def DialMasksSaid : Prop := dialMasksRow.holds Try.pinned (OpenSpec.ofChange dialMasksSpec)

/-- ITS FALSE NEIGHBOUR: 'it returns false'. Refute it at one input. -/
def dialMasksWrong : ChangeSpec := { name := "dialMasks", fn := fun _ => fun
  | [d1, d2, d3] => { results := [.lit (.bool false)], args := [d1, d2, d3] }
  | _ => none }
def DialMasksWrongFalsely : Prop := dialMasksRow.holds Try.pinned (OpenSpec.ofChange dialMasksWrong)

/-- 'escutcheonlaw09.CurveReads': WHATEVER THE INPUT: true; the input reads as it did. -/
def curveReadsSpec : ChangeSpec := { name := "curveReads", fn := fun _ => fun
  | [d] => { results := [.lit (.bool true)], args := [d] }
  | _ => none }
def curveReadsRow : OpenClaim := { program := "ytpefomdegbmecaa", sum := "d872f44479068e9f42e65094d5c4c0c1e5a0acf53c43156ac09e000a407f4a0a", func := "escutcheon/escutcheonlaw09.CurveReads", spec := "curveReads", inPlace := ["math/bits.Sub64", "math/bits.Add64"], apart := false }
def CurveReadsSaid : Prop := curveReadsRow.holds Try.pinned (OpenSpec.ofChange curveReadsSpec)

/-- ITS FALSE NEIGHBOUR: 'it returns false'. Refute it at one input. -/
def curveReadsWrong : ChangeSpec := { name := "curveReads", fn := fun _ => fun
  | [d] => { results := [.lit (.bool false)], args := [d] }
  | _ => none }
def CurveReadsWrongFalsely : Prop := curveReadsRow.holds Try.pinned (OpenSpec.ofChange curveReadsWrong)

/-- 'escutcheonlaw09.CurveTimes': WHATEVER THE INPUT: true; the input reads as it did. -/
def curveTimesSpec : ChangeSpec := { name := "curveTimes", fn := fun _ => fun
  | [d1, d2] => { results := [.lit (.bool true)], args := [d1, d2] }
  | _ => none }
def curveTimesRow : OpenClaim := { program := "ytpefomdegbmecaa", sum := "d872f44479068e9f42e65094d5c4c0c1e5a0acf53c43156ac09e000a407f4a0a", func := "escutcheon/escutcheonlaw09.CurveTimes", spec := "curveTimes", inPlace := ["math/bits.Sub64", "math/bits.Add64"], apart := false }
def CurveTimesSaid : Prop := curveTimesRow.holds Try.pinned (OpenSpec.ofChange curveTimesSpec)

/-- ITS FALSE NEIGHBOUR: 'it returns false'. Refute it at one input. -/
def curveTimesWrong : ChangeSpec := { name := "curveTimes", fn := fun _ => fun
  | [d1, d2] => { results := [.lit (.bool false)], args := [d1, d2] }
  | _ => none }
def CurveTimesWrongFalsely : Prop := curveTimesRow.holds Try.pinned (OpenSpec.ofChange curveTimesWrong)

/-- 'escutcheonlaw09.CurveAdds': WHATEVER THE INPUT: true; the input reads as it did. -/
def curveAddsSpec : ChangeSpec := { name := "curveAdds", fn := fun _ => fun
  | [d1, d2] => { results := [.lit (.bool true)], args := [d1, d2] }
  | _ => none }
def curveAddsRow : OpenClaim := { program := "ytpefomdegbmecaa", sum := "d872f44479068e9f42e65094d5c4c0c1e5a0acf53c43156ac09e000a407f4a0a", func := "escutcheon/escutcheonlaw09.CurveAdds", spec := "curveAdds", inPlace := ["math/bits.Sub64", "math/bits.Add64"], apart := false }
def CurveAddsSaid : Prop := curveAddsRow.holds Try.pinned (OpenSpec.ofChange curveAddsSpec)

/-- ITS FALSE NEIGHBOUR: 'it returns false'. Refute it at one input. -/
def curveAddsWrong : ChangeSpec := { name := "curveAdds", fn := fun _ => fun
  | [d1, d2] => { results := [.lit (.bool false)], args := [d1, d2] }
  | _ => none }
def CurveAddsWrongFalsely : Prop := curveAddsRow.holds Try.pinned (OpenSpec.ofChange curveAddsWrong)

/-- 'escutcheonlaw09.CurveMinus': WHATEVER THE INPUT: true; the input reads as it did. -/
def curveMinusSpec : ChangeSpec := { name := "curveMinus", fn := fun _ => fun
  | [d1, d2] => { results := [.lit (.bool true)], args := [d1, d2] }
  | _ => none }
def curveMinusRow : OpenClaim := { program := "ytpefomdegbmecaa", sum := "d872f44479068e9f42e65094d5c4c0c1e5a0acf53c43156ac09e000a407f4a0a", func := "escutcheon/escutcheonlaw09.CurveMinus", spec := "curveMinus", inPlace := ["math/bits.Sub64", "math/bits.Add64"], apart := false }
def CurveMinusSaid : Prop := curveMinusRow.holds Try.pinned (OpenSpec.ofChange curveMinusSpec)

/-- ITS FALSE NEIGHBOUR: 'it returns false'. Refute it at one input. -/
def curveMinusWrong : ChangeSpec := { name := "curveMinus", fn := fun _ => fun
  | [d1, d2] => { results := [.lit (.bool false)], args := [d1, d2] }
  | _ => none }
def CurveMinusWrongFalsely : Prop := curveMinusRow.holds Try.pinned (OpenSpec.ofChange curveMinusWrong)

/-- 'escutcheonlaw11.DialPublics': WHATEVER THE INPUT: true; the input reads as it did. -/
def dialPublicsSpec : ChangeSpec := { name := "dialPublics", fn := fun _ => fun
  | [d] => { results := [.lit (.bool true)], args := [d] }
  | _ => none }
def dialPublicsRow : OpenClaim := { program := "ytpefomdegbmecaa", sum := "d872f44479068e9f42e65094d5c4c0c1e5a0acf53c43156ac09e000a407f4a0a", func := "escutcheon/escutcheonlaw11.DialPublics", spec := "dialPublics", inPlace := ["math/bits.Sub64", "math/bits.Add64"], apart := false }
def DialPublicsSaid : Prop := dialPublicsRow.holds Try.pinned (OpenSpec.ofChange dialPublicsSpec)

/-- ITS FALSE NEIGHBOUR: 'it returns false'. Refute it at one input. -/
def dialPublicsWrong : ChangeSpec := { name := "dialPublics", fn := fun _ => fun
  | [d] => { results := [.lit (.bool false)], args := [d] }
  | _ => none }
def DialPublicsWrongFalsely : Prop := dialPublicsRow.holds Try.pinned (OpenSpec.ofChange dialPublicsWrong)

/- THE SECOND FORM. 'bulk': how many values and letters a reading holds, each counted each time it is reached (what is shared counts as often as it is met; a slice's spare places count too). A statement '..UptoSaid' is the law's where the arguments, and the package variables that the reading takes, are together of bulk at most 1048576: NARROWER than '..Said'. Prove '..Said' where nothing that the law and all that it calls make is longer than what came in: it says more and counts as full. Else prove '..UptoSaid'. A law counts once. -/
mutual
def uptoBulk {H : Type} : DataW H → Nat
  | .lit (.string bytes) => bytes.length + 1
  | .lit _ => 1
  | .nil => 1
  | .ptr d => uptoBulk d + 1
  | .slice elems spare => uptoBulkAll elems + uptoBulkAll spare + 1
  | .agg parts => uptoBulkAll parts + 1
  | .iface _ d => uptoBulk d + 1
  | .map entries => uptoBulkEntries entries + 1
  | .held _ => 1
def uptoBulkAll {H : Type} : List (DataW H) → Nat
  | [] => 0
  | d :: r => uptoBulk d + uptoBulkAll r
def uptoBulkEntries {H : Type} : List (Lit × DataW H) → Nat
  | [] => 0
  | x :: r => uptoBulkEntry x + uptoBulkEntries r
def uptoBulkEntry {H : Type} : Lit × DataW H → Nat
  | (.string bytes, d) => bytes.length + uptoBulk d + 1
  | (_, d) => uptoBulk d + 1
 end
def uptoSmall : (H : Type) → List (DataW H) → Bool := fun _ ds => decide (uptoBulkAll ds ≤ 1048576)
def OpenSpec.upto (s : _root_.Go.ChangeSpec) : _root_.Go.OpenSpec := { _root_.Go.OpenSpec.ofChange s with cond := some uptoSmall }

/-- 'escutcheonlaw11.DialShares', WHERE WHAT IT READS IS OF BULK AT MOST 1048576: true; the input reads as it did. -/
def dialSharesUptoRow : OpenClaim := { program := "ytpefomdegbmecaa", sum := "d872f44479068e9f42e65094d5c4c0c1e5a0acf53c43156ac09e000a407f4a0a", func := "escutcheon/escutcheonlaw11.DialShares", spec := "dialShares", inPlace := ["math/bits.Sub64", "math/bits.Add64"], apart := false, narrowed := true }
def DialSharesUptoSaid : Prop := dialSharesUptoRow.holds Try.pinned (OpenSpec.upto dialSharesSpec)

/-- 'escutcheonlaw11.DialMasks', WHERE WHAT IT READS IS OF BULK AT MOST 1048576: true; the input reads as it did. -/
def dialMasksUptoRow : OpenClaim := { program := "ytpefomdegbmecaa", sum := "d872f44479068e9f42e65094d5c4c0c1e5a0acf53c43156ac09e000a407f4a0a", func := "escutcheon/escutcheonlaw11.DialMasks", spec := "dialMasks", inPlace := ["math/bits.Sub64", "math/bits.Add64"], apart := false, narrowed := true }
def DialMasksUptoSaid : Prop := dialMasksUptoRow.holds Try.pinned (OpenSpec.upto dialMasksSpec)

/-- 'escutcheonlaw09.CurveReads', WHERE WHAT IT READS IS OF BULK AT MOST 1048576: true; the input reads as it did. -/
def curveReadsUptoRow : OpenClaim := { program := "ytpefomdegbmecaa", sum := "d872f44479068e9f42e65094d5c4c0c1e5a0acf53c43156ac09e000a407f4a0a", func := "escutcheon/escutcheonlaw09.CurveReads", spec := "curveReads", inPlace := ["math/bits.Sub64", "math/bits.Add64"], apart := false, narrowed := true }
def CurveReadsUptoSaid : Prop := curveReadsUptoRow.holds Try.pinned (OpenSpec.upto curveReadsSpec)

/-- 'escutcheonlaw09.CurveTimes', WHERE WHAT IT READS IS OF BULK AT MOST 1048576: true; the input reads as it did. -/
def curveTimesUptoRow : OpenClaim := { program := "ytpefomdegbmecaa", sum := "d872f44479068e9f42e65094d5c4c0c1e5a0acf53c43156ac09e000a407f4a0a", func := "escutcheon/escutcheonlaw09.CurveTimes", spec := "curveTimes", inPlace := ["math/bits.Sub64", "math/bits.Add64"], apart := false, narrowed := true }
def CurveTimesUptoSaid : Prop := curveTimesUptoRow.holds Try.pinned (OpenSpec.upto curveTimesSpec)

/-- 'escutcheonlaw09.CurveAdds', WHERE WHAT IT READS IS OF BULK AT MOST 1048576: true; the input reads as it did. -/
def curveAddsUptoRow : OpenClaim := { program := "ytpefomdegbmecaa", sum := "d872f44479068e9f42e65094d5c4c0c1e5a0acf53c43156ac09e000a407f4a0a", func := "escutcheon/escutcheonlaw09.CurveAdds", spec := "curveAdds", inPlace := ["math/bits.Sub64", "math/bits.Add64"], apart := false, narrowed := true }
def CurveAddsUptoSaid : Prop := curveAddsUptoRow.holds Try.pinned (OpenSpec.upto curveAddsSpec)

/-- 'escutcheonlaw09.CurveMinus', WHERE WHAT IT READS IS OF BULK AT MOST 1048576: true; the input reads as it did. -/
def curveMinusUptoRow : OpenClaim := { program := "ytpefomdegbmecaa", sum := "d872f44479068e9f42e65094d5c4c0c1e5a0acf53c43156ac09e000a407f4a0a", func := "escutcheon/escutcheonlaw09.CurveMinus", spec := "curveMinus", inPlace := ["math/bits.Sub64", "math/bits.Add64"], apart := false, narrowed := true }
def CurveMinusUptoSaid : Prop := curveMinusUptoRow.holds Try.pinned (OpenSpec.upto curveMinusSpec)

/-- 'escutcheonlaw11.DialPublics', WHERE WHAT IT READS IS OF BULK AT MOST 1048576: true; the input reads as it did. -/
def dialPublicsUptoRow : OpenClaim := { program := "ytpefomdegbmecaa", sum := "d872f44479068e9f42e65094d5c4c0c1e5a0acf53c43156ac09e000a407f4a0a", func := "escutcheon/escutcheonlaw11.DialPublics", spec := "dialPublics", inPlace := ["math/bits.Sub64", "math/bits.Add64"], apart := false, narrowed := true }
def DialPublicsUptoSaid : Prop := dialPublicsUptoRow.holds Try.pinned (OpenSpec.upto dialPublicsSpec)

end Rows
end Go.Proofs.Ytpefomdegbmecaa
