/-
  No cell of these rows narrows 'for every input' (looked for: loops, veiled, ifaces, maps, wideKeys, modest, calm, conditions, laid).
  DERIVED. THE GIVEN ROWS OF THIS SEAT. 10 by the template 'for every input the law returns true; each argument reads behind the call as it read before'; 0 by the template 'total and deterministic' (their statements: YtldnjbpcdojffaaTotals.lean).
  GIVEN WITH THE SEED: the statements are not yours to turn. If you find one false, say at which input.
  Laid BY PROGRAM, IN A SANDBOX (cutbox-rows.mjs): the forced cells as the released guide's own fill.sh prints them over the translation 2e0a96d282933a18… (all of the seat's roots in one cut). By AI agents, Wed Nov 11 2026. No macro, syntax, notation, axiom, sorry.
-/
import Derived.Test.YtldnjbpcdojffaaChecked
import GoSem.Claim
import GoSem.ClaimJoined
import GoSem.ClaimMapViews
import Derived.JoinedTies
import Derived.KernelRfl
namespace Go.Proofs.Ytldnjbpcdojffaa
/- THE CELL 'sum', in the pinned program and in every row, IS THE sha256 OF THE DUMP (.gsa) THAT YtldnjbpcdojffaaProg.lean LOADS. Nothing in Lean hashes anything: it is a label: what it is worth is what the hold of that sum in a sandbox is worth. -/
noncomputable def Try.pinned : Pinned := { name := "ytldnjbpcdojffaa", sum := "2e0a96d282933a18c51c9efa9287977eedf98770eab2d5c4fa402d57ecdf3680", checked := Try.checked }
namespace Rows
def none {H : Type} : Left H := { results := [], args := [] }

/-- 'escutcheonlaw08.ResidueBytes': WHATEVER THE INPUT: true; the input reads as it did. -/
def residueBytesSpec : ChangeSpec := { name := "residueBytes", fn := fun _ => fun
  | [d1, d2, d3] => { results := [.lit (.bool true)], args := [d1, d2, d3] }
  | _ => none }
def residueBytesRow : OpenClaim := { program := "ytldnjbpcdojffaa", sum := "2e0a96d282933a18c51c9efa9287977eedf98770eab2d5c4fa402d57ecdf3680", func := "escutcheon/escutcheonlaw08.ResidueBytes", spec := "residueBytes", inPlace := ["math/bits.Sub64", "math/bits.Add64"], apart := false }
def ResidueBytesSaid : Prop := residueBytesRow.holds Try.pinned (OpenSpec.ofChange residueBytesSpec)

/-- ITS FALSE NEIGHBOUR: 'it returns false'. Refute it at one input. -/
def residueBytesWrong : ChangeSpec := { name := "residueBytes", fn := fun _ => fun
  | [d1, d2, d3] => { results := [.lit (.bool false)], args := [d1, d2, d3] }
  | _ => none }
def ResidueBytesWrongFalsely : Prop := residueBytesRow.holds Try.pinned (OpenSpec.ofChange residueBytesWrong)

/-- 'escutcheonlaw08.ResidueRows': WHATEVER THE INPUT: true; the input reads as it did. -/
def residueRowsSpec : ChangeSpec := { name := "residueRows", fn := fun _ => fun
  | [d1, d2, d3] => { results := [.lit (.bool true)], args := [d1, d2, d3] }
  | _ => none }
def residueRowsRow : OpenClaim := { program := "ytldnjbpcdojffaa", sum := "2e0a96d282933a18c51c9efa9287977eedf98770eab2d5c4fa402d57ecdf3680", func := "escutcheon/escutcheonlaw08.ResidueRows", spec := "residueRows", inPlace := ["math/bits.Sub64", "math/bits.Add64"], apart := false }
def ResidueRowsSaid : Prop := residueRowsRow.holds Try.pinned (OpenSpec.ofChange residueRowsSpec)

/-- ITS FALSE NEIGHBOUR: 'it returns false'. Refute it at one input. -/
def residueRowsWrong : ChangeSpec := { name := "residueRows", fn := fun _ => fun
  | [d1, d2, d3] => { results := [.lit (.bool false)], args := [d1, d2, d3] }
  | _ => none }
def ResidueRowsWrongFalsely : Prop := residueRowsRow.holds Try.pinned (OpenSpec.ofChange residueRowsWrong)

/-- 'escutcheonlaw08.ResidueLaws': WHATEVER THE INPUT: true; the input reads as it did. -/
def residueLawsSpec : ChangeSpec := { name := "residueLaws", fn := fun _ => fun
  | [d1, d2, d3] => { results := [.lit (.bool true)], args := [d1, d2, d3] }
  | _ => none }
def residueLawsRow : OpenClaim := { program := "ytldnjbpcdojffaa", sum := "2e0a96d282933a18c51c9efa9287977eedf98770eab2d5c4fa402d57ecdf3680", func := "escutcheon/escutcheonlaw08.ResidueLaws", spec := "residueLaws", inPlace := ["math/bits.Sub64", "math/bits.Add64"], apart := false }
def ResidueLawsSaid : Prop := residueLawsRow.holds Try.pinned (OpenSpec.ofChange residueLawsSpec)

/-- ITS FALSE NEIGHBOUR: 'it returns false'. Refute it at one input. -/
def residueLawsWrong : ChangeSpec := { name := "residueLaws", fn := fun _ => fun
  | [d1, d2, d3] => { results := [.lit (.bool false)], args := [d1, d2, d3] }
  | _ => none }
def ResidueLawsWrongFalsely : Prop := residueLawsRow.holds Try.pinned (OpenSpec.ofChange residueLawsWrong)

/-- 'escutcheonlaw08.ResidueAdds': WHATEVER THE INPUT: true; the input reads as it did. -/
def residueAddsSpec : ChangeSpec := { name := "residueAdds", fn := fun _ => fun
  | [d1, d2, d3] => { results := [.lit (.bool true)], args := [d1, d2, d3] }
  | _ => none }
def residueAddsRow : OpenClaim := { program := "ytldnjbpcdojffaa", sum := "2e0a96d282933a18c51c9efa9287977eedf98770eab2d5c4fa402d57ecdf3680", func := "escutcheon/escutcheonlaw08.ResidueAdds", spec := "residueAdds", inPlace := ["math/bits.Sub64", "math/bits.Add64"], apart := false }
def ResidueAddsSaid : Prop := residueAddsRow.holds Try.pinned (OpenSpec.ofChange residueAddsSpec)

/-- ITS FALSE NEIGHBOUR: 'it returns false'. Refute it at one input. -/
def residueAddsWrong : ChangeSpec := { name := "residueAdds", fn := fun _ => fun
  | [d1, d2, d3] => { results := [.lit (.bool false)], args := [d1, d2, d3] }
  | _ => none }
def ResidueAddsWrongFalsely : Prop := residueAddsRow.holds Try.pinned (OpenSpec.ofChange residueAddsWrong)

/-- 'escutcheonlaw08.ResidueFermat': WHATEVER THE INPUT: true; the input reads as it did. -/
def residueFermatSpec : ChangeSpec := { name := "residueFermat", fn := fun _ => fun
  | [d1, d2, d3] => { results := [.lit (.bool true)], args := [d1, d2, d3] }
  | _ => none }
def residueFermatRow : OpenClaim := { program := "ytldnjbpcdojffaa", sum := "2e0a96d282933a18c51c9efa9287977eedf98770eab2d5c4fa402d57ecdf3680", func := "escutcheon/escutcheonlaw08.ResidueFermat", spec := "residueFermat", inPlace := ["math/bits.Sub64", "math/bits.Add64"], apart := false }
def ResidueFermatSaid : Prop := residueFermatRow.holds Try.pinned (OpenSpec.ofChange residueFermatSpec)

/-- ITS FALSE NEIGHBOUR: 'it returns false'. Refute it at one input. -/
def residueFermatWrong : ChangeSpec := { name := "residueFermat", fn := fun _ => fun
  | [d1, d2, d3] => { results := [.lit (.bool false)], args := [d1, d2, d3] }
  | _ => none }
def ResidueFermatWrongFalsely : Prop := residueFermatRow.holds Try.pinned (OpenSpec.ofChange residueFermatWrong)

/-- 'escutcheonlaw08.ResiduePowers': WHATEVER THE INPUT: true; the input reads as it did. -/
def residuePowersSpec : ChangeSpec := { name := "residuePowers", fn := fun _ => fun
  | [d1, d2] => { results := [.lit (.bool true)], args := [d1, d2] }
  | _ => none }
def residuePowersRow : OpenClaim := { program := "ytldnjbpcdojffaa", sum := "2e0a96d282933a18c51c9efa9287977eedf98770eab2d5c4fa402d57ecdf3680", func := "escutcheon/escutcheonlaw08.ResiduePowers", spec := "residuePowers", inPlace := ["math/bits.Sub64", "math/bits.Add64"], apart := false }
def ResiduePowersSaid : Prop := residuePowersRow.holds Try.pinned (OpenSpec.ofChange residuePowersSpec)

/-- ITS FALSE NEIGHBOUR: 'it returns false'. Refute it at one input. -/
def residuePowersWrong : ChangeSpec := { name := "residuePowers", fn := fun _ => fun
  | [d1, d2] => { results := [.lit (.bool false)], args := [d1, d2] }
  | _ => none }
def ResiduePowersWrongFalsely : Prop := residuePowersRow.holds Try.pinned (OpenSpec.ofChange residuePowersWrong)

/-- 'escutcheonlaw08.ResidueRoots': WHATEVER THE INPUT: true; the input reads as it did. -/
def residueRootsSpec : ChangeSpec := { name := "residueRoots", fn := fun _ => fun
  | [d] => { results := [.lit (.bool true)], args := [d] }
  | _ => none }
def residueRootsRow : OpenClaim := { program := "ytldnjbpcdojffaa", sum := "2e0a96d282933a18c51c9efa9287977eedf98770eab2d5c4fa402d57ecdf3680", func := "escutcheon/escutcheonlaw08.ResidueRoots", spec := "residueRoots", inPlace := ["math/bits.Sub64", "math/bits.Add64"], apart := false }
def ResidueRootsSaid : Prop := residueRootsRow.holds Try.pinned (OpenSpec.ofChange residueRootsSpec)

/-- ITS FALSE NEIGHBOUR: 'it returns false'. Refute it at one input. -/
def residueRootsWrong : ChangeSpec := { name := "residueRoots", fn := fun _ => fun
  | [d] => { results := [.lit (.bool false)], args := [d] }
  | _ => none }
def ResidueRootsWrongFalsely : Prop := residueRootsRow.holds Try.pinned (OpenSpec.ofChange residueRootsWrong)

/-- 'escutcheonlaw08.ResidueSquares': WHATEVER THE INPUT: true; the input reads as it did. -/
def residueSquaresSpec : ChangeSpec := { name := "residueSquares", fn := fun _ => fun
  | [d1, d2] => { results := [.lit (.bool true)], args := [d1, d2] }
  | _ => none }
def residueSquaresRow : OpenClaim := { program := "ytldnjbpcdojffaa", sum := "2e0a96d282933a18c51c9efa9287977eedf98770eab2d5c4fa402d57ecdf3680", func := "escutcheon/escutcheonlaw08.ResidueSquares", spec := "residueSquares", inPlace := ["math/bits.Sub64", "math/bits.Add64"], apart := false }
def ResidueSquaresSaid : Prop := residueSquaresRow.holds Try.pinned (OpenSpec.ofChange residueSquaresSpec)

/-- ITS FALSE NEIGHBOUR: 'it returns false'. Refute it at one input. -/
def residueSquaresWrong : ChangeSpec := { name := "residueSquares", fn := fun _ => fun
  | [d1, d2] => { results := [.lit (.bool false)], args := [d1, d2] }
  | _ => none }
def ResidueSquaresWrongFalsely : Prop := residueSquaresRow.holds Try.pinned (OpenSpec.ofChange residueSquaresWrong)

/-- 'escutcheonlaw08.ResidueScalars': WHATEVER THE INPUT: true; the input reads as it did. -/
def residueScalarsSpec : ChangeSpec := { name := "residueScalars", fn := fun _ => fun
  | [d1, d2, d3] => { results := [.lit (.bool true)], args := [d1, d2, d3] }
  | _ => none }
def residueScalarsRow : OpenClaim := { program := "ytldnjbpcdojffaa", sum := "2e0a96d282933a18c51c9efa9287977eedf98770eab2d5c4fa402d57ecdf3680", func := "escutcheon/escutcheonlaw08.ResidueScalars", spec := "residueScalars", inPlace := ["math/bits.Sub64", "math/bits.Add64"], unfollowed := true, recurses := true, apart := false }
def ResidueScalarsSaid : Prop := residueScalarsRow.holds Try.pinned (OpenSpec.ofChange residueScalarsSpec)

/-- ITS FALSE NEIGHBOUR: 'it returns false'. Refute it at one input. -/
def residueScalarsWrong : ChangeSpec := { name := "residueScalars", fn := fun _ => fun
  | [d1, d2, d3] => { results := [.lit (.bool false)], args := [d1, d2, d3] }
  | _ => none }
def ResidueScalarsWrongFalsely : Prop := residueScalarsRow.holds Try.pinned (OpenSpec.ofChange residueScalarsWrong)

/-- 'escutcheonlaw08.ResidueOrders': WHATEVER THE INPUT: true; the input reads as it did. -/
def residueOrdersSpec : ChangeSpec := { name := "residueOrders", fn := fun _ => fun
  | [d1, d2, d3] => { results := [.lit (.bool true)], args := [d1, d2, d3] }
  | _ => none }
def residueOrdersRow : OpenClaim := { program := "ytldnjbpcdojffaa", sum := "2e0a96d282933a18c51c9efa9287977eedf98770eab2d5c4fa402d57ecdf3680", func := "escutcheon/escutcheonlaw08.ResidueOrders", spec := "residueOrders", inPlace := ["math/bits.Sub64", "math/bits.Add64"], unfollowed := true, recurses := true, apart := false }
def ResidueOrdersSaid : Prop := residueOrdersRow.holds Try.pinned (OpenSpec.ofChange residueOrdersSpec)

/-- ITS FALSE NEIGHBOUR: 'it returns false'. Refute it at one input. -/
def residueOrdersWrong : ChangeSpec := { name := "residueOrders", fn := fun _ => fun
  | [d1, d2, d3] => { results := [.lit (.bool false)], args := [d1, d2, d3] }
  | _ => none }
def ResidueOrdersWrongFalsely : Prop := residueOrdersRow.holds Try.pinned (OpenSpec.ofChange residueOrdersWrong)

/- THE SECOND FORM. 'bulk': how many values and letters a reading holds, each counted each time it is reached (what is shared counts as often as it is met; a slice's spare places count too). A statement '..UptoSaid' is the law's where the arguments, and the package variables that the reading takes, are together of bulk at most 1048576: NARROWER than '..Said'. Prove '..Said' where nothing that the law and all that it calls make is longer than what came in: it says more and counts as full. Else prove '..UptoSaid'. A law counts once. -/
mutual
def uptoBulk {H : Type} : DataW H → Nat
  | .lit (.string bytes) => bytes.length + 1
  | .lit _ => 1
  | .nil => 1
  | .ptr d => uptoBulk d + 1
  | .slice elems spare => uptoBulkAll elems + uptoBulkAll spare + 1
  | .agg parts => uptoBulkAll parts + 1
  | .iface _ d => uptoBulk d + 1
  | .map entries => uptoBulkEntries entries + 1
  | .held _ => 1
def uptoBulkAll {H : Type} : List (DataW H) → Nat
  | [] => 0
  | d :: r => uptoBulk d + uptoBulkAll r
def uptoBulkEntries {H : Type} : List (Lit × DataW H) → Nat
  | [] => 0
  | x :: r => uptoBulkEntry x + uptoBulkEntries r
def uptoBulkEntry {H : Type} : Lit × DataW H → Nat
  | (.string bytes, d) => bytes.length + uptoBulk d + 1
  | (_, d) => uptoBulk d + 1
 end
def uptoSmall : (H : Type) → List (DataW H) → Bool := fun _ ds => decide (uptoBulkAll ds ≤ 1048576)
def OpenSpec.upto (s : _root_.Go.ChangeSpec) : _root_.Go.OpenSpec := { _root_.Go.OpenSpec.ofChange s with cond := some uptoSmall }

/-- 'escutcheonlaw08.ResidueBytes', WHERE WHAT IT READS IS OF BULK AT MOST 1048576: true; the input reads as it did. -/
def residueBytesUptoRow : OpenClaim := { program := "ytldnjbpcdojffaa", sum := "2e0a96d282933a18c51c9efa9287977eedf98770eab2d5c4fa402d57ecdf3680", func := "escutcheon/escutcheonlaw08.ResidueBytes", spec := "residueBytes", inPlace := ["math/bits.Sub64", "math/bits.Add64"], apart := false, narrowed := true }
def ResidueBytesUptoSaid : Prop := residueBytesUptoRow.holds Try.pinned (OpenSpec.upto residueBytesSpec)

/-- 'escutcheonlaw08.ResidueRows', WHERE WHAT IT READS IS OF BULK AT MOST 1048576: true; the input reads as it did. -/
def residueRowsUptoRow : OpenClaim := { program := "ytldnjbpcdojffaa", sum := "2e0a96d282933a18c51c9efa9287977eedf98770eab2d5c4fa402d57ecdf3680", func := "escutcheon/escutcheonlaw08.ResidueRows", spec := "residueRows", inPlace := ["math/bits.Sub64", "math/bits.Add64"], apart := false, narrowed := true }
def ResidueRowsUptoSaid : Prop := residueRowsUptoRow.holds Try.pinned (OpenSpec.upto residueRowsSpec)

/-- 'escutcheonlaw08.ResidueLaws', WHERE WHAT IT READS IS OF BULK AT MOST 1048576: true; the input reads as it did. -/
def residueLawsUptoRow : OpenClaim := { program := "ytldnjbpcdojffaa", sum := "2e0a96d282933a18c51c9efa9287977eedf98770eab2d5c4fa402d57ecdf3680", func := "escutcheon/escutcheonlaw08.ResidueLaws", spec := "residueLaws", inPlace := ["math/bits.Sub64", "math/bits.Add64"], apart := false, narrowed := true }
def ResidueLawsUptoSaid : Prop := residueLawsUptoRow.holds Try.pinned (OpenSpec.upto residueLawsSpec)

/-- 'escutcheonlaw08.ResidueAdds', WHERE WHAT IT READS IS OF BULK AT MOST 1048576: true; the input reads as it did. -/
def residueAddsUptoRow : OpenClaim := { program := "ytldnjbpcdojffaa", sum := "2e0a96d282933a18c51c9efa9287977eedf98770eab2d5c4fa402d57ecdf3680", func := "escutcheon/escutcheonlaw08.ResidueAdds", spec := "residueAdds", inPlace := ["math/bits.Sub64", "math/bits.Add64"], apart := false, narrowed := true }
def ResidueAddsUptoSaid : Prop := residueAddsUptoRow.holds Try.pinned (OpenSpec.upto residueAddsSpec)

/-- 'escutcheonlaw08.ResidueFermat', WHERE WHAT IT READS IS OF BULK AT MOST 1048576: true; the input reads as it did. -/
def residueFermatUptoRow : OpenClaim := { program := "ytldnjbpcdojffaa", sum := "2e0a96d282933a18c51c9efa9287977eedf98770eab2d5c4fa402d57ecdf3680", func := "escutcheon/escutcheonlaw08.ResidueFermat", spec := "residueFermat", inPlace := ["math/bits.Sub64", "math/bits.Add64"], apart := false, narrowed := true }
def ResidueFermatUptoSaid : Prop := residueFermatUptoRow.holds Try.pinned (OpenSpec.upto residueFermatSpec)

/-- 'escutcheonlaw08.ResiduePowers', WHERE WHAT IT READS IS OF BULK AT MOST 1048576: true; the input reads as it did. -/
def residuePowersUptoRow : OpenClaim := { program := "ytldnjbpcdojffaa", sum := "2e0a96d282933a18c51c9efa9287977eedf98770eab2d5c4fa402d57ecdf3680", func := "escutcheon/escutcheonlaw08.ResiduePowers", spec := "residuePowers", inPlace := ["math/bits.Sub64", "math/bits.Add64"], apart := false, narrowed := true }
def ResiduePowersUptoSaid : Prop := residuePowersUptoRow.holds Try.pinned (OpenSpec.upto residuePowersSpec)

/-- 'escutcheonlaw08.ResidueRoots', WHERE WHAT IT READS IS OF BULK AT MOST 1048576: true; the input reads as it did. -/
def residueRootsUptoRow : OpenClaim := { program := "ytldnjbpcdojffaa", sum := "2e0a96d282933a18c51c9efa9287977eedf98770eab2d5c4fa402d57ecdf3680", func := "escutcheon/escutcheonlaw08.ResidueRoots", spec := "residueRoots", inPlace := ["math/bits.Sub64", "math/bits.Add64"], apart := false, narrowed := true }
def ResidueRootsUptoSaid : Prop := residueRootsUptoRow.holds Try.pinned (OpenSpec.upto residueRootsSpec)

/-- 'escutcheonlaw08.ResidueSquares', WHERE WHAT IT READS IS OF BULK AT MOST 1048576: true; the input reads as it did. -/
def residueSquaresUptoRow : OpenClaim := { program := "ytldnjbpcdojffaa", sum := "2e0a96d282933a18c51c9efa9287977eedf98770eab2d5c4fa402d57ecdf3680", func := "escutcheon/escutcheonlaw08.ResidueSquares", spec := "residueSquares", inPlace := ["math/bits.Sub64", "math/bits.Add64"], apart := false, narrowed := true }
def ResidueSquaresUptoSaid : Prop := residueSquaresUptoRow.holds Try.pinned (OpenSpec.upto residueSquaresSpec)

/-- 'escutcheonlaw08.ResidueScalars', WHERE WHAT IT READS IS OF BULK AT MOST 1048576: true; the input reads as it did. -/
def residueScalarsUptoRow : OpenClaim := { program := "ytldnjbpcdojffaa", sum := "2e0a96d282933a18c51c9efa9287977eedf98770eab2d5c4fa402d57ecdf3680", func := "escutcheon/escutcheonlaw08.ResidueScalars", spec := "residueScalars", inPlace := ["math/bits.Sub64", "math/bits.Add64"], unfollowed := true, recurses := true, apart := false, narrowed := true }
def ResidueScalarsUptoSaid : Prop := residueScalarsUptoRow.holds Try.pinned (OpenSpec.upto residueScalarsSpec)

/-- 'escutcheonlaw08.ResidueOrders', WHERE WHAT IT READS IS OF BULK AT MOST 1048576: true; the input reads as it did. -/
def residueOrdersUptoRow : OpenClaim := { program := "ytldnjbpcdojffaa", sum := "2e0a96d282933a18c51c9efa9287977eedf98770eab2d5c4fa402d57ecdf3680", func := "escutcheon/escutcheonlaw08.ResidueOrders", spec := "residueOrders", inPlace := ["math/bits.Sub64", "math/bits.Add64"], unfollowed := true, recurses := true, apart := false, narrowed := true }
def ResidueOrdersUptoSaid : Prop := residueOrdersUptoRow.holds Try.pinned (OpenSpec.upto residueOrdersSpec)

end Rows
end Go.Proofs.Ytldnjbpcdojffaa
