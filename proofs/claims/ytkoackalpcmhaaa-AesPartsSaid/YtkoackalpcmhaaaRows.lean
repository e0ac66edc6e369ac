/-
  No cell of these rows narrows 'for every input' (looked for: loops, veiled, ifaces, maps, wideKeys, modest, calm, conditions, laid).
  DERIVED. THE GIVEN ROWS OF THIS SEAT. 7 by the template 'for every input the law returns true; each argument reads behind the call as it read before'; 0 by the template 'total and deterministic' (their statements: YtkoackalpcmhaaaTotals.lean).
  GIVEN WITH THE SEED: the statements are not yours to turn. If you find one false, say at which input.
  Laid BY PROGRAM, IN A SANDBOX (cutbox-rows.mjs): the forced cells as the released guide's own fill.sh prints them over the translation 479dfb5a9e50a8be… (all of the seat's roots in one cut). By AI agents, Wed Nov 11 2026. No macro, syntax, notation, axiom, sorry.
-/
import Derived.Test.YtkoackalpcmhaaaChecked
import GoSem.Claim
import GoSem.ClaimJoined
import GoSem.ClaimMapViews
import Derived.JoinedTies
import Derived.KernelRfl
namespace Go.Proofs.Ytkoackalpcmhaaa
/- THE CELL 'sum', in the pinned program and in every row, IS THE sha256 OF THE DUMP (.gsa) THAT YtkoackalpcmhaaaProg.lean LOADS. Nothing in Lean hashes anything: it is a label: what it is worth is what the hold of that sum in a sandbox is worth. -/
noncomputable def Try.pinned : Pinned := { name := "ytkoackalpcmhaaa", sum := "479dfb5a9e50a8be2012dc86c1d63a7a677b30afb895e83141274f46ad0da111", checked := Try.checked }
namespace Rows
def none {H : Type} : Left H := { results := [], args := [] }

/-- 'escutcheonlaw05.AesBlocks': WHATEVER THE INPUT: true; the input reads as it did. -/
def aesBlocksSpec : ChangeSpec := { name := "aesBlocks", fn := fun _ => fun
  | [d1, d2] => { results := [.lit (.bool true)], args := [d1, d2] }
  | _ => none }
def aesBlocksRow : OpenClaim := { program := "ytkoackalpcmhaaa", sum := "479dfb5a9e50a8be2012dc86c1d63a7a677b30afb895e83141274f46ad0da111", func := "escutcheon/escutcheonlaw05.AesBlocks", spec := "aesBlocks", apart := false }
def AesBlocksSaid : Prop := aesBlocksRow.holds Try.pinned (OpenSpec.ofChange aesBlocksSpec)

/-- ITS FALSE NEIGHBOUR: 'it returns false'. Refute it at one input. -/
def aesBlocksWrong : ChangeSpec := { name := "aesBlocks", fn := fun _ => fun
  | [d1, d2] => { results := [.lit (.bool false)], args := [d1, d2] }
  | _ => none }
def AesBlocksWrongFalsely : Prop := aesBlocksRow.holds Try.pinned (OpenSpec.ofChange aesBlocksWrong)

/-- 'escutcheonlaw05.AesNext': WHATEVER THE INPUT: true; the input reads as it did. -/
def aesNextSpec : ChangeSpec := { name := "aesNext", fn := fun _ => fun
  | [d] => { results := [.lit (.bool true)], args := [d] }
  | _ => none }
def aesNextRow : OpenClaim := { program := "ytkoackalpcmhaaa", sum := "479dfb5a9e50a8be2012dc86c1d63a7a677b30afb895e83141274f46ad0da111", func := "escutcheon/escutcheonlaw05.AesNext", spec := "aesNext", apart := false }
def AesNextSaid : Prop := aesNextRow.holds Try.pinned (OpenSpec.ofChange aesNextSpec)

/-- ITS FALSE NEIGHBOUR: 'it returns false'. Refute it at one input. -/
def aesNextWrong : ChangeSpec := { name := "aesNext", fn := fun _ => fun
  | [d] => { results := [.lit (.bool false)], args := [d] }
  | _ => none }
def AesNextWrongFalsely : Prop := aesNextRow.holds Try.pinned (OpenSpec.ofChange aesNextWrong)

/-- 'escutcheonlaw05.AesOthers': WHATEVER THE INPUT: true; the input reads as it did. -/
def aesOthersSpec : ChangeSpec := { name := "aesOthers", fn := fun _ => fun
  | [d1, d2, d3] => { results := [.lit (.bool true)], args := [d1, d2, d3] }
  | _ => none }
def aesOthersRow : OpenClaim := { program := "ytkoackalpcmhaaa", sum := "479dfb5a9e50a8be2012dc86c1d63a7a677b30afb895e83141274f46ad0da111", func := "escutcheon/escutcheonlaw05.AesOthers", spec := "aesOthers", apart := false }
def AesOthersSaid : Prop := aesOthersRow.holds Try.pinned (OpenSpec.ofChange aesOthersSpec)

/-- ITS FALSE NEIGHBOUR: 'it returns false'. Refute it at one input. -/
def aesOthersWrong : ChangeSpec := { name := "aesOthers", fn := fun _ => fun
  | [d1, d2, d3] => { results := [.lit (.bool false)], args := [d1, d2, d3] }
  | _ => none }
def AesOthersWrongFalsely : Prop := aesOthersRow.holds Try.pinned (OpenSpec.ofChange aesOthersWrong)

/-- 'escutcheonlaw05.AesSteps': WHATEVER THE INPUT: true; the input reads as it did. -/
def aesStepsSpec : ChangeSpec := { name := "aesSteps", fn := fun _ => fun
  | [d] => { results := [.lit (.bool true)], args := [d] }
  | _ => none }
def aesStepsRow : OpenClaim := { program := "ytkoackalpcmhaaa", sum := "479dfb5a9e50a8be2012dc86c1d63a7a677b30afb895e83141274f46ad0da111", func := "escutcheon/escutcheonlaw05.AesSteps", spec := "aesSteps", apart := false }
def AesStepsSaid : Prop := aesStepsRow.holds Try.pinned (OpenSpec.ofChange aesStepsSpec)

/-- ITS FALSE NEIGHBOUR: 'it returns false'. Refute it at one input. -/
def aesStepsWrong : ChangeSpec := { name := "aesSteps", fn := fun _ => fun
  | [d] => { results := [.lit (.bool false)], args := [d] }
  | _ => none }
def AesStepsWrongFalsely : Prop := aesStepsRow.holds Try.pinned (OpenSpec.ofChange aesStepsWrong)

/-- 'escutcheonlaw05.AesStreams': WHATEVER THE INPUT: true; the input reads as it did. -/
def aesStreamsSpec : ChangeSpec := { name := "aesStreams", fn := fun _ => fun
  | [d1, d2, d3] => { results := [.lit (.bool true)], args := [d1, d2, d3] }
  | _ => none }
def aesStreamsRow : OpenClaim := { program := "ytkoackalpcmhaaa", sum := "479dfb5a9e50a8be2012dc86c1d63a7a677b30afb895e83141274f46ad0da111", func := "escutcheon/escutcheonlaw05.AesStreams", spec := "aesStreams", apart := false }
def AesStreamsSaid : Prop := aesStreamsRow.holds Try.pinned (OpenSpec.ofChange aesStreamsSpec)

/-- ITS FALSE NEIGHBOUR: 'it returns false'. Refute it at one input. -/
def aesStreamsWrong : ChangeSpec := { name := "aesStreams", fn := fun _ => fun
  | [d1, d2, d3] => { results := [.lit (.bool false)], args := [d1, d2, d3] }
  | _ => none }
def AesStreamsWrongFalsely : Prop := aesStreamsRow.holds Try.pinned (OpenSpec.ofChange aesStreamsWrong)

/-- 'escutcheonlaw05.AesTurns': WHATEVER THE INPUT: true; the input reads as it did. -/
def aesTurnsSpec : ChangeSpec := { name := "aesTurns", fn := fun _ => fun
  | [d1, d2, d3] => { results := [.lit (.bool true)], args := [d1, d2, d3] }
  | _ => none }
def aesTurnsRow : OpenClaim := { program := "ytkoackalpcmhaaa", sum := "479dfb5a9e50a8be2012dc86c1d63a7a677b30afb895e83141274f46ad0da111", func := "escutcheon/escutcheonlaw05.AesTurns", spec := "aesTurns", apart := false }
def AesTurnsSaid : Prop := aesTurnsRow.holds Try.pinned (OpenSpec.ofChange aesTurnsSpec)

/-- ITS FALSE NEIGHBOUR: 'it returns false'. Refute it at one input. -/
def aesTurnsWrong : ChangeSpec := { name := "aesTurns", fn := fun _ => fun
  | [d1, d2, d3] => { results := [.lit (.bool false)], args := [d1, d2, d3] }
  | _ => none }
def AesTurnsWrongFalsely : Prop := aesTurnsRow.holds Try.pinned (OpenSpec.ofChange aesTurnsWrong)

/-- 'escutcheonlaw05.AesParts': WHATEVER THE INPUT: true; the input reads as it did. -/
def aesPartsSpec : ChangeSpec := { name := "aesParts", fn := fun _ => fun
  | [d1, d2, d3] => { results := [.lit (.bool true)], args := [d1, d2, d3] }
  | _ => none }
def aesPartsRow : OpenClaim := { program := "ytkoackalpcmhaaa", sum := "479dfb5a9e50a8be2012dc86c1d63a7a677b30afb895e83141274f46ad0da111", func := "escutcheon/escutcheonlaw05.AesParts", spec := "aesParts", apart := false }
def AesPartsSaid : Prop := aesPartsRow.holds Try.pinned (OpenSpec.ofChange aesPartsSpec)

/-- ITS FALSE NEIGHBOUR: 'it returns false'. Refute it at one input. -/
def aesPartsWrong : ChangeSpec := { name := "aesParts", fn := fun _ => fun
  | [d1, d2, d3] => { results := [.lit (.bool false)], args := [d1, d2, d3] }
  | _ => none }
def AesPartsWrongFalsely : Prop := aesPartsRow.holds Try.pinned (OpenSpec.ofChange aesPartsWrong)

/- THE SECOND FORM. 'bulk': how many values and letters a reading holds, each counted each time it is reached (what is shared counts as often as it is met; a slice's spare places count too). A statement '..UptoSaid' is the law's where the arguments, and the package variables that the reading takes, are together of bulk at most 1048576: NARROWER than '..Said'. Prove '..Said' where nothing that the law and all that it calls make is longer than what came in: it says more and counts as full. Else prove '..UptoSaid'. A law counts once. -/
mutual
def uptoBulk {H : Type} : DataW H → Nat
  | .lit (.string bytes) => bytes.length + 1
  | .lit _ => 1
  | .nil => 1
  | .ptr d => uptoBulk d + 1
  | .slice elems spare => uptoBulkAll elems + uptoBulkAll spare + 1
  | .agg parts => uptoBulkAll parts + 1
  | .iface _ d => uptoBulk d + 1
  | .map entries => uptoBulkEntries entries + 1
  | .held _ => 1
def uptoBulkAll {H : Type} : List (DataW H) → Nat
  | [] => 0
  | d :: r => uptoBulk d + uptoBulkAll r
def uptoBulkEntries {H : Type} : List (Lit × DataW H) → Nat
  | [] => 0
  | x :: r => uptoBulkEntry x + uptoBulkEntries r
def uptoBulkEntry {H : Type} : Lit × DataW H → Nat
  | (.string bytes, d) => bytes.length + uptoBulk d + 1
  | (_, d) => uptoBulk d + 1
 end
def uptoSmall : (H : Type) → List (DataW H) → Bool := fun _ ds => decide (uptoBulkAll ds ≤ 1048576)
def OpenSpec.upto (s : _root_.Go.ChangeSpec) : _root_.Go.OpenSpec := { _root_.Go.OpenSpec.ofChange s with cond := some uptoSmall }

/-- 'escutcheonlaw05.AesBlocks', WHERE WHAT IT READS IS OF BULK AT MOST 1048576: true; the input reads as it did. -/
def aesBlocksUptoRow : OpenClaim := { program := "ytkoackalpcmhaaa", sum := "479dfb5a9e50a8be2012dc86c1d63a7a677b30afb895e83141274f46ad0da111", func := "escutcheon/escutcheonlaw05.AesBlocks", spec := "aesBlocks", apart := false, narrowed := true }
def AesBlocksUptoSaid : Prop := aesBlocksUptoRow.holds Try.pinned (OpenSpec.upto aesBlocksSpec)

/-- 'escutcheonlaw05.AesNext', WHERE WHAT IT READS IS OF BULK AT MOST 1048576: true; the input reads as it did. -/
def aesNextUptoRow : OpenClaim := { program := "ytkoackalpcmhaaa", sum := "479dfb5a9e50a8be2012dc86c1d63a7a677b30afb895e83141274f46ad0da111", func := "escutcheon/escutcheonlaw05.AesNext", spec := "aesNext", apart := false, narrowed := true }
def AesNextUptoSaid : Prop := aesNextUptoRow.holds Try.pinned (OpenSpec.upto aesNextSpec)

/-- 'escutcheonlaw05.AesOthers', WHERE WHAT IT READS IS OF BULK AT MOST 1048576: true; the input reads as it did. -/
def aesOthersUptoRow : OpenClaim := { program := "ytkoackalpcmhaaa", sum := "479dfb5a9e50a8be2012dc86c1d63a7a677b30afb895e83141274f46ad0da111", func := "escutcheon/escutcheonlaw05.AesOthers", spec := "aesOthers", apart := false, narrowed := true }
def AesOthersUptoSaid : Prop := aesOthersUptoRow.holds Try.pinned (OpenSpec.upto aesOthersSpec)

/-- 'escutcheonlaw05.AesSteps', WHERE WHAT IT READS IS OF BULK AT MOST 1048576: true; the input reads as it did. -/
def aesStepsUptoRow : OpenClaim := { program := "ytkoackalpcmhaaa", sum := "479dfb5a9e50a8be2012dc86c1d63a7a677b30afb895e83141274f46ad0da111", func := "escutcheon/escutcheonlaw05.AesSteps", spec := "aesSteps", apart := false, narrowed := true }
def AesStepsUptoSaid : Prop := aesStepsUptoRow.holds Try.pinned (OpenSpec.upto aesStepsSpec)

/-- 'escutcheonlaw05.AesStreams', WHERE WHAT IT READS IS OF BULK AT MOST 1048576: true; the input reads as it did. -/
def aesStreamsUptoRow : OpenClaim := { program := "ytkoackalpcmhaaa", sum := "479dfb5a9e50a8be2012dc86c1d63a7a677b30afb895e83141274f46ad0da111", func := "escutcheon/escutcheonlaw05.AesStreams", spec := "aesStreams", apart := false, narrowed := true }
def AesStreamsUptoSaid : Prop := aesStreamsUptoRow.holds Try.pinned (OpenSpec.upto aesStreamsSpec)

/-- 'escutcheonlaw05.AesTurns', WHERE WHAT IT READS IS OF BULK AT MOST 1048576: true; the input reads as it did. -/
def aesTurnsUptoRow : OpenClaim := { program := "ytkoackalpcmhaaa", sum := "479dfb5a9e50a8be2012dc86c1d63a7a677b30afb895e83141274f46ad0da111", func := "escutcheon/escutcheonlaw05.AesTurns", spec := "aesTurns", apart := false, narrowed := true }
def AesTurnsUptoSaid : Prop := aesTurnsUptoRow.holds Try.pinned (OpenSpec.upto aesTurnsSpec)

/-- 'escutcheonlaw05.AesParts', WHERE WHAT IT READS IS OF BULK AT MOST 1048576: true; the input reads as it did. -/
def aesPartsUptoRow : OpenClaim := { program := "ytkoackalpcmhaaa", sum := "479dfb5a9e50a8be2012dc86c1d63a7a677b30afb895e83141274f46ad0da111", func := "escutcheon/escutcheonlaw05.AesParts", spec := "aesParts", apart := false, narrowed := true }
def AesPartsUptoSaid : Prop := aesPartsUptoRow.holds Try.pinned (OpenSpec.upto aesPartsSpec)

end Rows
end Go.Proofs.Ytkoackalpcmhaaa
