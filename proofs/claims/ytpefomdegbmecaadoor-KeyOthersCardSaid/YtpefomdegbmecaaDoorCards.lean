/-
  DERIVED. GIVEN WITH THE SEED: THE CARDS: each row of YtpefomdegbmecaaDoorRows.lean that lists a variable, with what it lists TIED to the program's text (the seventh form; the later family's looks); each row that meets fmt, with fmt's text TOLD by the authors' own Lean function (tested against real Go, not proved from fmt's source: count such statements apart). THE CARD IS WHAT COUNTS. Prove the row's statement (the work); the ties are given (YtpefomdegbmecaaDoorTie.lean); close each card by the builder's one call (the guide's Derived/Test/ToyasCard.lean, 'card_holds'). Laid BY PROGRAM, IN A SANDBOX (cutbox-door.mjs). By AI agents, Wed Nov 11 2026. No macro, syntax, notation, axiom, sorry.
-/
import Derived.Test.YtpefomdegbmecaaDoorRows
import GoSem.ClaimSeven
namespace Go.Proofs.YtpefomdegbmecaaDoor
namespace Rows

/-- THE TIED CARD OF 'escutcheonlaw12.KeySame'. -/
def keySameCard : Claim7 := { stood := { row := keySameRow, standIns := [], harness := (true, "975195491f17d15546751107a51145e36a9498e49d83c49afe9df8e67039b850"), looks := false }, kinds := [], alts := [], laidByText := true, laidKinds := [.data, .data], laidTests := true, laidLooks := .later }
def KeySameCardSaid : Prop := Claim7.holds Tryd.pinned (.plain (OpenSpec.ofChange keySameSpec)) keySameCard

/-- THE TIED CARD OF 'escutcheonlaw12.KeyOthers'. -/
def keyOthersCard : Claim7 := { stood := { row := keyOthersRow, standIns := [], harness := (true, "975195491f17d15546751107a51145e36a9498e49d83c49afe9df8e67039b850"), looks := false }, kinds := [], alts := [], laidByText := true, laidKinds := [.data, .data], laidTests := true, laidLooks := .later }
def KeyOthersCardSaid : Prop := Claim7.holds Tryd.pinned (.plain (OpenSpec.ofChange keyOthersSpec)) keyOthersCard

/-- THE TIED CARD OF 'escutcheonlaw12.KeyNews'. -/
def keyNewsCard : Claim7 := { stood := { row := keyNewsRow, standIns := [], harness := (true, "975195491f17d15546751107a51145e36a9498e49d83c49afe9df8e67039b850"), looks := false }, kinds := [], alts := [], laidByText := true, laidKinds := [.data, .data], laidTests := true, laidLooks := .later }
def KeyNewsCardSaid : Prop := Claim7.holds Tryd.pinned (.plain (OpenSpec.ofChange keyNewsSpec)) keyNewsCard

/-- THE TIED CARD OF 'escutcheonlaw12.KeyAsks'. -/
def keyAsksCard : Claim7 := { stood := { row := keyAsksRow, standIns := [], harness := (true, "975195491f17d15546751107a51145e36a9498e49d83c49afe9df8e67039b850"), looks := false }, kinds := [], alts := [], laidByText := true, laidKinds := [.data, .data], laidTests := true, laidLooks := .later }
def KeyAsksCardSaid : Prop := Claim7.holds Tryd.pinned (.plain (OpenSpec.ofChange keyAsksSpec)) keyAsksCard

/-- THE TIED CARD OF 'escutcheonlaw12.KeyMakes'. -/
def keyMakesCard : Claim7 := { stood := { row := keyMakesRow, standIns := [], harness := (true, "975195491f17d15546751107a51145e36a9498e49d83c49afe9df8e67039b850"), looks := false }, kinds := [], alts := [], laidByText := true, laidKinds := [.data, .data], laidTests := true, laidLooks := .later }
def KeyMakesCardSaid : Prop := Claim7.holds Tryd.pinned (.plain (OpenSpec.ofChange keyMakesSpec)) keyMakesCard

/-- THE SECOND FORM's CARD OF 'escutcheonlaw12.KeySame'. -/
def keySameUptoCard : Claim7 := { stood := { row := keySameUptoRow, standIns := [], harness := (true, "975195491f17d15546751107a51145e36a9498e49d83c49afe9df8e67039b850"), looks := false }, kinds := [], alts := [], laidByText := true, laidKinds := [.data, .data], laidTests := true, laidLooks := .later }
def KeySameUptoCardSaid : Prop := Claim7.holds Tryd.pinned (.plain (OpenSpec.upto keySameSpec)) keySameUptoCard

/-- THE SECOND FORM's CARD OF 'escutcheonlaw12.KeyOthers'. -/
def keyOthersUptoCard : Claim7 := { stood := { row := keyOthersUptoRow, standIns := [], harness := (true, "975195491f17d15546751107a51145e36a9498e49d83c49afe9df8e67039b850"), looks := false }, kinds := [], alts := [], laidByText := true, laidKinds := [.data, .data], laidTests := true, laidLooks := .later }
def KeyOthersUptoCardSaid : Prop := Claim7.holds Tryd.pinned (.plain (OpenSpec.upto keyOthersSpec)) keyOthersUptoCard

/-- THE SECOND FORM's CARD OF 'escutcheonlaw12.KeyNews'. -/
def keyNewsUptoCard : Claim7 := { stood := { row := keyNewsUptoRow, standIns := [], harness := (true, "975195491f17d15546751107a51145e36a9498e49d83c49afe9df8e67039b850"), looks := false }, kinds := [], alts := [], laidByText := true, laidKinds := [.data, .data], laidTests := true, laidLooks := .later }
def KeyNewsUptoCardSaid : Prop := Claim7.holds Tryd.pinned (.plain (OpenSpec.upto keyNewsSpec)) keyNewsUptoCard

/-- THE SECOND FORM's CARD OF 'escutcheonlaw12.KeyAsks'. -/
def keyAsksUptoCard : Claim7 := { stood := { row := keyAsksUptoRow, standIns := [], harness := (true, "975195491f17d15546751107a51145e36a9498e49d83c49afe9df8e67039b850"), looks := false }, kinds := [], alts := [], laidByText := true, laidKinds := [.data, .data], laidTests := true, laidLooks := .later }
def KeyAsksUptoCardSaid : Prop := Claim7.holds Tryd.pinned (.plain (OpenSpec.upto keyAsksSpec)) keyAsksUptoCard

/-- THE SECOND FORM's CARD OF 'escutcheonlaw12.KeyMakes'. -/
def keyMakesUptoCard : Claim7 := { stood := { row := keyMakesUptoRow, standIns := [], harness := (true, "975195491f17d15546751107a51145e36a9498e49d83c49afe9df8e67039b850"), looks := false }, kinds := [], alts := [], laidByText := true, laidKinds := [.data, .data], laidTests := true, laidLooks := .later }
def KeyMakesUptoCardSaid : Prop := Claim7.holds Tryd.pinned (.plain (OpenSpec.upto keyMakesSpec)) keyMakesUptoCard
end Rows
end Go.Proofs.YtpefomdegbmecaaDoor
