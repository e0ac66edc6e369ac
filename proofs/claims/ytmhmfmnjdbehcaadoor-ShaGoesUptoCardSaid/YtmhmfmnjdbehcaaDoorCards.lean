/-
  DERIVED. GIVEN WITH THE SEED: THE CARDS: each row of YtmhmfmnjdbehcaaDoorRows.lean that lists a variable, with what it lists TIED to the program's text (the seventh form; the later family's looks); each row that meets fmt, with fmt's text TOLD by the authors' own Lean function (tested against real Go, not proved from fmt's source: count such statements apart). THE CARD IS WHAT COUNTS. Prove the row's statement (the work); the ties are given (YtmhmfmnjdbehcaaDoorTie.lean); close each card by the builder's one call (the guide's Derived/Test/ToyasCard.lean, 'card_holds'). Laid BY PROGRAM, IN A SANDBOX (cutbox-door.mjs). By AI agents, Wed Nov 11 2026. No macro, syntax, notation, axiom, sorry.
-/
import Derived.Test.YtmhmfmnjdbehcaaDoorRows
import GoSem.ClaimSeven
namespace Go.Proofs.YtmhmfmnjdbehcaaDoor
namespace Rows

/-- THE TIED CARD OF 'escutcheonlaw02.ShaGoes'. -/
def shaGoesCard : Claim7 := { stood := { row := shaGoesRow, standIns := [], harness := (true, "4bec40770b00531cbd6566078cc4075eed0ae71fcee9f988c3076b2edf3ecb79"), looks := false }, kinds := [], alts := [], laidByText := true, laidKinds := [.data, .data, .data], laidTests := true, laidLooks := .later }
def ShaGoesCardSaid : Prop := Claim7.holds Tryd.pinned (.plain (OpenSpec.ofChange shaGoesSpec)) shaGoesCard

/-- THE TIED CARD OF 'escutcheonlaw02.ShaAgain'. -/
def shaAgainCard : Claim7 := { stood := { row := shaAgainRow, standIns := [], harness := (true, "4bec40770b00531cbd6566078cc4075eed0ae71fcee9f988c3076b2edf3ecb79"), looks := false }, kinds := [], alts := [], laidByText := true, laidKinds := [.data, .data, .data], laidTests := true, laidLooks := .later }
def ShaAgainCardSaid : Prop := Claim7.holds Tryd.pinned (.plain (OpenSpec.ofChange shaAgainSpec)) shaAgainCard

/-- THE TIED CARD OF 'escutcheonlaw02.ShaLongs'. -/
def shaLongsCard : Claim7 := { stood := { row := shaLongsRow, standIns := [], harness := (true, "4bec40770b00531cbd6566078cc4075eed0ae71fcee9f988c3076b2edf3ecb79"), looks := false }, kinds := [], alts := [], laidByText := true, laidKinds := [.data, .data], laidTests := true, laidLooks := .later }
def ShaLongsCardSaid : Prop := Claim7.holds Tryd.pinned (.plain (OpenSpec.ofChange shaLongsSpec)) shaLongsCard

/-- THE TIED CARD OF 'escutcheonlaw02.ShaShorts'. -/
def shaShortsCard : Claim7 := { stood := { row := shaShortsRow, standIns := [], harness := (true, "4bec40770b00531cbd6566078cc4075eed0ae71fcee9f988c3076b2edf3ecb79"), looks := false }, kinds := [], alts := [], laidByText := true, laidKinds := [.data, .data, .data], laidTests := true, laidLooks := .later }
def ShaShortsCardSaid : Prop := Claim7.holds Tryd.pinned (.plain (OpenSpec.ofChange shaShortsSpec)) shaShortsCard

/-- THE TIED CARD OF 'escutcheonlaw02.ShaEdges'. -/
def shaEdgesCard : Claim7 := { stood := { row := shaEdgesRow, standIns := [], harness := (true, "4bec40770b00531cbd6566078cc4075eed0ae71fcee9f988c3076b2edf3ecb79"), looks := false }, kinds := [], alts := [], laidByText := true, laidKinds := [.data, .data, .data], laidTests := true, laidLooks := .later }
def ShaEdgesCardSaid : Prop := Claim7.holds Tryd.pinned (.plain (OpenSpec.ofChange shaEdgesSpec)) shaEdgesCard

/-- THE TIED CARD OF 'escutcheonlaw03.MacExpands'. -/
def macExpandsCard : Claim7 := { stood := { row := macExpandsRow, standIns := [], harness := (true, "4bec40770b00531cbd6566078cc4075eed0ae71fcee9f988c3076b2edf3ecb79"), looks := false }, kinds := [], alts := [], laidByText := true, laidKinds := [.data, .data], laidTests := true, laidLooks := .later }
def MacExpandsCardSaid : Prop := Claim7.holds Tryd.pinned (.plain (OpenSpec.ofChange macExpandsSpec)) macExpandsCard

/-- THE TIED CARD OF 'escutcheonlaw03.MacKeys'. -/
def macKeysCard : Claim7 := { stood := { row := macKeysRow, standIns := [], harness := (true, "4bec40770b00531cbd6566078cc4075eed0ae71fcee9f988c3076b2edf3ecb79"), looks := false }, kinds := [], alts := [], laidByText := true, laidKinds := [.data, .data], laidTests := true, laidLooks := .later }
def MacKeysCardSaid : Prop := Claim7.holds Tryd.pinned (.plain (OpenSpec.ofChange macKeysSpec)) macKeysCard

/-- THE TIED CARD OF 'escutcheonlaw03.MacSums'. -/
def macSumsCard : Claim7 := { stood := { row := macSumsRow, standIns := [], harness := (true, "4bec40770b00531cbd6566078cc4075eed0ae71fcee9f988c3076b2edf3ecb79"), looks := false }, kinds := [], alts := [], laidByText := true, laidKinds := [.data, .data], laidTests := true, laidLooks := .later }
def MacSumsCardSaid : Prop := Claim7.holds Tryd.pinned (.plain (OpenSpec.ofChange macSumsSpec)) macSumsCard

/-- THE TIED CARD OF 'escutcheonlaw03.MacShorts'. -/
def macShortsCard : Claim7 := { stood := { row := macShortsRow, standIns := [], harness := (true, "4bec40770b00531cbd6566078cc4075eed0ae71fcee9f988c3076b2edf3ecb79"), looks := false }, kinds := [], alts := [], laidByText := true, laidKinds := [.data, .data], laidTests := true, laidLooks := .later }
def MacShortsCardSaid : Prop := Claim7.holds Tryd.pinned (.plain (OpenSpec.ofChange macShortsSpec)) macShortsCard

/-- THE TIED CARD OF 'escutcheonlaw03.MacStretches'. -/
def macStretchesCard : Claim7 := { stood := { row := macStretchesRow, standIns := [], harness := (true, "4bec40770b00531cbd6566078cc4075eed0ae71fcee9f988c3076b2edf3ecb79"), looks := false }, kinds := [], alts := [], laidByText := true, laidKinds := [.data, .data], laidTests := true, laidLooks := .later }
def MacStretchesCardSaid : Prop := Claim7.holds Tryd.pinned (.plain (OpenSpec.ofChange macStretchesSpec)) macStretchesCard

/-- THE TIED CARD OF 'escutcheonlaw03.MacFirst'. -/
def macFirstCard : Claim7 := { stood := { row := macFirstRow, standIns := [], harness := (true, "4bec40770b00531cbd6566078cc4075eed0ae71fcee9f988c3076b2edf3ecb79"), looks := false }, kinds := [], alts := [], laidByText := true, laidKinds := [.data, .data], laidTests := true, laidLooks := .later }
def MacFirstCardSaid : Prop := Claim7.holds Tryd.pinned (.plain (OpenSpec.ofChange macFirstSpec)) macFirstCard

/-- THE TIED CARD OF 'escutcheonlaw03.MacOnce'. -/
def macOnceCard : Claim7 := { stood := { row := macOnceRow, standIns := [], harness := (true, "4bec40770b00531cbd6566078cc4075eed0ae71fcee9f988c3076b2edf3ecb79"), looks := false }, kinds := [], alts := [], laidByText := true, laidKinds := [.data, .data], laidTests := true, laidLooks := .later }
def MacOnceCardSaid : Prop := Claim7.holds Tryd.pinned (.plain (OpenSpec.ofChange macOnceSpec)) macOnceCard

/-- THE SECOND FORM's CARD OF 'escutcheonlaw02.ShaGoes'. -/
def shaGoesUptoCard : Claim7 := { stood := { row := shaGoesUptoRow, standIns := [], harness := (true, "4bec40770b00531cbd6566078cc4075eed0ae71fcee9f988c3076b2edf3ecb79"), looks := false }, kinds := [], alts := [], laidByText := true, laidKinds := [.data, .data, .data], laidTests := true, laidLooks := .later }
def ShaGoesUptoCardSaid : Prop := Claim7.holds Tryd.pinned (.plain (OpenSpec.upto shaGoesSpec)) shaGoesUptoCard

/-- THE SECOND FORM's CARD OF 'escutcheonlaw02.ShaAgain'. -/
def shaAgainUptoCard : Claim7 := { stood := { row := shaAgainUptoRow, standIns := [], harness := (true, "4bec40770b00531cbd6566078cc4075eed0ae71fcee9f988c3076b2edf3ecb79"), looks := false }, kinds := [], alts := [], laidByText := true, laidKinds := [.data, .data, .data], laidTests := true, laidLooks := .later }
def ShaAgainUptoCardSaid : Prop := Claim7.holds Tryd.pinned (.plain (OpenSpec.upto shaAgainSpec)) shaAgainUptoCard

/-- THE SECOND FORM's CARD OF 'escutcheonlaw02.ShaLongs'. -/
def shaLongsUptoCard : Claim7 := { stood := { row := shaLongsUptoRow, standIns := [], harness := (true, "4bec40770b00531cbd6566078cc4075eed0ae71fcee9f988c3076b2edf3ecb79"), looks := false }, kinds := [], alts := [], laidByText := true, laidKinds := [.data, .data], laidTests := true, laidLooks := .later }
def ShaLongsUptoCardSaid : Prop := Claim7.holds Tryd.pinned (.plain (OpenSpec.upto shaLongsSpec)) shaLongsUptoCard

/-- THE SECOND FORM's CARD OF 'escutcheonlaw02.ShaShorts'. -/
def shaShortsUptoCard : Claim7 := { stood := { row := shaShortsUptoRow, standIns := [], harness := (true, "4bec40770b00531cbd6566078cc4075eed0ae71fcee9f988c3076b2edf3ecb79"), looks := false }, kinds := [], alts := [], laidByText := true, laidKinds := [.data, .data, .data], laidTests := true, laidLooks := .later }
def ShaShortsUptoCardSaid : Prop := Claim7.holds Tryd.pinned (.plain (OpenSpec.upto shaShortsSpec)) shaShortsUptoCard

/-- THE SECOND FORM's CARD OF 'escutcheonlaw02.ShaEdges'. -/
def shaEdgesUptoCard : Claim7 := { stood := { row := shaEdgesUptoRow, standIns := [], harness := (true, "4bec40770b00531cbd6566078cc4075eed0ae71fcee9f988c3076b2edf3ecb79"), looks := false }, kinds := [], alts := [], laidByText := true, laidKinds := [.data, .data, .data], laidTests := true, laidLooks := .later }
def ShaEdgesUptoCardSaid : Prop := Claim7.holds Tryd.pinned (.plain (OpenSpec.upto shaEdgesSpec)) shaEdgesUptoCard

/-- THE SECOND FORM's CARD OF 'escutcheonlaw03.MacExpands'. -/
def macExpandsUptoCard : Claim7 := { stood := { row := macExpandsUptoRow, standIns := [], harness := (true, "4bec40770b00531cbd6566078cc4075eed0ae71fcee9f988c3076b2edf3ecb79"), looks := false }, kinds := [], alts := [], laidByText := true, laidKinds := [.data, .data], laidTests := true, laidLooks := .later }
def MacExpandsUptoCardSaid : Prop := Claim7.holds Tryd.pinned (.plain (OpenSpec.upto macExpandsSpec)) macExpandsUptoCard

/-- THE SECOND FORM's CARD OF 'escutcheonlaw03.MacKeys'. -/
def macKeysUptoCard : Claim7 := { stood := { row := macKeysUptoRow, standIns := [], harness := (true, "4bec40770b00531cbd6566078cc4075eed0ae71fcee9f988c3076b2edf3ecb79"), looks := false }, kinds := [], alts := [], laidByText := true, laidKinds := [.data, .data], laidTests := true, laidLooks := .later }
def MacKeysUptoCardSaid : Prop := Claim7.holds Tryd.pinned (.plain (OpenSpec.upto macKeysSpec)) macKeysUptoCard

/-- THE SECOND FORM's CARD OF 'escutcheonlaw03.MacSums'. -/
def macSumsUptoCard : Claim7 := { stood := { row := macSumsUptoRow, standIns := [], harness := (true, "4bec40770b00531cbd6566078cc4075eed0ae71fcee9f988c3076b2edf3ecb79"), looks := false }, kinds := [], alts := [], laidByText := true, laidKinds := [.data, .data], laidTests := true, laidLooks := .later }
def MacSumsUptoCardSaid : Prop := Claim7.holds Tryd.pinned (.plain (OpenSpec.upto macSumsSpec)) macSumsUptoCard

/-- THE SECOND FORM's CARD OF 'escutcheonlaw03.MacShorts'. -/
def macShortsUptoCard : Claim7 := { stood := { row := macShortsUptoRow, standIns := [], harness := (true, "4bec40770b00531cbd6566078cc4075eed0ae71fcee9f988c3076b2edf3ecb79"), looks := false }, kinds := [], alts := [], laidByText := true, laidKinds := [.data, .data], laidTests := true, laidLooks := .later }
def MacShortsUptoCardSaid : Prop := Claim7.holds Tryd.pinned (.plain (OpenSpec.upto macShortsSpec)) macShortsUptoCard

/-- THE SECOND FORM's CARD OF 'escutcheonlaw03.MacStretches'. -/
def macStretchesUptoCard : Claim7 := { stood := { row := macStretchesUptoRow, standIns := [], harness := (true, "4bec40770b00531cbd6566078cc4075eed0ae71fcee9f988c3076b2edf3ecb79"), looks := false }, kinds := [], alts := [], laidByText := true, laidKinds := [.data, .data], laidTests := true, laidLooks := .later }
def MacStretchesUptoCardSaid : Prop := Claim7.holds Tryd.pinned (.plain (OpenSpec.upto macStretchesSpec)) macStretchesUptoCard

/-- THE SECOND FORM's CARD OF 'escutcheonlaw03.MacFirst'. -/
def macFirstUptoCard : Claim7 := { stood := { row := macFirstUptoRow, standIns := [], harness := (true, "4bec40770b00531cbd6566078cc4075eed0ae71fcee9f988c3076b2edf3ecb79"), looks := false }, kinds := [], alts := [], laidByText := true, laidKinds := [.data, .data], laidTests := true, laidLooks := .later }
def MacFirstUptoCardSaid : Prop := Claim7.holds Tryd.pinned (.plain (OpenSpec.upto macFirstSpec)) macFirstUptoCard

/-- THE SECOND FORM's CARD OF 'escutcheonlaw03.MacOnce'. -/
def macOnceUptoCard : Claim7 := { stood := { row := macOnceUptoRow, standIns := [], harness := (true, "4bec40770b00531cbd6566078cc4075eed0ae71fcee9f988c3076b2edf3ecb79"), looks := false }, kinds := [], alts := [], laidByText := true, laidKinds := [.data, .data], laidTests := true, laidLooks := .later }
def MacOnceUptoCardSaid : Prop := Claim7.holds Tryd.pinned (.plain (OpenSpec.upto macOnceSpec)) macOnceUptoCard
end Rows
end Go.Proofs.YtmhmfmnjdbehcaaDoor
