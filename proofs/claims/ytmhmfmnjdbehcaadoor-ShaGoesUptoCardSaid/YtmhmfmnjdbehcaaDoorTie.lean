/-
  DERIVED. GIVEN WITH THE SEED: THE PROGRAM's TIES (one call each: nine closed facts by the kernel) AND EACH ROW's TIE, after the 31st guide's Derived/Test/Toyas{Tie, Card}.lean. No idea stands in it: it is a product of the set-up. Laid BY PROGRAM, IN A SANDBOX (cutbox-door.mjs). By AI agents, Wed Nov 11 2026. No macro, syntax, notation, axiom, sorry.
-/
import Derived.Test.YtmhmfmnjdbehcaaDoorRows
import Derived.LaidByTextLater
import Derived.SevenTiedAt
import Derived.LaidSub
import Derived.LaidOnce
namespace Go.Proofs.YtmhmfmnjdbehcaaDoor
open Go
set_option maxRecDepth 100000
theorem seatTie1 : Tryd.prog.laidByTextLater [("escutcheon/api.Rounds80", Rows.laid_escutcheon_api_Rounds80), ("escutcheon/api.Start512", Rows.laid_escutcheon_api_Start512), ("escutcheon/api.Start384", Rows.laid_escutcheon_api_Start384)] [.data, .data, .data] true :=
  Program.laidByTextLater_by_one 24 8 81 (by kernel_rfl) (by kernel_rfl) (by kernel_rfl) (by kernel_rfl) (by kernel_rfl) (by kernel_rfl) (fun _ _ => by kernel_rfl)
theorem noOwnUnsafe : Tryd.pinned.checked.prog.headLifts.contains "ownunsafe" = false := by kernel_rfl
theorem tie : Tryd.prog.laidByTextLater [("escutcheon/api.Rounds80", Rows.laid_escutcheon_api_Rounds80), ("escutcheon/api.Start512", Rows.laid_escutcheon_api_Start512), ("escutcheon/api.Start384", Rows.laid_escutcheon_api_Start384)] [.data, .data, .data] true :=
  Program.laidByTextLater.sub seatTie1 ["escutcheon/api.Rounds80", "escutcheon/api.Start512", "escutcheon/api.Start384"] (by kernel_rfl) (by kernel_rfl)
theorem shaGoes_row_tie : Rows.shaGoesRow.laidByTextAt .later Tryd.pinned [.data, .data, .data] true :=
  OpenClaim.laidByTextAt_later rfl rfl tie noOwnUnsafe
theorem shaAgain_row_tie : Rows.shaAgainRow.laidByTextAt .later Tryd.pinned [.data, .data, .data] true :=
  OpenClaim.laidByTextAt_later rfl rfl tie noOwnUnsafe
theorem shaShorts_row_tie : Rows.shaShortsRow.laidByTextAt .later Tryd.pinned [.data, .data, .data] true :=
  OpenClaim.laidByTextAt_later rfl rfl tie noOwnUnsafe
theorem shaEdges_row_tie : Rows.shaEdgesRow.laidByTextAt .later Tryd.pinned [.data, .data, .data] true :=
  OpenClaim.laidByTextAt_later rfl rfl tie noOwnUnsafe
theorem tie2 : Tryd.prog.laidByTextLater [("escutcheon/api.Rounds80", Rows.laid_escutcheon_api_Rounds80), ("escutcheon/api.Start512", Rows.laid_escutcheon_api_Start512)] [.data, .data] true :=
  Program.laidByTextLater.sub seatTie1 ["escutcheon/api.Rounds80", "escutcheon/api.Start512"] (by kernel_rfl) (by kernel_rfl)
theorem shaLongs_row_tie : Rows.shaLongsRow.laidByTextAt .later Tryd.pinned [.data, .data] true :=
  OpenClaim.laidByTextAt_later rfl rfl tie2 noOwnUnsafe
theorem tie3 : Tryd.prog.laidByTextLater [("escutcheon/api.Rounds80", Rows.laid_escutcheon_api_Rounds80), ("escutcheon/api.Start384", Rows.laid_escutcheon_api_Start384)] [.data, .data] true :=
  Program.laidByTextLater.sub seatTie1 ["escutcheon/api.Rounds80", "escutcheon/api.Start384"] (by kernel_rfl) (by kernel_rfl)
theorem macExpands_row_tie : Rows.macExpandsRow.laidByTextAt .later Tryd.pinned [.data, .data] true :=
  OpenClaim.laidByTextAt_later rfl rfl tie3 noOwnUnsafe
theorem macKeys_row_tie : Rows.macKeysRow.laidByTextAt .later Tryd.pinned [.data, .data] true :=
  OpenClaim.laidByTextAt_later rfl rfl tie3 noOwnUnsafe
theorem macSums_row_tie : Rows.macSumsRow.laidByTextAt .later Tryd.pinned [.data, .data] true :=
  OpenClaim.laidByTextAt_later rfl rfl tie3 noOwnUnsafe
theorem macShorts_row_tie : Rows.macShortsRow.laidByTextAt .later Tryd.pinned [.data, .data] true :=
  OpenClaim.laidByTextAt_later rfl rfl tie3 noOwnUnsafe
theorem macStretches_row_tie : Rows.macStretchesRow.laidByTextAt .later Tryd.pinned [.data, .data] true :=
  OpenClaim.laidByTextAt_later rfl rfl tie3 noOwnUnsafe
theorem macFirst_row_tie : Rows.macFirstRow.laidByTextAt .later Tryd.pinned [.data, .data] true :=
  OpenClaim.laidByTextAt_later rfl rfl tie3 noOwnUnsafe
theorem macOnce_row_tie : Rows.macOnceRow.laidByTextAt .later Tryd.pinned [.data, .data] true :=
  OpenClaim.laidByTextAt_later rfl rfl tie3 noOwnUnsafe
theorem shaGoesUpto_row_tie : Rows.shaGoesUptoRow.laidByTextAt .later Tryd.pinned [.data, .data, .data] true :=
  OpenClaim.laidByTextAt_later rfl rfl tie noOwnUnsafe
theorem shaAgainUpto_row_tie : Rows.shaAgainUptoRow.laidByTextAt .later Tryd.pinned [.data, .data, .data] true :=
  OpenClaim.laidByTextAt_later rfl rfl tie noOwnUnsafe
theorem shaLongsUpto_row_tie : Rows.shaLongsUptoRow.laidByTextAt .later Tryd.pinned [.data, .data] true :=
  OpenClaim.laidByTextAt_later rfl rfl tie2 noOwnUnsafe
theorem shaShortsUpto_row_tie : Rows.shaShortsUptoRow.laidByTextAt .later Tryd.pinned [.data, .data, .data] true :=
  OpenClaim.laidByTextAt_later rfl rfl tie noOwnUnsafe
theorem shaEdgesUpto_row_tie : Rows.shaEdgesUptoRow.laidByTextAt .later Tryd.pinned [.data, .data, .data] true :=
  OpenClaim.laidByTextAt_later rfl rfl tie noOwnUnsafe
theorem macExpandsUpto_row_tie : Rows.macExpandsUptoRow.laidByTextAt .later Tryd.pinned [.data, .data] true :=
  OpenClaim.laidByTextAt_later rfl rfl tie3 noOwnUnsafe
theorem macKeysUpto_row_tie : Rows.macKeysUptoRow.laidByTextAt .later Tryd.pinned [.data, .data] true :=
  OpenClaim.laidByTextAt_later rfl rfl tie3 noOwnUnsafe
theorem macSumsUpto_row_tie : Rows.macSumsUptoRow.laidByTextAt .later Tryd.pinned [.data, .data] true :=
  OpenClaim.laidByTextAt_later rfl rfl tie3 noOwnUnsafe
theorem macShortsUpto_row_tie : Rows.macShortsUptoRow.laidByTextAt .later Tryd.pinned [.data, .data] true :=
  OpenClaim.laidByTextAt_later rfl rfl tie3 noOwnUnsafe
theorem macStretchesUpto_row_tie : Rows.macStretchesUptoRow.laidByTextAt .later Tryd.pinned [.data, .data] true :=
  OpenClaim.laidByTextAt_later rfl rfl tie3 noOwnUnsafe
theorem macFirstUpto_row_tie : Rows.macFirstUptoRow.laidByTextAt .later Tryd.pinned [.data, .data] true :=
  OpenClaim.laidByTextAt_later rfl rfl tie3 noOwnUnsafe
theorem macOnceUpto_row_tie : Rows.macOnceUptoRow.laidByTextAt .later Tryd.pinned [.data, .data] true :=
  OpenClaim.laidByTextAt_later rfl rfl tie3 noOwnUnsafe
end Go.Proofs.YtmhmfmnjdbehcaaDoor
