/-
  DERIVED. GIVEN WITH THE SEED: THE PROGRAM's TIES (one call each: nine closed facts by the kernel) AND EACH ROW's TIE, after the 31st guide's Derived/Test/Toyas{Tie, Card}.lean. No idea stands in it: it is a product of the set-up. Laid BY PROGRAM, IN A SANDBOX (cutbox-door.mjs). By AI agents, Wed Nov 11 2026. No macro, syntax, notation, axiom, sorry.
-/
import Derived.Test.YtgmapenlgammfaaGreatDoorRows
import Derived.LaidByTextLater
import Derived.SevenTiedAt
import Derived.LaidSub
import Derived.LaidOnce
namespace Go.Proofs.YtgmapenlgammfaaGreatDoor
open Go
set_option maxRecDepth 100000
theorem seatTie1 : Tryz.prog.laidByTextLater [("unicode.White_Space", Rows.laid_unicode_White_Space), ("strings.asciiSpace", Rows.laid_strings_asciiSpace)] [.listed, .data] true :=
  Program.laidByTextLater_by_one 33 8 257 (by kernel_rfl) (by kernel_rfl) (by kernel_rfl) (by kernel_rfl) (by kernel_rfl) (by kernel_rfl) (fun _ _ => by kernel_rfl)
theorem noOwnUnsafe : Tryz.pinned.checked.prog.headLifts.contains "ownunsafe" = false := by kernel_rfl
theorem tie : Tryz.prog.laidByTextLater [("unicode.White_Space", Rows.laid_unicode_White_Space), ("strings.asciiSpace", Rows.laid_strings_asciiSpace)] [.listed, .data] true :=
  Program.laidByTextLater.sub seatTie1 ["unicode.White_Space", "strings.asciiSpace"] (by kernel_rfl) (by kernel_rfl)
theorem interpJobs_row_tie : Rows.interpJobsRow.laidByTextAt .later Tryz.pinned [.listed, .data] true :=
  OpenClaim.laidByTextAt_later rfl rfl tie noOwnUnsafe
theorem interpFuel_row_tie : Rows.interpFuelRow.laidByTextAt .later Tryz.pinned [.listed, .data] true :=
  OpenClaim.laidByTextAt_later rfl rfl tie noOwnUnsafe
theorem lowerSame_row_tie : Rows.lowerSameRow.laidByTextAt .later Tryz.pinned [.listed, .data] true :=
  OpenClaim.laidByTextAt_later rfl rfl tie noOwnUnsafe
theorem lowerRenames_row_tie : Rows.lowerRenamesRow.laidByTextAt .later Tryz.pinned [.listed, .data] true :=
  OpenClaim.laidByTextAt_later rfl rfl tie noOwnUnsafe
theorem interpInput_row_tie : Rows.interpInputRow.laidByTextAt .later Tryz.pinned [.listed, .data] true :=
  OpenClaim.laidByTextAt_later rfl rfl tie noOwnUnsafe
theorem interpUnrolls_row_tie : Rows.interpUnrollsRow.laidByTextAt .later Tryz.pinned [.listed, .data] true :=
  OpenClaim.laidByTextAt_later rfl rfl tie noOwnUnsafe
theorem interpSplits_row_tie : Rows.interpSplitsRow.laidByTextAt .later Tryz.pinned [.listed, .data] true :=
  OpenClaim.laidByTextAt_later rfl rfl tie noOwnUnsafe
theorem interpExprs_row_tie : Rows.interpExprsRow.laidByTextAt .later Tryz.pinned [.listed, .data] true :=
  OpenClaim.laidByTextAt_later rfl rfl tie noOwnUnsafe
theorem lowerValid_row_tie : Rows.lowerValidRow.laidByTextAt .later Tryz.pinned [.listed, .data] true :=
  OpenClaim.laidByTextAt_later rfl rfl tie noOwnUnsafe
theorem lowerLoops_row_tie : Rows.lowerLoopsRow.laidByTextAt .later Tryz.pinned [.listed, .data] true :=
  OpenClaim.laidByTextAt_later rfl rfl tie noOwnUnsafe
theorem interpJobsUpto_row_tie : Rows.interpJobsUptoRow.laidByTextAt .later Tryz.pinned [.listed, .data] true :=
  OpenClaim.laidByTextAt_later rfl rfl tie noOwnUnsafe
theorem interpFuelUpto_row_tie : Rows.interpFuelUptoRow.laidByTextAt .later Tryz.pinned [.listed, .data] true :=
  OpenClaim.laidByTextAt_later rfl rfl tie noOwnUnsafe
theorem lowerSameUpto_row_tie : Rows.lowerSameUptoRow.laidByTextAt .later Tryz.pinned [.listed, .data] true :=
  OpenClaim.laidByTextAt_later rfl rfl tie noOwnUnsafe
theorem lowerRenamesUpto_row_tie : Rows.lowerRenamesUptoRow.laidByTextAt .later Tryz.pinned [.listed, .data] true :=
  OpenClaim.laidByTextAt_later rfl rfl tie noOwnUnsafe
theorem interpInputUpto_row_tie : Rows.interpInputUptoRow.laidByTextAt .later Tryz.pinned [.listed, .data] true :=
  OpenClaim.laidByTextAt_later rfl rfl tie noOwnUnsafe
theorem interpUnrollsUpto_row_tie : Rows.interpUnrollsUptoRow.laidByTextAt .later Tryz.pinned [.listed, .data] true :=
  OpenClaim.laidByTextAt_later rfl rfl tie noOwnUnsafe
theorem interpSplitsUpto_row_tie : Rows.interpSplitsUptoRow.laidByTextAt .later Tryz.pinned [.listed, .data] true :=
  OpenClaim.laidByTextAt_later rfl rfl tie noOwnUnsafe
theorem interpExprsUpto_row_tie : Rows.interpExprsUptoRow.laidByTextAt .later Tryz.pinned [.listed, .data] true :=
  OpenClaim.laidByTextAt_later rfl rfl tie noOwnUnsafe
theorem lowerValidUpto_row_tie : Rows.lowerValidUptoRow.laidByTextAt .later Tryz.pinned [.listed, .data] true :=
  OpenClaim.laidByTextAt_later rfl rfl tie noOwnUnsafe
theorem lowerLoopsUpto_row_tie : Rows.lowerLoopsUptoRow.laidByTextAt .later Tryz.pinned [.listed, .data] true :=
  OpenClaim.laidByTextAt_later rfl rfl tie noOwnUnsafe
end Go.Proofs.YtgmapenlgammfaaGreatDoor
