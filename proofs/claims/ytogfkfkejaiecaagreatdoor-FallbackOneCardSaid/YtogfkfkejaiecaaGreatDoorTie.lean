/-
  DERIVED. GIVEN WITH THE SEED: THE PROGRAM's TIES (one call each: nine closed facts by the kernel) AND EACH ROW's TIE, after the 31st guide's Derived/Test/Toyas{Tie, Card}.lean. No idea stands in it: it is a product of the set-up. Laid BY PROGRAM, IN A SANDBOX (cutbox-door.mjs). By AI agents, Wed Nov 11 2026. No macro, syntax, notation, axiom, sorry.
-/
import Derived.Test.YtogfkfkejaiecaaGreatDoorRows
import Derived.LaidByTextLater
import Derived.SevenTiedAt
import Derived.LaidSub
import Derived.LaidOnce
namespace Go.Proofs.YtogfkfkejaiecaaGreatDoor
open Go
set_option maxRecDepth 100000
theorem seatTie1 : Tryz.prog.laidByTextLater [("concordat/marker.signs", Rows.laid_concordat_marker_signs)] [.wider] true :=
  Program.laidByTextLater_by_one 18 8 9 (by kernel_rfl) (by kernel_rfl) (by kernel_rfl) (by kernel_rfl) (by kernel_rfl) (by kernel_rfl) (fun _ _ => by kernel_rfl)
theorem noOwnUnsafe : Tryz.pinned.checked.prog.headLifts.contains "ownunsafe" = false := by kernel_rfl
theorem tie : Tryz.prog.laidByTextLater [("concordat/marker.signs", Rows.laid_concordat_marker_signs)] [.wider] true :=
  Program.laidByTextLater.sub seatTie1 ["concordat/marker.signs"] (by kernel_rfl) (by kernel_rfl)
theorem fallbackFiles_row_tie : Rows.fallbackFilesRow.laidByTextAt .later Tryz.pinned [.wider] true :=
  OpenClaim.laidByTextAt_later rfl rfl tie noOwnUnsafe
theorem fallbackTrees_row_tie : Rows.fallbackTreesRow.laidByTextAt .later Tryz.pinned [.wider] true :=
  OpenClaim.laidByTextAt_later rfl rfl tie noOwnUnsafe
theorem fallbackSides_row_tie : Rows.fallbackSidesRow.laidByTextAt .later Tryz.pinned [.wider] true :=
  OpenClaim.laidByTextAt_later rfl rfl tie noOwnUnsafe
theorem fallbackOne_row_tie : Rows.fallbackOneRow.laidByTextAt .later Tryz.pinned [.wider] true :=
  OpenClaim.laidByTextAt_later rfl rfl tie noOwnUnsafe
theorem fallbackFilesUpto_row_tie : Rows.fallbackFilesUptoRow.laidByTextAt .later Tryz.pinned [.wider] true :=
  OpenClaim.laidByTextAt_later rfl rfl tie noOwnUnsafe
theorem fallbackTreesUpto_row_tie : Rows.fallbackTreesUptoRow.laidByTextAt .later Tryz.pinned [.wider] true :=
  OpenClaim.laidByTextAt_later rfl rfl tie noOwnUnsafe
theorem fallbackSidesUpto_row_tie : Rows.fallbackSidesUptoRow.laidByTextAt .later Tryz.pinned [.wider] true :=
  OpenClaim.laidByTextAt_later rfl rfl tie noOwnUnsafe
theorem fallbackOneUpto_row_tie : Rows.fallbackOneUptoRow.laidByTextAt .later Tryz.pinned [.wider] true :=
  OpenClaim.laidByTextAt_later rfl rfl tie noOwnUnsafe
end Go.Proofs.YtogfkfkejaiecaaGreatDoor
