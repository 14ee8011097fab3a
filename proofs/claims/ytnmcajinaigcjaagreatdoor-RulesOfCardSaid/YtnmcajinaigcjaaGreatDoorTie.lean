/-
  DERIVED. GIVEN WITH THE SEED: THE PROGRAM's TIES (one call each: nine closed facts by the kernel) AND EACH ROW's TIE, after the 31st guide's Derived/Test/Toyas{Tie, Card}.lean. No idea stands in it: it is a product of the set-up. Laid BY PROGRAM, IN A SANDBOX (cutbox-door.mjs). By AI agents, Wed Nov 11 2026. No macro, syntax, notation, axiom, sorry.
-/
import Derived.Test.YtnmcajinaigcjaaGreatDoorRows
import Derived.LaidByTextLater
import Derived.SevenTiedAt
import Derived.LaidSub
import Derived.LaidOnce
namespace Go.Proofs.YtnmcajinaigcjaaGreatDoor
open Go
set_option maxRecDepth 100000
theorem seatTie1 : Tryz.prog.laidByTextLater [("haversack/api.ErrSyntax", Rows.laid_haversack_api_ErrSyntax), ("haversack/api.ErrDepth", Rows.laid_haversack_api_ErrDepth), ("haversack/api.ErrSize", Rows.laid_haversack_api_ErrSize), ("haversack/api.ErrNumber", Rows.laid_haversack_api_ErrNumber), ("haversack/api.ErrKey", Rows.laid_haversack_api_ErrKey), ("haversack/api.ErrType", Rows.laid_haversack_api_ErrType), ("haversack/api.ErrName", Rows.laid_haversack_api_ErrName), ("haversack/api.ErrVersion", Rows.laid_haversack_api_ErrVersion), ("haversack/api.ErrSpec", Rows.laid_haversack_api_ErrSpec), ("haversack/api.ErrRange", Rows.laid_haversack_api_ErrRange), ("haversack/api.ErrNone", Rows.laid_haversack_api_ErrNone), ("haversack/api.ErrLimit", Rows.laid_haversack_api_ErrLimit), ("haversack/api.ErrTwice", Rows.laid_haversack_api_ErrTwice)] [.sentinel, .sentinel, .sentinel, .sentinel, .sentinel, .sentinel, .sentinel, .sentinel, .sentinel, .sentinel, .sentinel, .sentinel, .sentinel] true :=
  Program.laidByTextLater_by_one 256 8 2 (by kernel_rfl) (by kernel_rfl) (by kernel_rfl) (by kernel_rfl) (by kernel_rfl) (by kernel_rfl) (fun _ _ => by kernel_rfl)
theorem noOwnUnsafe : Tryz.pinned.checked.prog.headLifts.contains "ownunsafe" = false := by kernel_rfl
theorem tie : Tryz.prog.laidByTextLater [("haversack/api.ErrSyntax", Rows.laid_haversack_api_ErrSyntax), ("haversack/api.ErrDepth", Rows.laid_haversack_api_ErrDepth), ("haversack/api.ErrSize", Rows.laid_haversack_api_ErrSize), ("haversack/api.ErrNumber", Rows.laid_haversack_api_ErrNumber), ("haversack/api.ErrKey", Rows.laid_haversack_api_ErrKey), ("haversack/api.ErrType", Rows.laid_haversack_api_ErrType), ("haversack/api.ErrName", Rows.laid_haversack_api_ErrName), ("haversack/api.ErrVersion", Rows.laid_haversack_api_ErrVersion), ("haversack/api.ErrSpec", Rows.laid_haversack_api_ErrSpec), ("haversack/api.ErrRange", Rows.laid_haversack_api_ErrRange), ("haversack/api.ErrNone", Rows.laid_haversack_api_ErrNone), ("haversack/api.ErrLimit", Rows.laid_haversack_api_ErrLimit), ("haversack/api.ErrTwice", Rows.laid_haversack_api_ErrTwice)] [.sentinel, .sentinel, .sentinel, .sentinel, .sentinel, .sentinel, .sentinel, .sentinel, .sentinel, .sentinel, .sentinel, .sentinel, .sentinel] true :=
  Program.laidByTextLater.sub seatTie1 ["haversack/api.ErrSyntax", "haversack/api.ErrDepth", "haversack/api.ErrSize", "haversack/api.ErrNumber", "haversack/api.ErrKey", "haversack/api.ErrType", "haversack/api.ErrName", "haversack/api.ErrVersion", "haversack/api.ErrSpec", "haversack/api.ErrRange", "haversack/api.ErrNone", "haversack/api.ErrLimit", "haversack/api.ErrTwice"] (by kernel_rfl) (by kernel_rfl)
theorem orderRings_row_tie : Rows.orderRingsRow.laidByTextAt .later Tryz.pinned [.sentinel, .sentinel, .sentinel, .sentinel, .sentinel, .sentinel, .sentinel, .sentinel, .sentinel, .sentinel, .sentinel, .sentinel, .sentinel] true :=
  OpenClaim.laidByTextAt_later rfl rfl tie noOwnUnsafe
theorem rulesOf_row_tie : Rows.rulesOfRow.laidByTextAt .later Tryz.pinned [.sentinel, .sentinel, .sentinel, .sentinel, .sentinel, .sentinel, .sentinel, .sentinel, .sentinel, .sentinel, .sentinel, .sentinel, .sentinel] true :=
  OpenClaim.laidByTextAt_later rfl rfl tie noOwnUnsafe
theorem orderRingsUpto_row_tie : Rows.orderRingsUptoRow.laidByTextAt .later Tryz.pinned [.sentinel, .sentinel, .sentinel, .sentinel, .sentinel, .sentinel, .sentinel, .sentinel, .sentinel, .sentinel, .sentinel, .sentinel, .sentinel] true :=
  OpenClaim.laidByTextAt_later rfl rfl tie noOwnUnsafe
theorem rulesOfUpto_row_tie : Rows.rulesOfUptoRow.laidByTextAt .later Tryz.pinned [.sentinel, .sentinel, .sentinel, .sentinel, .sentinel, .sentinel, .sentinel, .sentinel, .sentinel, .sentinel, .sentinel, .sentinel, .sentinel] true :=
  OpenClaim.laidByTextAt_later rfl rfl tie noOwnUnsafe
end Go.Proofs.YtnmcajinaigcjaaGreatDoor
