/-
  DERIVED. GIVEN WITH THE SEED: THE PROGRAM's TIES (one call each: nine closed facts by the kernel) AND EACH ROW's TIE, after the 31st guide's Derived/Test/Toyas{Tie, Card}.lean. No idea stands in it: it is a product of the set-up. Laid BY PROGRAM, IN A SANDBOX (cutbox-door.mjs). By AI agents, Wed Nov 11 2026. No macro, syntax, notation, axiom, sorry.
-/
import Derived.Test.YtglopeijohdobaaDoorRows
import Derived.LaidByTextLater
import Derived.SevenTiedAt
import Derived.LaidSub
import Derived.LaidOnce
namespace Go.Proofs.YtglopeijohdobaaDoor
open Go
set_option maxRecDepth 100000
theorem seatTie1 : Tryd.prog.laidByTextLater [("postbag/api.ErrRange", Rows.laid_postbag_api_ErrRange), ("postbag/api.ErrForm", Rows.laid_postbag_api_ErrForm), ("postbag/api.ErrLong", Rows.laid_postbag_api_ErrLong), ("postbag/api.ErrName", Rows.laid_postbag_api_ErrName), ("postbag/api.ErrNone", Rows.laid_postbag_api_ErrNone), ("postbag/api.ErrExists", Rows.laid_postbag_api_ErrExists), ("postbag/api.ErrQuota", Rows.laid_postbag_api_ErrQuota), ("postbag/api.ErrPower", Rows.laid_postbag_api_ErrPower), ("postbag/api.ErrState", Rows.laid_postbag_api_ErrState), ("postbag/api.ErrSum", Rows.laid_postbag_api_ErrSum), ("postbag/api.ErrFull", Rows.laid_postbag_api_ErrFull), ("postbag/api.ErrDepth", Rows.laid_postbag_api_ErrDepth), ("postbag/api.ErrUser", Rows.laid_postbag_api_ErrUser)] [.sentinel, .sentinel, .sentinel, .sentinel, .sentinel, .sentinel, .sentinel, .sentinel, .sentinel, .sentinel, .sentinel, .sentinel, .sentinel] true :=
  Program.laidByTextLater_by_one 256 8 2 (by kernel_rfl) (by kernel_rfl) (by kernel_rfl) (by kernel_rfl) (by kernel_rfl) (by kernel_rfl) (fun _ _ => by kernel_rfl)
theorem noOwnUnsafe : Tryd.pinned.checked.prog.headLifts.contains "ownunsafe" = false := by kernel_rfl
theorem tie : Tryd.prog.laidByTextLater [("postbag/api.ErrRange", Rows.laid_postbag_api_ErrRange), ("postbag/api.ErrState", Rows.laid_postbag_api_ErrState)] [.sentinel, .sentinel] true :=
  Program.laidByTextLater.sub seatTie1 ["postbag/api.ErrRange", "postbag/api.ErrState"] (by kernel_rfl) (by kernel_rfl)
theorem linesPieces_row_tie : Rows.linesPiecesRow.laidByTextAt .later Tryd.pinned [.sentinel, .sentinel] true :=
  OpenClaim.laidByTextAt_later rfl rfl tie noOwnUnsafe
theorem linesLong_row_tie : Rows.linesLongRow.laidByTextAt .later Tryd.pinned [.sentinel, .sentinel] true :=
  OpenClaim.laidByTextAt_later rfl rfl tie noOwnUnsafe
theorem linesSplits_row_tie : Rows.linesSplitsRow.laidByTextAt .later Tryd.pinned [.sentinel, .sentinel] true :=
  OpenClaim.laidByTextAt_later rfl rfl tie noOwnUnsafe
theorem tie2 : Tryd.prog.laidByTextLater [("postbag/api.ErrRange", Rows.laid_postbag_api_ErrRange), ("postbag/api.ErrForm", Rows.laid_postbag_api_ErrForm), ("postbag/api.ErrLong", Rows.laid_postbag_api_ErrLong), ("postbag/api.ErrName", Rows.laid_postbag_api_ErrName), ("postbag/api.ErrNone", Rows.laid_postbag_api_ErrNone), ("postbag/api.ErrExists", Rows.laid_postbag_api_ErrExists), ("postbag/api.ErrQuota", Rows.laid_postbag_api_ErrQuota), ("postbag/api.ErrPower", Rows.laid_postbag_api_ErrPower), ("postbag/api.ErrState", Rows.laid_postbag_api_ErrState), ("postbag/api.ErrSum", Rows.laid_postbag_api_ErrSum), ("postbag/api.ErrFull", Rows.laid_postbag_api_ErrFull), ("postbag/api.ErrDepth", Rows.laid_postbag_api_ErrDepth), ("postbag/api.ErrUser", Rows.laid_postbag_api_ErrUser)] [.sentinel, .sentinel, .sentinel, .sentinel, .sentinel, .sentinel, .sentinel, .sentinel, .sentinel, .sentinel, .sentinel, .sentinel, .sentinel] true :=
  Program.laidByTextLater.sub seatTie1 ["postbag/api.ErrRange", "postbag/api.ErrForm", "postbag/api.ErrLong", "postbag/api.ErrName", "postbag/api.ErrNone", "postbag/api.ErrExists", "postbag/api.ErrQuota", "postbag/api.ErrPower", "postbag/api.ErrState", "postbag/api.ErrSum", "postbag/api.ErrFull", "postbag/api.ErrDepth", "postbag/api.ErrUser"] (by kernel_rfl) (by kernel_rfl)
theorem linesPlays_row_tie : Rows.linesPlaysRow.laidByTextAt .later Tryd.pinned [.sentinel, .sentinel, .sentinel, .sentinel, .sentinel, .sentinel, .sentinel, .sentinel, .sentinel, .sentinel, .sentinel, .sentinel, .sentinel] true :=
  OpenClaim.laidByTextAt_later rfl rfl tie2 noOwnUnsafe
theorem linesPiecesUpto_row_tie : Rows.linesPiecesUptoRow.laidByTextAt .later Tryd.pinned [.sentinel, .sentinel] true :=
  OpenClaim.laidByTextAt_later rfl rfl tie noOwnUnsafe
theorem linesLongUpto_row_tie : Rows.linesLongUptoRow.laidByTextAt .later Tryd.pinned [.sentinel, .sentinel] true :=
  OpenClaim.laidByTextAt_later rfl rfl tie noOwnUnsafe
theorem linesPlaysUpto_row_tie : Rows.linesPlaysUptoRow.laidByTextAt .later Tryd.pinned [.sentinel, .sentinel, .sentinel, .sentinel, .sentinel, .sentinel, .sentinel, .sentinel, .sentinel, .sentinel, .sentinel, .sentinel, .sentinel] true :=
  OpenClaim.laidByTextAt_later rfl rfl tie2 noOwnUnsafe
theorem linesSplitsUpto_row_tie : Rows.linesSplitsUptoRow.laidByTextAt .later Tryd.pinned [.sentinel, .sentinel] true :=
  OpenClaim.laidByTextAt_later rfl rfl tie noOwnUnsafe
end Go.Proofs.YtglopeijohdobaaDoor
