/-
  DERIVED. GIVEN WITH THE SEED: THE PROGRAM's TIES (one call each: nine closed facts by the kernel) AND EACH ROW's TIE, after the 31st guide's Derived/Test/Toyas{Tie, Card}.lean. No idea stands in it: it is a product of the set-up. Laid BY PROGRAM, IN A SANDBOX (cutbox-door.mjs). By AI agents, Wed Nov 11 2026. No macro, syntax, notation, axiom, sorry.
-/
import Derived.Test.YthkkdbpblajahaaDoorRows
import Derived.LaidByTextLater
import Derived.SevenTiedAt
import Derived.LaidSub
import Derived.LaidOnce
namespace Go.Proofs.YthkkdbpblajahaaDoor
open Go
set_option maxRecDepth 100000
theorem seatTie1 : Tryd.prog.laidByTextLater [("math/bits.deBruijn32tab", Rows.laid_math_bits_deBruijn32tab), ("math/bits.deBruijn64tab", Rows.laid_math_bits_deBruijn64tab), ("internal/strconv.uint64pow10", Rows.laid_internal_strconv_uint64pow10), ("postbag/api.ErrRange", Rows.laid_postbag_api_ErrRange), ("postbag/api.ErrForm", Rows.laid_postbag_api_ErrForm), ("postbag/api.ErrLong", Rows.laid_postbag_api_ErrLong), ("postbag/api.ErrName", Rows.laid_postbag_api_ErrName), ("postbag/api.ErrNone", Rows.laid_postbag_api_ErrNone), ("postbag/api.ErrExists", Rows.laid_postbag_api_ErrExists), ("postbag/api.ErrQuota", Rows.laid_postbag_api_ErrQuota), ("postbag/api.ErrPower", Rows.laid_postbag_api_ErrPower), ("postbag/api.ErrState", Rows.laid_postbag_api_ErrState), ("postbag/api.ErrSum", Rows.laid_postbag_api_ErrSum), ("postbag/api.ErrFull", Rows.laid_postbag_api_ErrFull), ("postbag/api.ErrDepth", Rows.laid_postbag_api_ErrDepth), ("postbag/api.ErrUser", Rows.laid_postbag_api_ErrUser)] [.data, .data, .data, .sentinel, .sentinel, .sentinel, .sentinel, .sentinel, .sentinel, .sentinel, .sentinel, .sentinel, .sentinel, .sentinel, .sentinel, .sentinel] true :=
  Program.laidByTextLater_by_one 271 8 65 (by kernel_rfl) (by kernel_rfl) (by kernel_rfl) (by kernel_rfl) (by kernel_rfl) (by kernel_rfl) (fun _ _ => by kernel_rfl)
theorem noOwnUnsafe : Tryd.pinned.checked.prog.headLifts.contains "ownunsafe" = false := by kernel_rfl
theorem tie : Tryd.prog.laidByTextLater [("postbag/api.ErrRange", Rows.laid_postbag_api_ErrRange)] [.sentinel] true :=
  Program.laidByTextLater.sub seatTie1 ["postbag/api.ErrRange"] (by kernel_rfl) (by kernel_rfl)
theorem datesYears_row_tie : Rows.datesYearsRow.laidByTextAt .later Tryd.pinned [.sentinel] true :=
  OpenClaim.laidByTextAt_later rfl rfl tie noOwnUnsafe
theorem datesNext_row_tie : Rows.datesNextRow.laidByTextAt .later Tryd.pinned [.sentinel] true :=
  OpenClaim.laidByTextAt_later rfl rfl tie noOwnUnsafe
theorem tie2 : Tryd.prog.laidByTextLater [("postbag/api.ErrRange", Rows.laid_postbag_api_ErrRange), ("postbag/api.ErrForm", Rows.laid_postbag_api_ErrForm), ("postbag/api.ErrLong", Rows.laid_postbag_api_ErrLong), ("postbag/api.ErrName", Rows.laid_postbag_api_ErrName), ("postbag/api.ErrNone", Rows.laid_postbag_api_ErrNone), ("postbag/api.ErrExists", Rows.laid_postbag_api_ErrExists), ("postbag/api.ErrQuota", Rows.laid_postbag_api_ErrQuota), ("postbag/api.ErrPower", Rows.laid_postbag_api_ErrPower), ("postbag/api.ErrState", Rows.laid_postbag_api_ErrState), ("postbag/api.ErrSum", Rows.laid_postbag_api_ErrSum), ("postbag/api.ErrFull", Rows.laid_postbag_api_ErrFull), ("postbag/api.ErrDepth", Rows.laid_postbag_api_ErrDepth), ("postbag/api.ErrUser", Rows.laid_postbag_api_ErrUser)] [.sentinel, .sentinel, .sentinel, .sentinel, .sentinel, .sentinel, .sentinel, .sentinel, .sentinel, .sentinel, .sentinel, .sentinel, .sentinel] true :=
  Program.laidByTextLater.sub seatTie1 ["postbag/api.ErrRange", "postbag/api.ErrForm", "postbag/api.ErrLong", "postbag/api.ErrName", "postbag/api.ErrNone", "postbag/api.ErrExists", "postbag/api.ErrQuota", "postbag/api.ErrPower", "postbag/api.ErrState", "postbag/api.ErrSum", "postbag/api.ErrFull", "postbag/api.ErrDepth", "postbag/api.ErrUser"] (by kernel_rfl) (by kernel_rfl)
theorem datesCivil_row_tie : Rows.datesCivilRow.laidByTextAt .later Tryd.pinned [.sentinel, .sentinel, .sentinel, .sentinel, .sentinel, .sentinel, .sentinel, .sentinel, .sentinel, .sentinel, .sentinel, .sentinel, .sentinel] true :=
  OpenClaim.laidByTextAt_later rfl rfl tie2 noOwnUnsafe
theorem datesDays_row_tie : Rows.datesDaysRow.laidByTextAt .later Tryd.pinned [.sentinel, .sentinel, .sentinel, .sentinel, .sentinel, .sentinel, .sentinel, .sentinel, .sentinel, .sentinel, .sentinel, .sentinel, .sentinel] true :=
  OpenClaim.laidByTextAt_later rfl rfl tie2 noOwnUnsafe
theorem datesReads_row_tie : Rows.datesReadsRow.laidByTextAt .later Tryd.pinned [.sentinel, .sentinel, .sentinel, .sentinel, .sentinel, .sentinel, .sentinel, .sentinel, .sentinel, .sentinel, .sentinel, .sentinel, .sentinel] true :=
  OpenClaim.laidByTextAt_later rfl rfl tie2 noOwnUnsafe
theorem datesFields_row_tie : Rows.datesFieldsRow.laidByTextAt .later Tryd.pinned [.sentinel, .sentinel, .sentinel, .sentinel, .sentinel, .sentinel, .sentinel, .sentinel, .sentinel, .sentinel, .sentinel, .sentinel, .sentinel] true :=
  OpenClaim.laidByTextAt_later rfl rfl tie2 noOwnUnsafe
theorem tie3 : Tryd.prog.laidByTextLater [("math/bits.deBruijn32tab", Rows.laid_math_bits_deBruijn32tab), ("math/bits.deBruijn64tab", Rows.laid_math_bits_deBruijn64tab), ("internal/strconv.uint64pow10", Rows.laid_internal_strconv_uint64pow10), ("postbag/api.ErrRange", Rows.laid_postbag_api_ErrRange), ("postbag/api.ErrForm", Rows.laid_postbag_api_ErrForm), ("postbag/api.ErrLong", Rows.laid_postbag_api_ErrLong), ("postbag/api.ErrName", Rows.laid_postbag_api_ErrName), ("postbag/api.ErrNone", Rows.laid_postbag_api_ErrNone), ("postbag/api.ErrExists", Rows.laid_postbag_api_ErrExists), ("postbag/api.ErrQuota", Rows.laid_postbag_api_ErrQuota), ("postbag/api.ErrPower", Rows.laid_postbag_api_ErrPower), ("postbag/api.ErrState", Rows.laid_postbag_api_ErrState), ("postbag/api.ErrSum", Rows.laid_postbag_api_ErrSum), ("postbag/api.ErrFull", Rows.laid_postbag_api_ErrFull), ("postbag/api.ErrDepth", Rows.laid_postbag_api_ErrDepth), ("postbag/api.ErrUser", Rows.laid_postbag_api_ErrUser)] [.data, .data, .data, .sentinel, .sentinel, .sentinel, .sentinel, .sentinel, .sentinel, .sentinel, .sentinel, .sentinel, .sentinel, .sentinel, .sentinel, .sentinel] true :=
  Program.laidByTextLater.sub seatTie1 ["math/bits.deBruijn32tab", "math/bits.deBruijn64tab", "internal/strconv.uint64pow10", "postbag/api.ErrRange", "postbag/api.ErrForm", "postbag/api.ErrLong", "postbag/api.ErrName", "postbag/api.ErrNone", "postbag/api.ErrExists", "postbag/api.ErrQuota", "postbag/api.ErrPower", "postbag/api.ErrState", "postbag/api.ErrSum", "postbag/api.ErrFull", "postbag/api.ErrDepth", "postbag/api.ErrUser"] (by kernel_rfl) (by kernel_rfl)
theorem datesMail_row_tie : Rows.datesMailRow.laidByTextAt .later Tryd.pinned [.data, .data, .data, .sentinel, .sentinel, .sentinel, .sentinel, .sentinel, .sentinel, .sentinel, .sentinel, .sentinel, .sentinel, .sentinel, .sentinel, .sentinel] true :=
  OpenClaim.laidByTextAt_later rfl rfl tie3 noOwnUnsafe
theorem datesBox_row_tie : Rows.datesBoxRow.laidByTextAt .later Tryd.pinned [.data, .data, .data, .sentinel, .sentinel, .sentinel, .sentinel, .sentinel, .sentinel, .sentinel, .sentinel, .sentinel, .sentinel, .sentinel, .sentinel, .sentinel] true :=
  OpenClaim.laidByTextAt_later rfl rfl tie3 noOwnUnsafe
theorem datesInternal_row_tie : Rows.datesInternalRow.laidByTextAt .later Tryd.pinned [.data, .data, .data, .sentinel, .sentinel, .sentinel, .sentinel, .sentinel, .sentinel, .sentinel, .sentinel, .sentinel, .sentinel, .sentinel, .sentinel, .sentinel] true :=
  OpenClaim.laidByTextAt_later rfl rfl tie3 noOwnUnsafe
theorem tie4 : Tryd.prog.laidByTextLater [("math/bits.deBruijn32tab", Rows.laid_math_bits_deBruijn32tab), ("math/bits.deBruijn64tab", Rows.laid_math_bits_deBruijn64tab), ("internal/strconv.uint64pow10", Rows.laid_internal_strconv_uint64pow10), ("postbag/api.ErrRange", Rows.laid_postbag_api_ErrRange), ("postbag/api.ErrForm", Rows.laid_postbag_api_ErrForm)] [.data, .data, .data, .sentinel, .sentinel] true :=
  Program.laidByTextLater.sub seatTie1 ["math/bits.deBruijn32tab", "math/bits.deBruijn64tab", "internal/strconv.uint64pow10", "postbag/api.ErrRange", "postbag/api.ErrForm"] (by kernel_rfl) (by kernel_rfl)
theorem datesBack_row_tie : Rows.datesBackRow.laidByTextAt .later Tryd.pinned [.data, .data, .data, .sentinel, .sentinel] true :=
  OpenClaim.laidByTextAt_later rfl rfl tie4 noOwnUnsafe
theorem datesYearsUpto_row_tie : Rows.datesYearsUptoRow.laidByTextAt .later Tryd.pinned [.sentinel] true :=
  OpenClaim.laidByTextAt_later rfl rfl tie noOwnUnsafe
theorem datesNextUpto_row_tie : Rows.datesNextUptoRow.laidByTextAt .later Tryd.pinned [.sentinel] true :=
  OpenClaim.laidByTextAt_later rfl rfl tie noOwnUnsafe
theorem datesCivilUpto_row_tie : Rows.datesCivilUptoRow.laidByTextAt .later Tryd.pinned [.sentinel, .sentinel, .sentinel, .sentinel, .sentinel, .sentinel, .sentinel, .sentinel, .sentinel, .sentinel, .sentinel, .sentinel, .sentinel] true :=
  OpenClaim.laidByTextAt_later rfl rfl tie2 noOwnUnsafe
theorem datesDaysUpto_row_tie : Rows.datesDaysUptoRow.laidByTextAt .later Tryd.pinned [.sentinel, .sentinel, .sentinel, .sentinel, .sentinel, .sentinel, .sentinel, .sentinel, .sentinel, .sentinel, .sentinel, .sentinel, .sentinel] true :=
  OpenClaim.laidByTextAt_later rfl rfl tie2 noOwnUnsafe
theorem datesReadsUpto_row_tie : Rows.datesReadsUptoRow.laidByTextAt .later Tryd.pinned [.sentinel, .sentinel, .sentinel, .sentinel, .sentinel, .sentinel, .sentinel, .sentinel, .sentinel, .sentinel, .sentinel, .sentinel, .sentinel] true :=
  OpenClaim.laidByTextAt_later rfl rfl tie2 noOwnUnsafe
theorem datesMailUpto_row_tie : Rows.datesMailUptoRow.laidByTextAt .later Tryd.pinned [.data, .data, .data, .sentinel, .sentinel, .sentinel, .sentinel, .sentinel, .sentinel, .sentinel, .sentinel, .sentinel, .sentinel, .sentinel, .sentinel, .sentinel] true :=
  OpenClaim.laidByTextAt_later rfl rfl tie3 noOwnUnsafe
theorem datesBoxUpto_row_tie : Rows.datesBoxUptoRow.laidByTextAt .later Tryd.pinned [.data, .data, .data, .sentinel, .sentinel, .sentinel, .sentinel, .sentinel, .sentinel, .sentinel, .sentinel, .sentinel, .sentinel, .sentinel, .sentinel, .sentinel] true :=
  OpenClaim.laidByTextAt_later rfl rfl tie3 noOwnUnsafe
theorem datesInternalUpto_row_tie : Rows.datesInternalUptoRow.laidByTextAt .later Tryd.pinned [.data, .data, .data, .sentinel, .sentinel, .sentinel, .sentinel, .sentinel, .sentinel, .sentinel, .sentinel, .sentinel, .sentinel, .sentinel, .sentinel, .sentinel] true :=
  OpenClaim.laidByTextAt_later rfl rfl tie3 noOwnUnsafe
theorem datesFieldsUpto_row_tie : Rows.datesFieldsUptoRow.laidByTextAt .later Tryd.pinned [.sentinel, .sentinel, .sentinel, .sentinel, .sentinel, .sentinel, .sentinel, .sentinel, .sentinel, .sentinel, .sentinel, .sentinel, .sentinel] true :=
  OpenClaim.laidByTextAt_later rfl rfl tie2 noOwnUnsafe
theorem datesBackUpto_row_tie : Rows.datesBackUptoRow.laidByTextAt .later Tryd.pinned [.data, .data, .data, .sentinel, .sentinel] true :=
  OpenClaim.laidByTextAt_later rfl rfl tie4 noOwnUnsafe
end Go.Proofs.YthkkdbpblajahaaDoor
