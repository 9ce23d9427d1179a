/-
  DERIVED. GIVEN WITH THE SEED: THE PROGRAM's TIES (one call each: nine closed facts by the kernel) AND EACH ROW's TIE, after the 31st guide's Derived/Test/Toyas{Tie, Card}.lean. No idea stands in it: it is a product of the set-up. Laid BY PROGRAM, IN A SANDBOX (cutbox-door.mjs). By AI agents, Wed Nov 11 2026. No macro, syntax, notation, axiom, sorry.
-/
import Derived.Test.YtflccikncbhpdaaGreatDoorRows
import Derived.LaidByTextLater
import Derived.SevenTiedAt
import Derived.LaidSub
import Derived.LaidOnce
namespace Go.Proofs.YtflccikncbhpdaaGreatDoor
open Go
set_option maxRecDepth 100000
theorem seatTie1 : Tryz.prog.laidByTextLater [("math/bits.deBruijn32tab", Rows.laid_math_bits_deBruijn32tab), ("math/bits.deBruijn64tab", Rows.laid_math_bits_deBruijn64tab), ("internal/strconv.uint64pow10", Rows.laid_internal_strconv_uint64pow10), ("errors.errorType", Rows.laid_errors_errorType), ("strconv.ErrRange", Rows.laid_strconv_ErrRange), ("strconv.ErrSyntax", Rows.laid_strconv_ErrSyntax), ("jobmux/check.errLimit", Rows.laid_jobmux_check_errLimit), ("jobmux/check.errTwice", Rows.laid_jobmux_check_errTwice), ("jobmux/check.errUnknown", Rows.laid_jobmux_check_errUnknown), ("jobmux/check.errRange", Rows.laid_jobmux_check_errRange), ("jobmux/check.errPattern", Rows.laid_jobmux_check_errPattern), ("jobmux/check.errNever", Rows.laid_jobmux_check_errNever), ("jobmux/check.errCycle", Rows.laid_jobmux_check_errCycle)] [.data, .data, .data, .handle, .sentinel, .sentinel, .sentinel, .sentinel, .sentinel, .sentinel, .sentinel, .sentinel, .sentinel] true :=
  Program.laidByTextLater_by_one 202 8 65 (by kernel_rfl) (by kernel_rfl) (by kernel_rfl) (by kernel_rfl) (by kernel_rfl) (by kernel_rfl) (fun _ _ => by kernel_rfl)
theorem noOwnUnsafe : Tryz.pinned.checked.prog.headLifts.contains "ownunsafe" = false := by kernel_rfl
theorem tie : Tryz.prog.laidByTextLater [("math/bits.deBruijn32tab", Rows.laid_math_bits_deBruijn32tab), ("math/bits.deBruijn64tab", Rows.laid_math_bits_deBruijn64tab), ("internal/strconv.uint64pow10", Rows.laid_internal_strconv_uint64pow10), ("errors.errorType", Rows.laid_errors_errorType), ("strconv.ErrRange", Rows.laid_strconv_ErrRange), ("strconv.ErrSyntax", Rows.laid_strconv_ErrSyntax), ("jobmux/check.errLimit", Rows.laid_jobmux_check_errLimit), ("jobmux/check.errTwice", Rows.laid_jobmux_check_errTwice), ("jobmux/check.errUnknown", Rows.laid_jobmux_check_errUnknown), ("jobmux/check.errRange", Rows.laid_jobmux_check_errRange), ("jobmux/check.errPattern", Rows.laid_jobmux_check_errPattern), ("jobmux/check.errNever", Rows.laid_jobmux_check_errNever), ("jobmux/check.errCycle", Rows.laid_jobmux_check_errCycle)] [.data, .data, .data, .handle, .sentinel, .sentinel, .sentinel, .sentinel, .sentinel, .sentinel, .sentinel, .sentinel, .sentinel] true :=
  Program.laidByTextLater.sub seatTie1 ["math/bits.deBruijn32tab", "math/bits.deBruijn64tab", "internal/strconv.uint64pow10", "errors.errorType", "strconv.ErrRange", "strconv.ErrSyntax", "jobmux/check.errLimit", "jobmux/check.errTwice", "jobmux/check.errUnknown", "jobmux/check.errRange", "jobmux/check.errPattern", "jobmux/check.errNever", "jobmux/check.errCycle"] (by kernel_rfl) (by kernel_rfl)
theorem topStarts_row_tie : Rows.topStartsRow.laidByTextAt .later Tryz.pinned [.data, .data, .data, .handle, .sentinel, .sentinel, .sentinel, .sentinel, .sentinel, .sentinel, .sentinel, .sentinel, .sentinel] true :=
  OpenClaim.laidByTextAt_later rfl rfl tie noOwnUnsafe
theorem topStartsUpto_row_tie : Rows.topStartsUptoRow.laidByTextAt .later Tryz.pinned [.data, .data, .data, .handle, .sentinel, .sentinel, .sentinel, .sentinel, .sentinel, .sentinel, .sentinel, .sentinel, .sentinel] true :=
  OpenClaim.laidByTextAt_later rfl rfl tie noOwnUnsafe
end Go.Proofs.YtflccikncbhpdaaGreatDoor
