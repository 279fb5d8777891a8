/-
  DERIVED. GIVEN WITH THE SEED: THE PROGRAM's TIES (one call each: nine closed facts by the kernel) AND EACH ROW's TIE, after the 31st guide's Derived/Test/Toyas{Tie, Card}.lean. No idea stands in it: it is a product of the set-up. Laid BY PROGRAM, IN A SANDBOX (cutbox-door.mjs). By AI agents, Wed Nov 11 2026. No macro, syntax, notation, axiom, sorry.
-/
import Derived.Test.YtaachamblagbhaaGreatDoorRows
import Derived.LaidByTextLater
import Derived.SevenTiedAt
import Derived.LaidSub
import Derived.LaidOnce
namespace Go.Proofs.YtaachamblagbhaaGreatDoor
open Go
set_option maxRecDepth 100000
theorem seatTie1 : Tryz.prog.laidByTextLater [("math/bits.deBruijn32tab", Rows.laid_math_bits_deBruijn32tab), ("math/bits.deBruijn64tab", Rows.laid_math_bits_deBruijn64tab), ("internal/strconv.uint64pow10", Rows.laid_internal_strconv_uint64pow10), ("errors.errorType", Rows.laid_errors_errorType), ("grammarsmith/api.ErrSyntax", Rows.laid_grammarsmith_api_ErrSyntax), ("grammarsmith/api.ErrBound", Rows.laid_grammarsmith_api_ErrBound), ("grammarsmith/api.ErrRule", Rows.laid_grammarsmith_api_ErrRule), ("grammarsmith/api.ErrName", Rows.laid_grammarsmith_api_ErrName), ("grammarsmith/api.ErrType", Rows.laid_grammarsmith_api_ErrType), ("grammarsmith/api.ErrConflict", Rows.laid_grammarsmith_api_ErrConflict), ("grammarsmith/api.ErrEnd", Rows.laid_grammarsmith_api_ErrEnd)] [.data, .data, .data, .handle, .sentinel, .sentinel, .sentinel, .sentinel, .sentinel, .sentinel, .sentinel] true :=
  Program.laidByTextLater_by_one 164 8 65 (by kernel_rfl) (by kernel_rfl) (by kernel_rfl) (by kernel_rfl) (by kernel_rfl) (by kernel_rfl) (fun _ _ => by kernel_rfl)
theorem noOwnUnsafe : Tryz.pinned.checked.prog.headLifts.contains "ownunsafe" = false := by kernel_rfl
theorem tie : Tryz.prog.laidByTextLater [("math/bits.deBruijn32tab", Rows.laid_math_bits_deBruijn32tab), ("math/bits.deBruijn64tab", Rows.laid_math_bits_deBruijn64tab), ("internal/strconv.uint64pow10", Rows.laid_internal_strconv_uint64pow10), ("errors.errorType", Rows.laid_errors_errorType), ("grammarsmith/api.ErrSyntax", Rows.laid_grammarsmith_api_ErrSyntax), ("grammarsmith/api.ErrBound", Rows.laid_grammarsmith_api_ErrBound), ("grammarsmith/api.ErrRule", Rows.laid_grammarsmith_api_ErrRule), ("grammarsmith/api.ErrName", Rows.laid_grammarsmith_api_ErrName), ("grammarsmith/api.ErrType", Rows.laid_grammarsmith_api_ErrType), ("grammarsmith/api.ErrConflict", Rows.laid_grammarsmith_api_ErrConflict), ("grammarsmith/api.ErrEnd", Rows.laid_grammarsmith_api_ErrEnd)] [.data, .data, .data, .handle, .sentinel, .sentinel, .sentinel, .sentinel, .sentinel, .sentinel, .sentinel] true :=
  Program.laidByTextLater.sub seatTie1 ["math/bits.deBruijn32tab", "math/bits.deBruijn64tab", "internal/strconv.uint64pow10", "errors.errorType", "grammarsmith/api.ErrSyntax", "grammarsmith/api.ErrBound", "grammarsmith/api.ErrRule", "grammarsmith/api.ErrName", "grammarsmith/api.ErrType", "grammarsmith/api.ErrConflict", "grammarsmith/api.ErrEnd"] (by kernel_rfl) (by kernel_rfl)
theorem patternWritten_row_tie : Rows.patternWrittenRow.laidByTextAt .later Tryz.pinned [.data, .data, .data, .handle, .sentinel, .sentinel, .sentinel, .sentinel, .sentinel, .sentinel, .sentinel] true :=
  OpenClaim.laidByTextAt_later rfl rfl tie noOwnUnsafe
theorem patternWrittenUpto_row_tie : Rows.patternWrittenUptoRow.laidByTextAt .later Tryz.pinned [.data, .data, .data, .handle, .sentinel, .sentinel, .sentinel, .sentinel, .sentinel, .sentinel, .sentinel] true :=
  OpenClaim.laidByTextAt_later rfl rfl tie noOwnUnsafe
end Go.Proofs.YtaachamblagbhaaGreatDoor
