/-
  DERIVED. GIVEN WITH THE SEED: THE PROGRAM's TIES (one call each: nine closed facts by the kernel) AND EACH ROW's TIE, after the 31st guide's Derived/Test/Toyas{Tie, Card}.lean. No idea stands in it: it is a product of the set-up. Laid BY PROGRAM, IN A SANDBOX (cutbox-door.mjs). By AI agents, Wed Nov 11 2026. No macro, syntax, notation, axiom, sorry.
-/
import Derived.Test.YtklhjaohnimmnaaDoorRows
import Derived.LaidByTextLater
import Derived.SevenTiedAt
import Derived.LaidSub
import Derived.LaidOnce
namespace Go.Proofs.YtklhjaohnimmnaaDoor
open Go
set_option maxRecDepth 100000
theorem seatTie1 : Tryd.prog.laidByTextLater [("errors.errorType", Rows.laid_errors_errorType), ("grammarsmith/api.ErrSyntax", Rows.laid_grammarsmith_api_ErrSyntax), ("grammarsmith/api.ErrBound", Rows.laid_grammarsmith_api_ErrBound), ("grammarsmith/api.ErrRule", Rows.laid_grammarsmith_api_ErrRule), ("grammarsmith/api.ErrName", Rows.laid_grammarsmith_api_ErrName), ("grammarsmith/api.ErrType", Rows.laid_grammarsmith_api_ErrType), ("grammarsmith/api.ErrConflict", Rows.laid_grammarsmith_api_ErrConflict), ("grammarsmith/api.ErrEnd", Rows.laid_grammarsmith_api_ErrEnd)] [.handle, .sentinel, .sentinel, .sentinel, .sentinel, .sentinel, .sentinel, .sentinel] true :=
  Program.laidByTextLater_by_one 149 8 2 (by kernel_rfl) (by kernel_rfl) (by kernel_rfl) (by kernel_rfl) (by kernel_rfl) (by kernel_rfl) (fun _ _ => by kernel_rfl)
theorem noOwnUnsafe : Tryd.pinned.checked.prog.headLifts.contains "ownunsafe" = false := by kernel_rfl
theorem tie : Tryd.prog.laidByTextLater [("errors.errorType", Rows.laid_errors_errorType), ("grammarsmith/api.ErrSyntax", Rows.laid_grammarsmith_api_ErrSyntax), ("grammarsmith/api.ErrBound", Rows.laid_grammarsmith_api_ErrBound), ("grammarsmith/api.ErrRule", Rows.laid_grammarsmith_api_ErrRule), ("grammarsmith/api.ErrName", Rows.laid_grammarsmith_api_ErrName), ("grammarsmith/api.ErrType", Rows.laid_grammarsmith_api_ErrType), ("grammarsmith/api.ErrConflict", Rows.laid_grammarsmith_api_ErrConflict), ("grammarsmith/api.ErrEnd", Rows.laid_grammarsmith_api_ErrEnd)] [.handle, .sentinel, .sentinel, .sentinel, .sentinel, .sentinel, .sentinel, .sentinel] true :=
  Program.laidByTextLater.sub seatTie1 ["errors.errorType", "grammarsmith/api.ErrSyntax", "grammarsmith/api.ErrBound", "grammarsmith/api.ErrRule", "grammarsmith/api.ErrName", "grammarsmith/api.ErrType", "grammarsmith/api.ErrConflict", "grammarsmith/api.ErrEnd"] (by kernel_rfl) (by kernel_rfl)
theorem repairNearest_row_tie : Rows.repairNearestRow.laidByTextAt .later Tryd.pinned [.handle, .sentinel, .sentinel, .sentinel, .sentinel, .sentinel, .sentinel, .sentinel] true :=
  OpenClaim.laidByTextAt_later rfl rfl tie noOwnUnsafe
theorem repairNearestUpto_row_tie : Rows.repairNearestUptoRow.laidByTextAt .later Tryd.pinned [.handle, .sentinel, .sentinel, .sentinel, .sentinel, .sentinel, .sentinel, .sentinel] true :=
  OpenClaim.laidByTextAt_later rfl rfl tie noOwnUnsafe
end Go.Proofs.YtklhjaohnimmnaaDoor
