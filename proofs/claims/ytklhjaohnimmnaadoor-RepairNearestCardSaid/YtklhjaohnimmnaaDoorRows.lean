/-
  NARROWER THAN 'FOR EVERY INPUT', by the rows' own cells (each row's printed sentence says how): RepairNearest: laid.
  DERIVED. THE GIVEN ROWS OF THIS SEAT. 1 by the template 'for every input the law returns true; each argument reads behind the call as it read before'; 0 by the template 'total and deterministic' (their statements: YtklhjaohnimmnaaDoorTotals.lean).
  GIVEN WITH THE SEED: the statements are not yours to turn. If you find one false, say at which input.
  Laid BY PROGRAM, IN A SANDBOX (cutbox-rows.mjs): the forced cells as the released guide's own fill.sh prints them over the translation 945a474bf6644f13… (all of the seat's roots in one cut). By AI agents, Wed Nov 11 2026. No macro, syntax, notation, axiom, sorry.
-/
import Derived.Test.YtklhjaohnimmnaaDoorChecked
import GoSem.Claim
import GoSem.ClaimJoined
import GoSem.ClaimMapViews
import Derived.JoinedTies
import Derived.KernelRfl
namespace Go.Proofs.YtklhjaohnimmnaaDoor
/- THE CELL 'sum', in the pinned program and in every row, IS THE sha256 OF THE DUMP (.gsa) THAT YtklhjaohnimmnaaDoorProg.lean LOADS. Nothing in Lean hashes anything: it is a label: what it is worth is what the hold of that sum in a sandbox is worth. -/
noncomputable def Tryd.pinned : Pinned := { name := "ytklhjaohnimmnaadoor", sum := "945a474bf6644f13dba660282d28f60466371d0f6c81ef43bbe64fc98852cdb6", checked := Tryd.checked }
namespace Rows
def none {H : Type} : Left H := { results := [], args := [] }

/- WHAT THE LISTED PACKAGE-LEVEL VARIABLES READ AS WHEN THE CALL BEGINS. Each datum BY PROGRAM (the guide's laid-datum.mjs) off the statement by which the dump's own 'gosem.cut.vars' lays the variable. In a bare row this is a premise. The card (YtklhjaohnimmnaaDoorCards.lean) ties it to the program's text. -/
def laid_errors_errorType {H : Type} : DataW H := .iface "internal/reflectlite.rtype" (.agg [.ptr (.lit (.string [101, 114, 114, 111, 114]))])
def laid_grammarsmith_api_ErrSyntax {H : Type} : DataW H := .iface "*errors.errorString" (.ptr (.agg [.lit (.string [110, 111, 116, 32, 111, 102, 32, 116, 104, 101, 32, 102, 111, 114, 109, 32, 97, 115, 107, 101, 100])]))
def laid_grammarsmith_api_ErrBound {H : Type} : DataW H := .iface "*errors.errorString" (.ptr (.agg [.lit (.string [109, 111, 114, 101, 32, 116, 104, 97, 110, 32, 109, 97, 121, 32, 98, 101])]))
def laid_grammarsmith_api_ErrRule {H : Type} : DataW H := .iface "*errors.errorString" (.ptr (.agg [.lit (.string [97, 32, 114, 117, 108, 101, 32, 116, 104, 97, 116, 32, 99, 97, 110, 32, 110, 111, 116, 32, 115, 116, 97, 110, 100])]))
def laid_grammarsmith_api_ErrName {H : Type} : DataW H := .iface "*errors.errorString" (.ptr (.agg [.lit (.string [97, 32, 110, 97, 109, 101, 32, 116, 104, 97, 116, 32, 105, 115, 32, 110, 111, 110, 101, 44, 32, 111, 114, 32, 105, 115, 32, 116, 104, 101, 114, 101, 32, 97, 108, 114, 101, 97, 100, 121])]))
def laid_grammarsmith_api_ErrType {H : Type} : DataW H := .iface "*errors.errorString" (.ptr (.agg [.lit (.string [97, 32, 118, 97, 108, 117, 101, 32, 111, 102, 32, 97, 110, 111, 116, 104, 101, 114, 32, 116, 121, 112, 101])]))
def laid_grammarsmith_api_ErrConflict {H : Type} : DataW H := .iface "*errors.errorString" (.ptr (.agg [.lit (.string [97, 110, 32, 97, 99, 116, 105, 111, 110, 32, 105, 115, 32, 110, 111, 116, 32, 100, 101, 99, 105, 100, 101, 100])]))
def laid_grammarsmith_api_ErrEnd {H : Type} : DataW H := .iface "*errors.errorString" (.ptr (.agg [.lit (.string [110, 111, 32, 115, 101, 110, 116, 101, 110, 99, 101])]))

/-- 'grammarsmithlaw2.RepairNearest': WHATEVER THE INPUT: true; the input reads as it did. -/
def repairNearestSpec : ChangeSpec := { name := "repairNearest", fn := fun _ => fun
  | [d1, d2, d3, d4] => { results := [.lit (.bool true)], args := [d1, d2, d3, d4] }
  | _ => none }
def repairNearestRow : OpenClaim := { program := "ytklhjaohnimmnaadoor", sum := "945a474bf6644f13dba660282d28f60466371d0f6c81ef43bbe64fc98852cdb6", func := "grammarsmith/grammarsmithlaw2.RepairNearest", spec := "repairNearest", inPlace := ["internal/reflectlite.ValueOf", "(internal/reflectlite.Value).Type", "(internal/reflectlite.Value).IsNil", "internal/reflectlite.TypeOf", "(internal/reflectlite.Value).Elem", "(internal/reflectlite.Value).Set"], unfollowed := true, recurses := true, named := ["grammarsmith/api.ErrSyntax", "grammarsmith/api.ErrBound", "grammarsmith/api.ErrRule", "grammarsmith/api.ErrName", "grammarsmith/api.ErrType", "grammarsmith/api.ErrConflict", "grammarsmith/api.ErrEnd", "errors.errorType"], plainKeys := false, apart := false, laid := [("errors.errorType", laid_errors_errorType), ("grammarsmith/api.ErrSyntax", laid_grammarsmith_api_ErrSyntax), ("grammarsmith/api.ErrBound", laid_grammarsmith_api_ErrBound), ("grammarsmith/api.ErrRule", laid_grammarsmith_api_ErrRule), ("grammarsmith/api.ErrName", laid_grammarsmith_api_ErrName), ("grammarsmith/api.ErrType", laid_grammarsmith_api_ErrType), ("grammarsmith/api.ErrConflict", laid_grammarsmith_api_ErrConflict), ("grammarsmith/api.ErrEnd", laid_grammarsmith_api_ErrEnd)] }
def RepairNearestSaid : Prop := repairNearestRow.holds Tryd.pinned (OpenSpec.ofChange repairNearestSpec)

/-- ITS FALSE NEIGHBOUR: 'it returns false'. Refute it at one input. -/
def repairNearestWrong : ChangeSpec := { name := "repairNearest", fn := fun _ => fun
  | [d1, d2, d3, d4] => { results := [.lit (.bool false)], args := [d1, d2, d3, d4] }
  | _ => none }
def RepairNearestWrongFalsely : Prop := repairNearestRow.holds Tryd.pinned (OpenSpec.ofChange repairNearestWrong)

/- THE SECOND FORM. 'bulk': how many values and letters a reading holds, each counted each time it is reached (what is shared counts as often as it is met; a slice's spare places count too). A statement '..UptoSaid' is the law's where the arguments, and the package variables that the reading takes, are together of bulk at most 1048576: NARROWER than '..Said'. Prove '..Said' where nothing that the law and all that it calls make is longer than what came in: it says more and counts as full. Else prove '..UptoSaid'. A law counts once. -/
mutual
def uptoBulk {H : Type} : DataW H → Nat
  | .lit (.string bytes) => bytes.length + 1
  | .lit _ => 1
  | .nil => 1
  | .ptr d => uptoBulk d + 1
  | .slice elems spare => uptoBulkAll elems + uptoBulkAll spare + 1
  | .agg parts => uptoBulkAll parts + 1
  | .iface _ d => uptoBulk d + 1
  | .map entries => uptoBulkEntries entries + 1
  | .held _ => 1
def uptoBulkAll {H : Type} : List (DataW H) → Nat
  | [] => 0
  | d :: r => uptoBulk d + uptoBulkAll r
def uptoBulkEntries {H : Type} : List (Lit × DataW H) → Nat
  | [] => 0
  | x :: r => uptoBulkEntry x + uptoBulkEntries r
def uptoBulkEntry {H : Type} : Lit × DataW H → Nat
  | (.string bytes, d) => bytes.length + uptoBulk d + 1
  | (_, d) => uptoBulk d + 1
 end
def uptoSmall : (H : Type) → List (DataW H) → Bool := fun _ ds => decide (uptoBulkAll ds ≤ 1048576)
def OpenSpec.upto (s : _root_.Go.ChangeSpec) : _root_.Go.OpenSpec := { _root_.Go.OpenSpec.ofChange s with cond := some uptoSmall }

/-- 'grammarsmithlaw2.RepairNearest', WHERE WHAT IT READS IS OF BULK AT MOST 1048576: true; the input reads as it did. -/
def repairNearestUptoRow : OpenClaim := { program := "ytklhjaohnimmnaadoor", sum := "945a474bf6644f13dba660282d28f60466371d0f6c81ef43bbe64fc98852cdb6", func := "grammarsmith/grammarsmithlaw2.RepairNearest", spec := "repairNearest", inPlace := ["internal/reflectlite.ValueOf", "(internal/reflectlite.Value).Type", "(internal/reflectlite.Value).IsNil", "internal/reflectlite.TypeOf", "(internal/reflectlite.Value).Elem", "(internal/reflectlite.Value).Set"], unfollowed := true, recurses := true, named := ["grammarsmith/api.ErrSyntax", "grammarsmith/api.ErrBound", "grammarsmith/api.ErrRule", "grammarsmith/api.ErrName", "grammarsmith/api.ErrType", "grammarsmith/api.ErrConflict", "grammarsmith/api.ErrEnd", "errors.errorType"], plainKeys := false, apart := false, laid := [("errors.errorType", laid_errors_errorType), ("grammarsmith/api.ErrSyntax", laid_grammarsmith_api_ErrSyntax), ("grammarsmith/api.ErrBound", laid_grammarsmith_api_ErrBound), ("grammarsmith/api.ErrRule", laid_grammarsmith_api_ErrRule), ("grammarsmith/api.ErrName", laid_grammarsmith_api_ErrName), ("grammarsmith/api.ErrType", laid_grammarsmith_api_ErrType), ("grammarsmith/api.ErrConflict", laid_grammarsmith_api_ErrConflict), ("grammarsmith/api.ErrEnd", laid_grammarsmith_api_ErrEnd)], narrowed := true }
def RepairNearestUptoSaid : Prop := repairNearestUptoRow.holds Tryd.pinned (OpenSpec.upto repairNearestSpec)

end Rows
end Go.Proofs.YtklhjaohnimmnaaDoor
