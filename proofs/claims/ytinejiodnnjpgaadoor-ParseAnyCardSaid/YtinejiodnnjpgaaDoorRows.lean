/-
  NARROWER THAN 'FOR EVERY INPUT', by the rows' own cells (each row's printed sentence says how): Names: laid · TreeTold: laid · ParseAny: laid.
  DERIVED. THE GIVEN ROWS OF THIS SEAT. 3 by the template 'for every input the law returns true; each argument reads behind the call as it read before'; 0 by the template 'total and deterministic' (their statements: YtinejiodnnjpgaaDoorTotals.lean).
  GIVEN WITH THE SEED: the statements are not yours to turn. If you find one false, say at which input.
  Laid BY PROGRAM, IN A SANDBOX (cutbox-rows.mjs): the forced cells as the released guide's own fill.sh prints them over the translation 989b655c28d6a649… (all of the seat's roots in one cut). By AI agents, Wed Nov 11 2026. No macro, syntax, notation, axiom, sorry.
-/
import Derived.Test.YtinejiodnnjpgaaDoorChecked
import GoSem.Claim
import GoSem.ClaimJoined
import GoSem.ClaimMapViews
import Derived.JoinedTies
import Derived.KernelRfl
namespace Go.Proofs.YtinejiodnnjpgaaDoor
/- THE CELL 'sum', in the pinned program and in every row, IS THE sha256 OF THE DUMP (.gsa) THAT YtinejiodnnjpgaaDoorProg.lean LOADS. Nothing in Lean hashes anything: it is a label: what it is worth is what the hold of that sum in a sandbox is worth. -/
noncomputable def Tryd.pinned : Pinned := { name := "ytinejiodnnjpgaadoor", sum := "989b655c28d6a649043e7e5e7264f408974ec4350afed59d311099936f3a36e6", checked := Tryd.checked }
namespace Rows
def none {H : Type} : Left H := { results := [], args := [] }

/- WHAT THE LISTED PACKAGE-LEVEL VARIABLES READ AS WHEN THE CALL BEGINS. Each datum BY PROGRAM (the guide's laid-datum.mjs) off the statement by which the dump's own 'gosem.cut.vars' lays the variable. In a bare row this is a premise. The card (YtinejiodnnjpgaaDoorCards.lean) ties it to the program's text. -/
def laid_errors_errorType {H : Type} : DataW H := .iface "internal/reflectlite.rtype" (.agg [.ptr (.lit (.string [101, 114, 114, 111, 114]))])
def laid_grammarsmith_api_ErrSyntax {H : Type} : DataW H := .iface "*errors.errorString" (.ptr (.agg [.lit (.string [110, 111, 116, 32, 111, 102, 32, 116, 104, 101, 32, 102, 111, 114, 109, 32, 97, 115, 107, 101, 100])]))
def laid_grammarsmith_api_ErrBound {H : Type} : DataW H := .iface "*errors.errorString" (.ptr (.agg [.lit (.string [109, 111, 114, 101, 32, 116, 104, 97, 110, 32, 109, 97, 121, 32, 98, 101])]))
def laid_grammarsmith_api_ErrRule {H : Type} : DataW H := .iface "*errors.errorString" (.ptr (.agg [.lit (.string [97, 32, 114, 117, 108, 101, 32, 116, 104, 97, 116, 32, 99, 97, 110, 32, 110, 111, 116, 32, 115, 116, 97, 110, 100])]))
def laid_grammarsmith_api_ErrName {H : Type} : DataW H := .iface "*errors.errorString" (.ptr (.agg [.lit (.string [97, 32, 110, 97, 109, 101, 32, 116, 104, 97, 116, 32, 105, 115, 32, 110, 111, 110, 101, 44, 32, 111, 114, 32, 105, 115, 32, 116, 104, 101, 114, 101, 32, 97, 108, 114, 101, 97, 100, 121])]))
def laid_grammarsmith_api_ErrType {H : Type} : DataW H := .iface "*errors.errorString" (.ptr (.agg [.lit (.string [97, 32, 118, 97, 108, 117, 101, 32, 111, 102, 32, 97, 110, 111, 116, 104, 101, 114, 32, 116, 121, 112, 101])]))
def laid_grammarsmith_api_ErrConflict {H : Type} : DataW H := .iface "*errors.errorString" (.ptr (.agg [.lit (.string [97, 110, 32, 97, 99, 116, 105, 111, 110, 32, 105, 115, 32, 110, 111, 116, 32, 100, 101, 99, 105, 100, 101, 100])]))
def laid_grammarsmith_api_ErrEnd {H : Type} : DataW H := .iface "*errors.errorString" (.ptr (.agg [.lit (.string [110, 111, 32, 115, 101, 110, 116, 101, 110, 99, 101])]))
def laid_math_bits_deBruijn32tab {H : Type} : DataW H := .agg [.lit (.int .u8 0), .lit (.int .u8 1), .lit (.int .u8 28), .lit (.int .u8 2), .lit (.int .u8 29), .lit (.int .u8 14), .lit (.int .u8 24), .lit (.int .u8 3), .lit (.int .u8 30), .lit (.int .u8 22), .lit (.int .u8 20), .lit (.int .u8 15), .lit (.int .u8 25), .lit (.int .u8 17), .lit (.int .u8 4), .lit (.int .u8 8), .lit (.int .u8 31), .lit (.int .u8 27), .lit (.int .u8 13), .lit (.int .u8 23), .lit (.int .u8 21), .lit (.int .u8 19), .lit (.int .u8 16), .lit (.int .u8 7), .lit (.int .u8 26), .lit (.int .u8 12), .lit (.int .u8 18), .lit (.int .u8 6), .lit (.int .u8 11), .lit (.int .u8 5), .lit (.int .u8 10), .lit (.int .u8 9)]
def laid_math_bits_deBruijn64tab {H : Type} : DataW H := .agg [.lit (.int .u8 0), .lit (.int .u8 1), .lit (.int .u8 56), .lit (.int .u8 2), .lit (.int .u8 57), .lit (.int .u8 49), .lit (.int .u8 28), .lit (.int .u8 3), .lit (.int .u8 61), .lit (.int .u8 58), .lit (.int .u8 42), .lit (.int .u8 50), .lit (.int .u8 38), .lit (.int .u8 29), .lit (.int .u8 17), .lit (.int .u8 4), .lit (.int .u8 62), .lit (.int .u8 47), .lit (.int .u8 59), .lit (.int .u8 36), .lit (.int .u8 45), .lit (.int .u8 43), .lit (.int .u8 51), .lit (.int .u8 22), .lit (.int .u8 53), .lit (.int .u8 39), .lit (.int .u8 33), .lit (.int .u8 30), .lit (.int .u8 24), .lit (.int .u8 18), .lit (.int .u8 12), .lit (.int .u8 5), .lit (.int .u8 63), .lit (.int .u8 55), .lit (.int .u8 48), .lit (.int .u8 27), .lit (.int .u8 60), .lit (.int .u8 41), .lit (.int .u8 37), .lit (.int .u8 16), .lit (.int .u8 46), .lit (.int .u8 35), .lit (.int .u8 44), .lit (.int .u8 21), .lit (.int .u8 52), .lit (.int .u8 32), .lit (.int .u8 23), .lit (.int .u8 11), .lit (.int .u8 54), .lit (.int .u8 26), .lit (.int .u8 40), .lit (.int .u8 15), .lit (.int .u8 34), .lit (.int .u8 20), .lit (.int .u8 31), .lit (.int .u8 10), .lit (.int .u8 25), .lit (.int .u8 14), .lit (.int .u8 19), .lit (.int .u8 9), .lit (.int .u8 13), .lit (.int .u8 8), .lit (.int .u8 7), .lit (.int .u8 6)]
def laid_internal_strconv_uint64pow10 {H : Type} : DataW H := .agg [.lit (.int .u64 1), .lit (.int .u64 10), .lit (.int .u64 100), .lit (.int .u64 1000), .lit (.int .u64 10000), .lit (.int .u64 100000), .lit (.int .u64 1000000), .lit (.int .u64 10000000), .lit (.int .u64 100000000), .lit (.int .u64 1000000000), .lit (.int .u64 10000000000), .lit (.int .u64 100000000000), .lit (.int .u64 1000000000000), .lit (.int .u64 10000000000000), .lit (.int .u64 100000000000000), .lit (.int .u64 1000000000000000), .lit (.int .u64 10000000000000000), .lit (.int .u64 100000000000000000), .lit (.int .u64 1000000000000000000), .lit (.int .u64 10000000000000000000)]

/-- 'grammarsmithlaw1.Names': WHATEVER THE INPUT: true; the input reads as it did. -/
def namesSpec : ChangeSpec := { name := "names", fn := fun _ => fun
  | [] => { results := [.lit (.bool true)], args := [] }
  | _ => none }
def namesRow : OpenClaim := { program := "ytinejiodnnjpgaadoor", sum := "989b655c28d6a649043e7e5e7264f408974ec4350afed59d311099936f3a36e6", func := "grammarsmith/grammarsmithlaw1.Names", spec := "names", inPlace := ["internal/reflectlite.ValueOf", "(internal/reflectlite.Value).Type", "(internal/reflectlite.Value).IsNil", "internal/reflectlite.TypeOf", "(internal/reflectlite.Value).Elem", "(internal/reflectlite.Value).Set"], unfollowed := true, recurses := true, named := ["grammarsmith/api.ErrSyntax", "grammarsmith/api.ErrBound", "grammarsmith/api.ErrRule", "grammarsmith/api.ErrName", "grammarsmith/api.ErrType", "grammarsmith/api.ErrConflict", "grammarsmith/api.ErrEnd", "errors.errorType"], apart := false, laid := [("errors.errorType", laid_errors_errorType), ("grammarsmith/api.ErrSyntax", laid_grammarsmith_api_ErrSyntax), ("grammarsmith/api.ErrBound", laid_grammarsmith_api_ErrBound), ("grammarsmith/api.ErrRule", laid_grammarsmith_api_ErrRule), ("grammarsmith/api.ErrName", laid_grammarsmith_api_ErrName), ("grammarsmith/api.ErrType", laid_grammarsmith_api_ErrType), ("grammarsmith/api.ErrConflict", laid_grammarsmith_api_ErrConflict), ("grammarsmith/api.ErrEnd", laid_grammarsmith_api_ErrEnd)] }
def NamesSaid : Prop := namesRow.holds Tryd.pinned (OpenSpec.ofChange namesSpec)

/-- ITS FALSE NEIGHBOUR: 'it returns false'. Refute it at one input. -/
def namesWrong : ChangeSpec := { name := "names", fn := fun _ => fun
  | [] => { results := [.lit (.bool false)], args := [] }
  | _ => none }
def NamesWrongFalsely : Prop := namesRow.holds Tryd.pinned (OpenSpec.ofChange namesWrong)

/-- 'grammarsmithlaw2.TreeTold': WHATEVER THE INPUT: true; the input reads as it did. -/
def treeToldSpec : ChangeSpec := { name := "treeTold", fn := fun _ => fun
  | [d1, d2, d3] => { results := [.lit (.bool true)], args := [d1, d2, d3] }
  | _ => none }
def treeToldRow : OpenClaim := { program := "ytinejiodnnjpgaadoor", sum := "989b655c28d6a649043e7e5e7264f408974ec4350afed59d311099936f3a36e6", func := "grammarsmith/grammarsmithlaw2.TreeTold", spec := "treeTold", inPlace := ["internal/abi.NoEscape"], unfollowed := true, recurses := true, named := ["internal/strconv.uint64pow10", "math/bits.deBruijn32tab", "math/bits.deBruijn64tab"], apart := false, laid := [("math/bits.deBruijn32tab", laid_math_bits_deBruijn32tab), ("math/bits.deBruijn64tab", laid_math_bits_deBruijn64tab), ("internal/strconv.uint64pow10", laid_internal_strconv_uint64pow10)] }
def TreeToldSaid : Prop := treeToldRow.holds Tryd.pinned (OpenSpec.ofChange treeToldSpec)

/-- ITS FALSE NEIGHBOUR: 'it returns false'. Refute it at one input. -/
def treeToldWrong : ChangeSpec := { name := "treeTold", fn := fun _ => fun
  | [d1, d2, d3] => { results := [.lit (.bool false)], args := [d1, d2, d3] }
  | _ => none }
def TreeToldWrongFalsely : Prop := treeToldRow.holds Tryd.pinned (OpenSpec.ofChange treeToldWrong)

/-- 'grammarsmithlaw2.ParseAny': WHATEVER THE INPUT: true; the input reads as it did. -/
def parseAnySpec : ChangeSpec := { name := "parseAny", fn := fun _ => fun
  | [d1, d2, d3] => { results := [.lit (.bool true)], args := [d1, d2, d3] }
  | _ => none }
def parseAnyRow : OpenClaim := { program := "ytinejiodnnjpgaadoor", sum := "989b655c28d6a649043e7e5e7264f408974ec4350afed59d311099936f3a36e6", func := "grammarsmith/grammarsmithlaw2.ParseAny", spec := "parseAny", inPlace := ["internal/reflectlite.ValueOf", "(internal/reflectlite.Value).Type", "(internal/reflectlite.Value).IsNil", "internal/reflectlite.TypeOf", "(internal/reflectlite.Value).Elem", "(internal/reflectlite.Value).Set"], unfollowed := true, recurses := true, named := ["grammarsmith/api.ErrSyntax", "grammarsmith/api.ErrEnd", "grammarsmith/api.ErrRule", "grammarsmith/api.ErrBound", "grammarsmith/api.ErrName", "grammarsmith/api.ErrType", "grammarsmith/api.ErrConflict", "errors.errorType"], apart := false, laid := [("errors.errorType", laid_errors_errorType), ("grammarsmith/api.ErrSyntax", laid_grammarsmith_api_ErrSyntax), ("grammarsmith/api.ErrBound", laid_grammarsmith_api_ErrBound), ("grammarsmith/api.ErrRule", laid_grammarsmith_api_ErrRule), ("grammarsmith/api.ErrName", laid_grammarsmith_api_ErrName), ("grammarsmith/api.ErrType", laid_grammarsmith_api_ErrType), ("grammarsmith/api.ErrConflict", laid_grammarsmith_api_ErrConflict), ("grammarsmith/api.ErrEnd", laid_grammarsmith_api_ErrEnd)] }
def ParseAnySaid : Prop := parseAnyRow.holds Tryd.pinned (OpenSpec.ofChange parseAnySpec)

/-- ITS FALSE NEIGHBOUR: 'it returns false'. Refute it at one input. -/
def parseAnyWrong : ChangeSpec := { name := "parseAny", fn := fun _ => fun
  | [d1, d2, d3] => { results := [.lit (.bool false)], args := [d1, d2, d3] }
  | _ => none }
def ParseAnyWrongFalsely : Prop := parseAnyRow.holds Tryd.pinned (OpenSpec.ofChange parseAnyWrong)

/- THE SECOND FORM. 'bulk': how many values and letters a reading holds, each counted each time it is reached (what is shared counts as often as it is met; a slice's spare places count too). A statement '..UptoSaid' is the law's where the arguments, and the package variables that the reading takes, are together of bulk at most 1048576: NARROWER than '..Said'. Prove '..Said' where nothing that the law and all that it calls make is longer than what came in: it says more and counts as full. Else prove '..UptoSaid'. A law counts once. -/
mutual
def uptoBulk {H : Type} : DataW H → Nat
  | .lit (.string bytes) => bytes.length + 1
  | .lit _ => 1
  | .nil => 1
  | .ptr d => uptoBulk d + 1
  | .slice elems spare => uptoBulkAll elems + uptoBulkAll spare + 1
  | .agg parts => uptoBulkAll parts + 1
  | .iface _ d => uptoBulk d + 1
  | .map entries => uptoBulkEntries entries + 1
  | .held _ => 1
def uptoBulkAll {H : Type} : List (DataW H) → Nat
  | [] => 0
  | d :: r => uptoBulk d + uptoBulkAll r
def uptoBulkEntries {H : Type} : List (Lit × DataW H) → Nat
  | [] => 0
  | x :: r => uptoBulkEntry x + uptoBulkEntries r
def uptoBulkEntry {H : Type} : Lit × DataW H → Nat
  | (.string bytes, d) => bytes.length + uptoBulk d + 1
  | (_, d) => uptoBulk d + 1
 end
def uptoSmall : (H : Type) → List (DataW H) → Bool := fun _ ds => decide (uptoBulkAll ds ≤ 1048576)
def OpenSpec.upto (s : _root_.Go.ChangeSpec) : _root_.Go.OpenSpec := { _root_.Go.OpenSpec.ofChange s with cond := some uptoSmall }

/-- 'grammarsmithlaw1.Names', WHERE WHAT IT READS IS OF BULK AT MOST 1048576: true; the input reads as it did. -/
def namesUptoRow : OpenClaim := { program := "ytinejiodnnjpgaadoor", sum := "989b655c28d6a649043e7e5e7264f408974ec4350afed59d311099936f3a36e6", func := "grammarsmith/grammarsmithlaw1.Names", spec := "names", inPlace := ["internal/reflectlite.ValueOf", "(internal/reflectlite.Value).Type", "(internal/reflectlite.Value).IsNil", "internal/reflectlite.TypeOf", "(internal/reflectlite.Value).Elem", "(internal/reflectlite.Value).Set"], unfollowed := true, recurses := true, named := ["grammarsmith/api.ErrSyntax", "grammarsmith/api.ErrBound", "grammarsmith/api.ErrRule", "grammarsmith/api.ErrName", "grammarsmith/api.ErrType", "grammarsmith/api.ErrConflict", "grammarsmith/api.ErrEnd", "errors.errorType"], apart := false, laid := [("errors.errorType", laid_errors_errorType), ("grammarsmith/api.ErrSyntax", laid_grammarsmith_api_ErrSyntax), ("grammarsmith/api.ErrBound", laid_grammarsmith_api_ErrBound), ("grammarsmith/api.ErrRule", laid_grammarsmith_api_ErrRule), ("grammarsmith/api.ErrName", laid_grammarsmith_api_ErrName), ("grammarsmith/api.ErrType", laid_grammarsmith_api_ErrType), ("grammarsmith/api.ErrConflict", laid_grammarsmith_api_ErrConflict), ("grammarsmith/api.ErrEnd", laid_grammarsmith_api_ErrEnd)], narrowed := true }
def NamesUptoSaid : Prop := namesUptoRow.holds Tryd.pinned (OpenSpec.upto namesSpec)

/-- 'grammarsmithlaw2.TreeTold', WHERE WHAT IT READS IS OF BULK AT MOST 1048576: true; the input reads as it did. -/
def treeToldUptoRow : OpenClaim := { program := "ytinejiodnnjpgaadoor", sum := "989b655c28d6a649043e7e5e7264f408974ec4350afed59d311099936f3a36e6", func := "grammarsmith/grammarsmithlaw2.TreeTold", spec := "treeTold", inPlace := ["internal/abi.NoEscape"], unfollowed := true, recurses := true, named := ["internal/strconv.uint64pow10", "math/bits.deBruijn32tab", "math/bits.deBruijn64tab"], apart := false, laid := [("math/bits.deBruijn32tab", laid_math_bits_deBruijn32tab), ("math/bits.deBruijn64tab", laid_math_bits_deBruijn64tab), ("internal/strconv.uint64pow10", laid_internal_strconv_uint64pow10)], narrowed := true }
def TreeToldUptoSaid : Prop := treeToldUptoRow.holds Tryd.pinned (OpenSpec.upto treeToldSpec)

/-- 'grammarsmithlaw2.ParseAny', WHERE WHAT IT READS IS OF BULK AT MOST 1048576: true; the input reads as it did. -/
def parseAnyUptoRow : OpenClaim := { program := "ytinejiodnnjpgaadoor", sum := "989b655c28d6a649043e7e5e7264f408974ec4350afed59d311099936f3a36e6", func := "grammarsmith/grammarsmithlaw2.ParseAny", spec := "parseAny", inPlace := ["internal/reflectlite.ValueOf", "(internal/reflectlite.Value).Type", "(internal/reflectlite.Value).IsNil", "internal/reflectlite.TypeOf", "(internal/reflectlite.Value).Elem", "(internal/reflectlite.Value).Set"], unfollowed := true, recurses := true, named := ["grammarsmith/api.ErrSyntax", "grammarsmith/api.ErrEnd", "grammarsmith/api.ErrRule", "grammarsmith/api.ErrBound", "grammarsmith/api.ErrName", "grammarsmith/api.ErrType", "grammarsmith/api.ErrConflict", "errors.errorType"], apart := false, laid := [("errors.errorType", laid_errors_errorType), ("grammarsmith/api.ErrSyntax", laid_grammarsmith_api_ErrSyntax), ("grammarsmith/api.ErrBound", laid_grammarsmith_api_ErrBound), ("grammarsmith/api.ErrRule", laid_grammarsmith_api_ErrRule), ("grammarsmith/api.ErrName", laid_grammarsmith_api_ErrName), ("grammarsmith/api.ErrType", laid_grammarsmith_api_ErrType), ("grammarsmith/api.ErrConflict", laid_grammarsmith_api_ErrConflict), ("grammarsmith/api.ErrEnd", laid_grammarsmith_api_ErrEnd)], narrowed := true }
def ParseAnyUptoSaid : Prop := parseAnyUptoRow.holds Tryd.pinned (OpenSpec.upto parseAnySpec)

end Rows
end Go.Proofs.YtinejiodnnjpgaaDoor
