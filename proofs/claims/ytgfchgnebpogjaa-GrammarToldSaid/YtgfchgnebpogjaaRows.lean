/-
  No cell of these rows narrows 'for every input' (looked for: loops, veiled, ifaces, maps, wideKeys, modest, calm, conditions, laid).
  DERIVED. THE GIVEN ROWS OF THIS SEAT. 4 by the template 'for every input the law returns true; each argument reads behind the call as it read before'; 0 by the template 'total and deterministic' (their statements: YtgfchgnebpogjaaTotals.lean).
  GIVEN WITH THE SEED: the statements are not yours to turn. If you find one false, say at which input.
  Laid BY PROGRAM, IN A SANDBOX (cutbox-rows.mjs): the forced cells as the released guide's own fill.sh prints them over the translation b8209f17722dee73… (all of the seat's roots in one cut). By AI agents, Wed Nov 11 2026. No macro, syntax, notation, axiom, sorry.
-/
import Derived.Test.YtgfchgnebpogjaaChecked
import GoSem.Claim
import GoSem.ClaimJoined
import GoSem.ClaimMapViews
import Derived.JoinedTies
import Derived.KernelRfl
namespace Go.Proofs.Ytgfchgnebpogjaa
/- THE CELL 'sum', in the pinned program and in every row, IS THE sha256 OF THE DUMP (.gsa) THAT YtgfchgnebpogjaaProg.lean LOADS. Nothing in Lean hashes anything: it is a label: what it is worth is what the hold of that sum in a sandbox is worth. -/
noncomputable def Try.pinned : Pinned := { name := "ytgfchgnebpogjaa", sum := "b8209f17722dee738278346f124453855be087f9253b79930f137b67669bdb1b", checked := Try.checked }
namespace Rows
def none {H : Type} : Left H := { results := [], args := [] }

/-- 'grammarsmithlaw2.RepairCost': WHATEVER THE INPUT: true; the input reads as it did. -/
def repairCostSpec : ChangeSpec := { name := "repairCost", fn := fun _ => fun
  | [d1, d2, d3] => { results := [.lit (.bool true)], args := [d1, d2, d3] }
  | _ => none }
def repairCostRow : OpenClaim := { program := "ytgfchgnebpogjaa", sum := "b8209f17722dee738278346f124453855be087f9253b79930f137b67669bdb1b", func := "grammarsmith/grammarsmithlaw2.RepairCost", spec := "repairCost", unfollowed := true, recurses := true, apart := false }
def RepairCostSaid : Prop := repairCostRow.holds Try.pinned (OpenSpec.ofChange repairCostSpec)

/-- ITS FALSE NEIGHBOUR: 'it returns false'. Refute it at one input. -/
def repairCostWrong : ChangeSpec := { name := "repairCost", fn := fun _ => fun
  | [d1, d2, d3] => { results := [.lit (.bool false)], args := [d1, d2, d3] }
  | _ => none }
def RepairCostWrongFalsely : Prop := repairCostRow.holds Try.pinned (OpenSpec.ofChange repairCostWrong)

/-- 'grammarsmithlaw2.GrammarShort': WHATEVER THE INPUT: true; the input reads as it did. -/
def grammarShortSpec : ChangeSpec := { name := "grammarShort", fn := fun _ => fun
  | [d1, d2] => { results := [.lit (.bool true)], args := [d1, d2] }
  | _ => none }
def grammarShortRow : OpenClaim := { program := "ytgfchgnebpogjaa", sum := "b8209f17722dee738278346f124453855be087f9253b79930f137b67669bdb1b", func := "grammarsmith/grammarsmithlaw2.GrammarShort", spec := "grammarShort", unfollowed := true, recurses := true, apart := false }
def GrammarShortSaid : Prop := grammarShortRow.holds Try.pinned (OpenSpec.ofChange grammarShortSpec)

/-- ITS FALSE NEIGHBOUR: 'it returns false'. Refute it at one input. -/
def grammarShortWrong : ChangeSpec := { name := "grammarShort", fn := fun _ => fun
  | [d1, d2] => { results := [.lit (.bool false)], args := [d1, d2] }
  | _ => none }
def GrammarShortWrongFalsely : Prop := grammarShortRow.holds Try.pinned (OpenSpec.ofChange grammarShortWrong)

/-- 'grammarsmithlaw2.GrammarSpeaks': WHATEVER THE INPUT: true; the input reads as it did. -/
def grammarSpeaksSpec : ChangeSpec := { name := "grammarSpeaks", fn := fun _ => fun
  | [d] => { results := [.lit (.bool true)], args := [d] }
  | _ => none }
def grammarSpeaksRow : OpenClaim := { program := "ytgfchgnebpogjaa", sum := "b8209f17722dee738278346f124453855be087f9253b79930f137b67669bdb1b", func := "grammarsmith/grammarsmithlaw2.GrammarSpeaks", spec := "grammarSpeaks", unfollowed := true, recurses := true, apart := false }
def GrammarSpeaksSaid : Prop := grammarSpeaksRow.holds Try.pinned (OpenSpec.ofChange grammarSpeaksSpec)

/-- ITS FALSE NEIGHBOUR: 'it returns false'. Refute it at one input. -/
def grammarSpeaksWrong : ChangeSpec := { name := "grammarSpeaks", fn := fun _ => fun
  | [d] => { results := [.lit (.bool false)], args := [d] }
  | _ => none }
def GrammarSpeaksWrongFalsely : Prop := grammarSpeaksRow.holds Try.pinned (OpenSpec.ofChange grammarSpeaksWrong)

/-- 'grammarsmithlaw2.GrammarTold': WHATEVER THE INPUT: true; the input reads as it did. -/
def grammarToldSpec : ChangeSpec := { name := "grammarTold", fn := fun _ => fun
  | [d] => { results := [.lit (.bool true)], args := [d] }
  | _ => none }
def grammarToldRow : OpenClaim := { program := "ytgfchgnebpogjaa", sum := "b8209f17722dee738278346f124453855be087f9253b79930f137b67669bdb1b", func := "grammarsmith/grammarsmithlaw2.GrammarTold", spec := "grammarTold", unfollowed := true, recurses := true, apart := false }
def GrammarToldSaid : Prop := grammarToldRow.holds Try.pinned (OpenSpec.ofChange grammarToldSpec)

/-- ITS FALSE NEIGHBOUR: 'it returns false'. Refute it at one input. -/
def grammarToldWrong : ChangeSpec := { name := "grammarTold", fn := fun _ => fun
  | [d] => { results := [.lit (.bool false)], args := [d] }
  | _ => none }
def GrammarToldWrongFalsely : Prop := grammarToldRow.holds Try.pinned (OpenSpec.ofChange grammarToldWrong)

/- THE SECOND FORM. 'bulk': how many values and letters a reading holds, each counted each time it is reached (what is shared counts as often as it is met; a slice's spare places count too). A statement '..UptoSaid' is the law's where the arguments, and the package variables that the reading takes, are together of bulk at most 1048576: NARROWER than '..Said'. Prove '..Said' where nothing that the law and all that it calls make is longer than what came in: it says more and counts as full. Else prove '..UptoSaid'. A law counts once. -/
mutual
def uptoBulk {H : Type} : DataW H → Nat
  | .lit (.string bytes) => bytes.length + 1
  | .lit _ => 1
  | .nil => 1
  | .ptr d => uptoBulk d + 1
  | .slice elems spare => uptoBulkAll elems + uptoBulkAll spare + 1
  | .agg parts => uptoBulkAll parts + 1
  | .iface _ d => uptoBulk d + 1
  | .map entries => uptoBulkEntries entries + 1
  | .held _ => 1
def uptoBulkAll {H : Type} : List (DataW H) → Nat
  | [] => 0
  | d :: r => uptoBulk d + uptoBulkAll r
def uptoBulkEntries {H : Type} : List (Lit × DataW H) → Nat
  | [] => 0
  | x :: r => uptoBulkEntry x + uptoBulkEntries r
def uptoBulkEntry {H : Type} : Lit × DataW H → Nat
  | (.string bytes, d) => bytes.length + uptoBulk d + 1
  | (_, d) => uptoBulk d + 1
 end
def uptoSmall : (H : Type) → List (DataW H) → Bool := fun _ ds => decide (uptoBulkAll ds ≤ 1048576)
def OpenSpec.upto (s : _root_.Go.ChangeSpec) : _root_.Go.OpenSpec := { _root_.Go.OpenSpec.ofChange s with cond := some uptoSmall }

/-- 'grammarsmithlaw2.RepairCost', WHERE WHAT IT READS IS OF BULK AT MOST 1048576: true; the input reads as it did. -/
def repairCostUptoRow : OpenClaim := { program := "ytgfchgnebpogjaa", sum := "b8209f17722dee738278346f124453855be087f9253b79930f137b67669bdb1b", func := "grammarsmith/grammarsmithlaw2.RepairCost", spec := "repairCost", unfollowed := true, recurses := true, apart := false, narrowed := true }
def RepairCostUptoSaid : Prop := repairCostUptoRow.holds Try.pinned (OpenSpec.upto repairCostSpec)

/-- 'grammarsmithlaw2.GrammarShort', WHERE WHAT IT READS IS OF BULK AT MOST 1048576: true; the input reads as it did. -/
def grammarShortUptoRow : OpenClaim := { program := "ytgfchgnebpogjaa", sum := "b8209f17722dee738278346f124453855be087f9253b79930f137b67669bdb1b", func := "grammarsmith/grammarsmithlaw2.GrammarShort", spec := "grammarShort", unfollowed := true, recurses := true, apart := false, narrowed := true }
def GrammarShortUptoSaid : Prop := grammarShortUptoRow.holds Try.pinned (OpenSpec.upto grammarShortSpec)

/-- 'grammarsmithlaw2.GrammarSpeaks', WHERE WHAT IT READS IS OF BULK AT MOST 1048576: true; the input reads as it did. -/
def grammarSpeaksUptoRow : OpenClaim := { program := "ytgfchgnebpogjaa", sum := "b8209f17722dee738278346f124453855be087f9253b79930f137b67669bdb1b", func := "grammarsmith/grammarsmithlaw2.GrammarSpeaks", spec := "grammarSpeaks", unfollowed := true, recurses := true, apart := false, narrowed := true }
def GrammarSpeaksUptoSaid : Prop := grammarSpeaksUptoRow.holds Try.pinned (OpenSpec.upto grammarSpeaksSpec)

/-- 'grammarsmithlaw2.GrammarTold', WHERE WHAT IT READS IS OF BULK AT MOST 1048576: true; the input reads as it did. -/
def grammarToldUptoRow : OpenClaim := { program := "ytgfchgnebpogjaa", sum := "b8209f17722dee738278346f124453855be087f9253b79930f137b67669bdb1b", func := "grammarsmith/grammarsmithlaw2.GrammarTold", spec := "grammarTold", unfollowed := true, recurses := true, apart := false, narrowed := true }
def GrammarToldUptoSaid : Prop := grammarToldUptoRow.holds Try.pinned (OpenSpec.upto grammarToldSpec)

end Rows
end Go.Proofs.Ytgfchgnebpogjaa
