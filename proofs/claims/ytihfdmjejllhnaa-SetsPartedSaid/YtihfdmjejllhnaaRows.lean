/-
  No cell of these rows narrows 'for every input' (looked for: loops, veiled, ifaces, maps, wideKeys, modest, calm, conditions, laid).
  DERIVED. THE GIVEN ROWS OF THIS SEAT. 5 by the template 'for every input the law returns true; each argument reads behind the call as it read before'; 0 by the template 'total and deterministic' (their statements: YtihfdmjejllhnaaTotals.lean).
  GIVEN WITH THE SEED: the statements are not yours to turn. If you find one false, say at which input.
  Laid BY PROGRAM, IN A SANDBOX (cutbox-rows.mjs): the forced cells as the released guide's own fill.sh prints them over the translation d0bb6827fbd541d7… (all of the seat's roots in one cut). By AI agents, Wed Nov 11 2026. No macro, syntax, notation, axiom, sorry.
-/
import Derived.Test.YtihfdmjejllhnaaChecked
import GoSem.Claim
import GoSem.ClaimJoined
import GoSem.ClaimMapViews
import Derived.JoinedTies
import Derived.KernelRfl
namespace Go.Proofs.Ytihfdmjejllhnaa
/- THE CELL 'sum', in the pinned program and in every row, IS THE sha256 OF THE DUMP (.gsa) THAT YtihfdmjejllhnaaProg.lean LOADS. Nothing in Lean hashes anything: it is a label: what it is worth is what the hold of that sum in a sandbox is worth. -/
noncomputable def Try.pinned : Pinned := { name := "ytihfdmjejllhnaa", sum := "d0bb6827fbd541d78fa6d236a61ccdc81b3fd4d4a3baf8f759b4bdee1f3af0b2", checked := Try.checked }
namespace Rows
def none {H : Type} : Left H := { results := [], args := [] }

/-- 'grammarsmithlaw1.PointsTurned': WHATEVER THE INPUT: true; the input reads as it did. -/
def pointsTurnedSpec : ChangeSpec := { name := "pointsTurned", fn := fun _ => fun
  | [d1, d2] => { results := [.lit (.bool true)], args := [d1, d2] }
  | _ => none }
def pointsTurnedRow : OpenClaim := { program := "ytihfdmjejllhnaa", sum := "d0bb6827fbd541d78fa6d236a61ccdc81b3fd4d4a3baf8f759b4bdee1f3af0b2", func := "grammarsmith/grammarsmithlaw1.PointsTurned", spec := "pointsTurned", apart := false }
def PointsTurnedSaid : Prop := pointsTurnedRow.holds Try.pinned (OpenSpec.ofChange pointsTurnedSpec)

/-- ITS FALSE NEIGHBOUR: 'it returns false'. Refute it at one input. -/
def pointsTurnedWrong : ChangeSpec := { name := "pointsTurned", fn := fun _ => fun
  | [d1, d2] => { results := [.lit (.bool false)], args := [d1, d2] }
  | _ => none }
def PointsTurnedWrongFalsely : Prop := pointsTurnedRow.holds Try.pinned (OpenSpec.ofChange pointsTurnedWrong)

/-- 'grammarsmithlaw1.PointsBack': WHATEVER THE INPUT: true; the input reads as it did. -/
def pointsBackSpec : ChangeSpec := { name := "pointsBack", fn := fun _ => fun
  | [d] => { results := [.lit (.bool true)], args := [d] }
  | _ => none }
def pointsBackRow : OpenClaim := { program := "ytihfdmjejllhnaa", sum := "d0bb6827fbd541d78fa6d236a61ccdc81b3fd4d4a3baf8f759b4bdee1f3af0b2", func := "grammarsmith/grammarsmithlaw1.PointsBack", spec := "pointsBack", apart := false }
def PointsBackSaid : Prop := pointsBackRow.holds Try.pinned (OpenSpec.ofChange pointsBackSpec)

/-- ITS FALSE NEIGHBOUR: 'it returns false'. Refute it at one input. -/
def pointsBackWrong : ChangeSpec := { name := "pointsBack", fn := fun _ => fun
  | [d] => { results := [.lit (.bool false)], args := [d] }
  | _ => none }
def PointsBackWrongFalsely : Prop := pointsBackRow.holds Try.pinned (OpenSpec.ofChange pointsBackWrong)

/-- 'grammarsmithlaw1.AutoRun': WHATEVER THE INPUT: true; the input reads as it did. -/
def autoRunSpec : ChangeSpec := { name := "autoRun", fn := fun _ => fun
  | [d1, d2] => { results := [.lit (.bool true)], args := [d1, d2] }
  | _ => none }
def autoRunRow : OpenClaim := { program := "ytihfdmjejllhnaa", sum := "d0bb6827fbd541d78fa6d236a61ccdc81b3fd4d4a3baf8f759b4bdee1f3af0b2", func := "grammarsmith/grammarsmithlaw1.AutoRun", spec := "autoRun", unfollowed := true, recurses := true, apart := false }
def AutoRunSaid : Prop := autoRunRow.holds Try.pinned (OpenSpec.ofChange autoRunSpec)

/-- ITS FALSE NEIGHBOUR: 'it returns false'. Refute it at one input. -/
def autoRunWrong : ChangeSpec := { name := "autoRun", fn := fun _ => fun
  | [d1, d2] => { results := [.lit (.bool false)], args := [d1, d2] }
  | _ => none }
def AutoRunWrongFalsely : Prop := autoRunRow.holds Try.pinned (OpenSpec.ofChange autoRunWrong)

/-- 'grammarsmithlaw1.SetsParted': WHATEVER THE INPUT: true; the input reads as it did. -/
def setsPartedSpec : ChangeSpec := { name := "setsParted", fn := fun _ => fun
  | [d] => { results := [.lit (.bool true)], args := [d] }
  | _ => none }
def setsPartedRow : OpenClaim := { program := "ytihfdmjejllhnaa", sum := "d0bb6827fbd541d78fa6d236a61ccdc81b3fd4d4a3baf8f759b4bdee1f3af0b2", func := "grammarsmith/grammarsmithlaw1.SetsParted", spec := "setsParted", unfollowed := true, recurses := true, apart := false }
def SetsPartedSaid : Prop := setsPartedRow.holds Try.pinned (OpenSpec.ofChange setsPartedSpec)

/-- ITS FALSE NEIGHBOUR: 'it returns false'. Refute it at one input. -/
def setsPartedWrong : ChangeSpec := { name := "setsParted", fn := fun _ => fun
  | [d] => { results := [.lit (.bool false)], args := [d] }
  | _ => none }
def SetsPartedWrongFalsely : Prop := setsPartedRow.holds Try.pinned (OpenSpec.ofChange setsPartedWrong)

/-- 'grammarsmithlaw1.SetsMade': WHATEVER THE INPUT: true; the input reads as it did. -/
def setsMadeSpec : ChangeSpec := { name := "setsMade", fn := fun _ => fun
  | [d1, d2, d3] => { results := [.lit (.bool true)], args := [d1, d2, d3] }
  | _ => none }
def setsMadeRow : OpenClaim := { program := "ytihfdmjejllhnaa", sum := "d0bb6827fbd541d78fa6d236a61ccdc81b3fd4d4a3baf8f759b4bdee1f3af0b2", func := "grammarsmith/grammarsmithlaw1.SetsMade", spec := "setsMade", unfollowed := true, recurses := true, apart := false }
def SetsMadeSaid : Prop := setsMadeRow.holds Try.pinned (OpenSpec.ofChange setsMadeSpec)

/-- ITS FALSE NEIGHBOUR: 'it returns false'. Refute it at one input. -/
def setsMadeWrong : ChangeSpec := { name := "setsMade", fn := fun _ => fun
  | [d1, d2, d3] => { results := [.lit (.bool false)], args := [d1, d2, d3] }
  | _ => none }
def SetsMadeWrongFalsely : Prop := setsMadeRow.holds Try.pinned (OpenSpec.ofChange setsMadeWrong)

/- THE SECOND FORM. 'bulk': how many values and letters a reading holds, each counted each time it is reached (what is shared counts as often as it is met; a slice's spare places count too). A statement '..UptoSaid' is the law's where the arguments, and the package variables that the reading takes, are together of bulk at most 1048576: NARROWER than '..Said'. Prove '..Said' where nothing that the law and all that it calls make is longer than what came in: it says more and counts as full. Else prove '..UptoSaid'. A law counts once. -/
mutual
def uptoBulk {H : Type} : DataW H → Nat
  | .lit (.string bytes) => bytes.length + 1
  | .lit _ => 1
  | .nil => 1
  | .ptr d => uptoBulk d + 1
  | .slice elems spare => uptoBulkAll elems + uptoBulkAll spare + 1
  | .agg parts => uptoBulkAll parts + 1
  | .iface _ d => uptoBulk d + 1
  | .map entries => uptoBulkEntries entries + 1
  | .held _ => 1
def uptoBulkAll {H : Type} : List (DataW H) → Nat
  | [] => 0
  | d :: r => uptoBulk d + uptoBulkAll r
def uptoBulkEntries {H : Type} : List (Lit × DataW H) → Nat
  | [] => 0
  | x :: r => uptoBulkEntry x + uptoBulkEntries r
def uptoBulkEntry {H : Type} : Lit × DataW H → Nat
  | (.string bytes, d) => bytes.length + uptoBulk d + 1
  | (_, d) => uptoBulk d + 1
 end
def uptoSmall : (H : Type) → List (DataW H) → Bool := fun _ ds => decide (uptoBulkAll ds ≤ 1048576)
def OpenSpec.upto (s : _root_.Go.ChangeSpec) : _root_.Go.OpenSpec := { _root_.Go.OpenSpec.ofChange s with cond := some uptoSmall }

/-- 'grammarsmithlaw1.PointsTurned', WHERE WHAT IT READS IS OF BULK AT MOST 1048576: true; the input reads as it did. -/
def pointsTurnedUptoRow : OpenClaim := { program := "ytihfdmjejllhnaa", sum := "d0bb6827fbd541d78fa6d236a61ccdc81b3fd4d4a3baf8f759b4bdee1f3af0b2", func := "grammarsmith/grammarsmithlaw1.PointsTurned", spec := "pointsTurned", apart := false, narrowed := true }
def PointsTurnedUptoSaid : Prop := pointsTurnedUptoRow.holds Try.pinned (OpenSpec.upto pointsTurnedSpec)

/-- 'grammarsmithlaw1.PointsBack', WHERE WHAT IT READS IS OF BULK AT MOST 1048576: true; the input reads as it did. -/
def pointsBackUptoRow : OpenClaim := { program := "ytihfdmjejllhnaa", sum := "d0bb6827fbd541d78fa6d236a61ccdc81b3fd4d4a3baf8f759b4bdee1f3af0b2", func := "grammarsmith/grammarsmithlaw1.PointsBack", spec := "pointsBack", apart := false, narrowed := true }
def PointsBackUptoSaid : Prop := pointsBackUptoRow.holds Try.pinned (OpenSpec.upto pointsBackSpec)

/-- 'grammarsmithlaw1.AutoRun', WHERE WHAT IT READS IS OF BULK AT MOST 1048576: true; the input reads as it did. -/
def autoRunUptoRow : OpenClaim := { program := "ytihfdmjejllhnaa", sum := "d0bb6827fbd541d78fa6d236a61ccdc81b3fd4d4a3baf8f759b4bdee1f3af0b2", func := "grammarsmith/grammarsmithlaw1.AutoRun", spec := "autoRun", unfollowed := true, recurses := true, apart := false, narrowed := true }
def AutoRunUptoSaid : Prop := autoRunUptoRow.holds Try.pinned (OpenSpec.upto autoRunSpec)

/-- 'grammarsmithlaw1.SetsParted', WHERE WHAT IT READS IS OF BULK AT MOST 1048576: true; the input reads as it did. -/
def setsPartedUptoRow : OpenClaim := { program := "ytihfdmjejllhnaa", sum := "d0bb6827fbd541d78fa6d236a61ccdc81b3fd4d4a3baf8f759b4bdee1f3af0b2", func := "grammarsmith/grammarsmithlaw1.SetsParted", spec := "setsParted", unfollowed := true, recurses := true, apart := false, narrowed := true }
def SetsPartedUptoSaid : Prop := setsPartedUptoRow.holds Try.pinned (OpenSpec.upto setsPartedSpec)

/-- 'grammarsmithlaw1.SetsMade', WHERE WHAT IT READS IS OF BULK AT MOST 1048576: true; the input reads as it did. -/
def setsMadeUptoRow : OpenClaim := { program := "ytihfdmjejllhnaa", sum := "d0bb6827fbd541d78fa6d236a61ccdc81b3fd4d4a3baf8f759b4bdee1f3af0b2", func := "grammarsmith/grammarsmithlaw1.SetsMade", spec := "setsMade", unfollowed := true, recurses := true, apart := false, narrowed := true }
def SetsMadeUptoSaid : Prop := setsMadeUptoRow.holds Try.pinned (OpenSpec.upto setsMadeSpec)

end Rows
end Go.Proofs.Ytihfdmjejllhnaa
