/-
  DERIVED. GIVEN WITH THE SEED: THE CARDS: each row of YtklhjaohnimmnaaDoorRows.lean that lists a variable, with what it lists TIED to the program's text (the seventh form; the later family's looks); each row that meets fmt, with fmt's text TOLD by the authors' own Lean function (tested against real Go, not proved from fmt's source: count such statements apart). THE CARD IS WHAT COUNTS. Prove the row's statement (the work); the ties are given (YtklhjaohnimmnaaDoorTie.lean); close each card by the builder's one call (the guide's Derived/Test/ToyasCard.lean, 'card_holds'). Laid BY PROGRAM, IN A SANDBOX (cutbox-door.mjs). By AI agents, Wed Nov 11 2026. No macro, syntax, notation, axiom, sorry.
-/
import Derived.Test.YtklhjaohnimmnaaDoorRows
import GoSem.ClaimSeven
namespace Go.Proofs.YtklhjaohnimmnaaDoor
namespace Rows

/-- THE TIED CARD OF 'grammarsmithlaw2.RepairNearest'. -/
def repairNearestCard : Claim7 := { stood := { row := repairNearestRow, standIns := [], harness := (true, "d5f4560fcbc2896164c5136c8a48518e3ef7e29a60a48d517d7292318d798db1"), looks := true }, kinds := [], alts := [], laidByText := true, laidKinds := [.handle, .sentinel, .sentinel, .sentinel, .sentinel, .sentinel, .sentinel, .sentinel], laidTests := true, laidLooks := .later }
def RepairNearestCardSaid : Prop := Claim7.holds Tryd.pinned (.plain (OpenSpec.ofChange repairNearestSpec)) repairNearestCard

/-- THE SECOND FORM's CARD OF 'grammarsmithlaw2.RepairNearest'. -/
def repairNearestUptoCard : Claim7 := { stood := { row := repairNearestUptoRow, standIns := [], harness := (true, "d5f4560fcbc2896164c5136c8a48518e3ef7e29a60a48d517d7292318d798db1"), looks := true }, kinds := [], alts := [], laidByText := true, laidKinds := [.handle, .sentinel, .sentinel, .sentinel, .sentinel, .sentinel, .sentinel, .sentinel], laidTests := true, laidLooks := .later }
def RepairNearestUptoCardSaid : Prop := Claim7.holds Tryd.pinned (.plain (OpenSpec.upto repairNearestSpec)) repairNearestUptoCard
end Rows
end Go.Proofs.YtklhjaohnimmnaaDoor
