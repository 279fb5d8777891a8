/-
  DERIVED. GIVEN WITH THE SEED: THE CARDS: each row of YthikgdogfkjioaaGreatDoorRows.lean that lists a variable, with what it lists TIED to the program's text (the seventh form; the later family's looks); each row that meets fmt, with fmt's text TOLD by the authors' own Lean function (tested against real Go, not proved from fmt's source: count such statements apart). THE CARD IS WHAT COUNTS. Prove the row's statement (the work); the ties are given (YthikgdogfkjioaaGreatDoorTie.lean); close each card by the builder's one call (the guide's Derived/Test/ToyasCard.lean, 'card_holds'). Laid BY PROGRAM, IN A SANDBOX (cutbox-door.mjs). By AI agents, Wed Nov 11 2026. No macro, syntax, notation, axiom, sorry.
-/
import Derived.Test.YthikgdogfkjioaaGreatDoorRows
import GoSem.ClaimSeven
namespace Go.Proofs.YthikgdogfkjioaaGreatDoor
namespace Rows

/-- THE TIED CARD OF 'grammarsmithlaw1.AutoLeast'. -/
def autoLeastCard : Claim7 := { stood := { row := autoLeastRow, standIns := [], harness := (true, "eba61d524a7f5907b6958cc8a478b8d3c0143d7eb4eaf3836e3949d74574f9fe"), looks := false }, kinds := [], alts := [], laidByText := true, laidKinds := [.data, .data, .data], laidTests := true, laidLooks := .later }
def AutoLeastCardSaid : Prop := Claim7.holds Tryz.pinned (.plain (OpenSpec.ofChange autoLeastSpec)) autoLeastCard

/-- THE SECOND FORM's CARD OF 'grammarsmithlaw1.AutoLeast'. -/
def autoLeastUptoCard : Claim7 := { stood := { row := autoLeastUptoRow, standIns := [], harness := (true, "eba61d524a7f5907b6958cc8a478b8d3c0143d7eb4eaf3836e3949d74574f9fe"), looks := false }, kinds := [], alts := [], laidByText := true, laidKinds := [.data, .data, .data], laidTests := true, laidLooks := .later }
def AutoLeastUptoCardSaid : Prop := Claim7.holds Tryz.pinned (.plain (OpenSpec.upto autoLeastSpec)) autoLeastUptoCard
end Rows
end Go.Proofs.YthikgdogfkjioaaGreatDoor
