/-
  DERIVED. GIVEN WITH THE SEED: THE CARDS: each row of YtkcpfpofimkkiaaGreatDoorRows.lean that lists a variable, with what it lists TIED to the program's text (the seventh form; the later family's looks); each row that meets fmt, with fmt's text TOLD by the authors' own Lean function (tested against real Go, not proved from fmt's source: count such statements apart). THE CARD IS WHAT COUNTS. Prove the row's statement (the work); the ties are given (YtkcpfpofimkkiaaGreatDoorTie.lean); close each card by the builder's one call (the guide's Derived/Test/ToyasCard.lean, 'card_holds'). Laid BY PROGRAM, IN A SANDBOX (cutbox-door.mjs). By AI agents, Wed Nov 11 2026. No macro, syntax, notation, axiom, sorry.
-/
import Derived.Test.YtkcpfpofimkkiaaGreatDoorRows
import GoSem.ClaimSeven
namespace Go.Proofs.YtkcpfpofimkkiaaGreatDoor
namespace Rows

/-- THE TIED CARD OF 'grammarsmithlaw1.AutoApart'. -/
def autoApartCard : Claim7 := { stood := { row := autoApartRow, standIns := [], harness := (true, "bdc8f3c22a948eb719815cec0b948a6aaf8c97ec6ed6d72004f73deb0dd78125"), looks := false }, kinds := [], alts := [], laidByText := true, laidKinds := [.data, .data, .data], laidTests := true, laidLooks := .later }
def AutoApartCardSaid : Prop := Claim7.holds Tryz.pinned (.plain (OpenSpec.ofChange autoApartSpec)) autoApartCard

/-- THE SECOND FORM's CARD OF 'grammarsmithlaw1.AutoApart'. -/
def autoApartUptoCard : Claim7 := { stood := { row := autoApartUptoRow, standIns := [], harness := (true, "bdc8f3c22a948eb719815cec0b948a6aaf8c97ec6ed6d72004f73deb0dd78125"), looks := false }, kinds := [], alts := [], laidByText := true, laidKinds := [.data, .data, .data], laidTests := true, laidLooks := .later }
def AutoApartUptoCardSaid : Prop := Claim7.holds Tryz.pinned (.plain (OpenSpec.upto autoApartSpec)) autoApartUptoCard
end Rows
end Go.Proofs.YtkcpfpofimkkiaaGreatDoor
