/-
  DERIVED. GIVEN WITH THE SEED: THE CARDS: each row of YtaachamblagbhaaGreatDoorRows.lean that lists a variable, with what it lists TIED to the program's text (the seventh form; the later family's looks); each row that meets fmt, with fmt's text TOLD by the authors' own Lean function (tested against real Go, not proved from fmt's source: count such statements apart). THE CARD IS WHAT COUNTS. Prove the row's statement (the work); the ties are given (YtaachamblagbhaaGreatDoorTie.lean); close each card by the builder's one call (the guide's Derived/Test/ToyasCard.lean, 'card_holds'). Laid BY PROGRAM, IN A SANDBOX (cutbox-door.mjs). By AI agents, Wed Nov 11 2026. No macro, syntax, notation, axiom, sorry.
-/
import Derived.Test.YtaachamblagbhaaGreatDoorRows
import GoSem.ClaimSeven
namespace Go.Proofs.YtaachamblagbhaaGreatDoor
namespace Rows

/-- THE TIED CARD OF 'grammarsmithlaw1.PatternWritten'. -/
def patternWrittenCard : Claim7 := { stood := { row := patternWrittenRow, standIns := [], harness := (true, "6b70d95b1b1b9e3f224d1eb2a998d3de2e759c0be51c9b4ba52e357041382c6b"), looks := true }, kinds := [], alts := [], laidByText := true, laidKinds := [.data, .data, .data, .handle, .sentinel, .sentinel, .sentinel, .sentinel, .sentinel, .sentinel, .sentinel], laidTests := true, laidLooks := .later }
def PatternWrittenCardSaid : Prop := Claim7.holds Tryz.pinned (.plain (OpenSpec.ofChange patternWrittenSpec)) patternWrittenCard

/-- THE SECOND FORM's CARD OF 'grammarsmithlaw1.PatternWritten'. -/
def patternWrittenUptoCard : Claim7 := { stood := { row := patternWrittenUptoRow, standIns := [], harness := (true, "6b70d95b1b1b9e3f224d1eb2a998d3de2e759c0be51c9b4ba52e357041382c6b"), looks := true }, kinds := [], alts := [], laidByText := true, laidKinds := [.data, .data, .data, .handle, .sentinel, .sentinel, .sentinel, .sentinel, .sentinel, .sentinel, .sentinel], laidTests := true, laidLooks := .later }
def PatternWrittenUptoCardSaid : Prop := Claim7.holds Tryz.pinned (.plain (OpenSpec.upto patternWrittenSpec)) patternWrittenUptoCard
end Rows
end Go.Proofs.YtaachamblagbhaaGreatDoor
