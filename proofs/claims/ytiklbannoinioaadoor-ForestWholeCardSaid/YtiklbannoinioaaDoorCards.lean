/-
  DERIVED. GIVEN WITH THE SEED: THE CARDS: each row of YtiklbannoinioaaDoorRows.lean that lists a variable, with what it lists TIED to the program's text (the seventh form; the later family's looks); each row that meets fmt, with fmt's text TOLD by the authors' own Lean function (tested against real Go, not proved from fmt's source: count such statements apart). THE CARD IS WHAT COUNTS. Prove the row's statement (the work); the ties are given (YtiklbannoinioaaDoorTie.lean); close each card by the builder's one call (the guide's Derived/Test/ToyasCard.lean, 'card_holds'). Laid BY PROGRAM, IN A SANDBOX (cutbox-door.mjs). By AI agents, Wed Nov 11 2026. No macro, syntax, notation, axiom, sorry.
-/
import Derived.Test.YtiklbannoinioaaDoorRows
import GoSem.ClaimSeven
namespace Go.Proofs.YtiklbannoinioaaDoor
namespace Rows

/-- THE TIED CARD OF 'grammarsmithlaw2.ForestWhole'. -/
def forestWholeCard : Claim7 := { stood := { row := forestWholeRow, standIns := [], harness := (true, "f849c32c2542c9f75be80a9ef8917f53461d37ec60f1524314e0cb7d24831772"), looks := true }, kinds := [], alts := [], laidByText := true, laidKinds := [.data, .data, .data], laidTests := true, laidLooks := .later }
def ForestWholeCardSaid : Prop := Claim7.holds Tryd.pinned (.plain (OpenSpec.ofChange forestWholeSpec)) forestWholeCard

/-- THE SECOND FORM's CARD OF 'grammarsmithlaw2.ForestWhole'. -/
def forestWholeUptoCard : Claim7 := { stood := { row := forestWholeUptoRow, standIns := [], harness := (true, "f849c32c2542c9f75be80a9ef8917f53461d37ec60f1524314e0cb7d24831772"), looks := true }, kinds := [], alts := [], laidByText := true, laidKinds := [.data, .data, .data], laidTests := true, laidLooks := .later }
def ForestWholeUptoCardSaid : Prop := Claim7.holds Tryd.pinned (.plain (OpenSpec.upto forestWholeSpec)) forestWholeUptoCard
end Rows
end Go.Proofs.YtiklbannoinioaaDoor
