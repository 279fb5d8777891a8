/-
  DERIVED. GIVEN WITH THE SEED: THE CARDS: each row of YtinejiodnnjpgaaDoorRows.lean that lists a variable, with what it lists TIED to the program's text (the seventh form; the later family's looks); each row that meets fmt, with fmt's text TOLD by the authors' own Lean function (tested against real Go, not proved from fmt's source: count such statements apart). THE CARD IS WHAT COUNTS. Prove the row's statement (the work); the ties are given (YtinejiodnnjpgaaDoorTie.lean); close each card by the builder's one call (the guide's Derived/Test/ToyasCard.lean, 'card_holds'). Laid BY PROGRAM, IN A SANDBOX (cutbox-door.mjs). By AI agents, Wed Nov 11 2026. No macro, syntax, notation, axiom, sorry.
-/
import Derived.Test.YtinejiodnnjpgaaDoorRows
import GoSem.ClaimSeven
namespace Go.Proofs.YtinejiodnnjpgaaDoor
namespace Rows

/-- THE TIED CARD OF 'grammarsmithlaw1.Names'. -/
def namesCard : Claim7 := { stood := { row := namesRow, standIns := [], harness := (true, "6182bf97996e2965400baa935aa4e5266f2c85d5d4878e450de4e2f4b83be96d"), looks := true }, kinds := [], alts := [], laidByText := true, laidKinds := [.handle, .sentinel, .sentinel, .sentinel, .sentinel, .sentinel, .sentinel, .sentinel], laidTests := true, laidLooks := .later }
def NamesCardSaid : Prop := Claim7.holds Tryd.pinned (.plain (OpenSpec.ofChange namesSpec)) namesCard

/-- THE TIED CARD OF 'grammarsmithlaw2.TreeTold'. -/
def treeToldCard : Claim7 := { stood := { row := treeToldRow, standIns := [], harness := (true, "6182bf97996e2965400baa935aa4e5266f2c85d5d4878e450de4e2f4b83be96d"), looks := true }, kinds := [], alts := [], laidByText := true, laidKinds := [.data, .data, .data], laidTests := true, laidLooks := .later }
def TreeToldCardSaid : Prop := Claim7.holds Tryd.pinned (.plain (OpenSpec.ofChange treeToldSpec)) treeToldCard

/-- THE TIED CARD OF 'grammarsmithlaw2.ParseAny'. -/
def parseAnyCard : Claim7 := { stood := { row := parseAnyRow, standIns := [], harness := (true, "6182bf97996e2965400baa935aa4e5266f2c85d5d4878e450de4e2f4b83be96d"), looks := true }, kinds := [], alts := [], laidByText := true, laidKinds := [.handle, .sentinel, .sentinel, .sentinel, .sentinel, .sentinel, .sentinel, .sentinel], laidTests := true, laidLooks := .later }
def ParseAnyCardSaid : Prop := Claim7.holds Tryd.pinned (.plain (OpenSpec.ofChange parseAnySpec)) parseAnyCard

/-- THE SECOND FORM's CARD OF 'grammarsmithlaw1.Names'. -/
def namesUptoCard : Claim7 := { stood := { row := namesUptoRow, standIns := [], harness := (true, "6182bf97996e2965400baa935aa4e5266f2c85d5d4878e450de4e2f4b83be96d"), looks := true }, kinds := [], alts := [], laidByText := true, laidKinds := [.handle, .sentinel, .sentinel, .sentinel, .sentinel, .sentinel, .sentinel, .sentinel], laidTests := true, laidLooks := .later }
def NamesUptoCardSaid : Prop := Claim7.holds Tryd.pinned (.plain (OpenSpec.upto namesSpec)) namesUptoCard

/-- THE SECOND FORM's CARD OF 'grammarsmithlaw2.TreeTold'. -/
def treeToldUptoCard : Claim7 := { stood := { row := treeToldUptoRow, standIns := [], harness := (true, "6182bf97996e2965400baa935aa4e5266f2c85d5d4878e450de4e2f4b83be96d"), looks := true }, kinds := [], alts := [], laidByText := true, laidKinds := [.data, .data, .data], laidTests := true, laidLooks := .later }
def TreeToldUptoCardSaid : Prop := Claim7.holds Tryd.pinned (.plain (OpenSpec.upto treeToldSpec)) treeToldUptoCard

/-- THE SECOND FORM's CARD OF 'grammarsmithlaw2.ParseAny'. -/
def parseAnyUptoCard : Claim7 := { stood := { row := parseAnyUptoRow, standIns := [], harness := (true, "6182bf97996e2965400baa935aa4e5266f2c85d5d4878e450de4e2f4b83be96d"), looks := true }, kinds := [], alts := [], laidByText := true, laidKinds := [.handle, .sentinel, .sentinel, .sentinel, .sentinel, .sentinel, .sentinel, .sentinel], laidTests := true, laidLooks := .later }
def ParseAnyUptoCardSaid : Prop := Claim7.holds Tryd.pinned (.plain (OpenSpec.upto parseAnySpec)) parseAnyUptoCard
end Rows
end Go.Proofs.YtinejiodnnjpgaaDoor
