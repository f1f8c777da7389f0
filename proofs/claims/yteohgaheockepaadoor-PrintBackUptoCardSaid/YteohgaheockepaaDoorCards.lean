/-
  DERIVED. GIVEN WITH THE SEED: THE CARDS: each row of YteohgaheockepaaDoorRows.lean that lists a variable, with what it lists TIED to the program's text (the seventh form; the later family's looks); each row that meets fmt, with fmt's text TOLD by the authors' own Lean function (tested against real Go, not proved from fmt's source: count such statements apart). THE CARD IS WHAT COUNTS. Prove the row's statement (the work); the ties are given (YteohgaheockepaaDoorTie.lean); close each card by the builder's one call (the guide's Derived/Test/ToyasCard.lean, 'card_holds'). Laid BY PROGRAM, IN A SANDBOX (cutbox-door.mjs). By AI agents, Wed Nov 11 2026. No macro, syntax, notation, axiom, sorry.
-/
import Derived.Test.YteohgaheockepaaDoorRows
import GoSem.ClaimSeven
namespace Go.Proofs.YteohgaheockepaaDoor
namespace Rows

/-- THE TIED CARD OF 'muntinlaw05.PrintBack'. -/
def printBackCard : Claim7 := { stood := { row := printBackRow, standIns := [], harness := (true, "ead604c440304c2f416fccb9ba2f76f6848964130f739f468b5246578c2d60cd"), looks := true }, kinds := [], alts := [], laidByText := true, laidKinds := [.handle], laidTests := true, laidLooks := .later }
def PrintBackCardSaid : Prop := Claim7.holds Tryd.pinned (.plain (OpenSpec.ofChange printBackSpec)) printBackCard

/-- THE TIED CARD OF 'muntinlaw05.PrintRules'. -/
def printRulesCard : Claim7 := { stood := { row := printRulesRow, standIns := [], harness := (true, "ead604c440304c2f416fccb9ba2f76f6848964130f739f468b5246578c2d60cd"), looks := true }, kinds := [], alts := [], laidByText := true, laidKinds := [.handle], laidTests := true, laidLooks := .later }
def PrintRulesCardSaid : Prop := Claim7.holds Tryd.pinned (.plain (OpenSpec.ofChange printRulesSpec)) printRulesCard

/-- THE TIED CARD OF 'muntinlaw05.PrintExprs'. -/
def printExprsCard : Claim7 := { stood := { row := printExprsRow, standIns := [], harness := (true, "ead604c440304c2f416fccb9ba2f76f6848964130f739f468b5246578c2d60cd"), looks := true }, kinds := [], alts := [], laidByText := true, laidKinds := [.handle], laidTests := true, laidLooks := .later }
def PrintExprsCardSaid : Prop := Claim7.holds Tryd.pinned (.plain (OpenSpec.ofChange printExprsSpec)) printExprsCard

/-- THE SECOND FORM's CARD OF 'muntinlaw05.PrintBack'. -/
def printBackUptoCard : Claim7 := { stood := { row := printBackUptoRow, standIns := [], harness := (true, "ead604c440304c2f416fccb9ba2f76f6848964130f739f468b5246578c2d60cd"), looks := true }, kinds := [], alts := [], laidByText := true, laidKinds := [.handle], laidTests := true, laidLooks := .later }
def PrintBackUptoCardSaid : Prop := Claim7.holds Tryd.pinned (.plain (OpenSpec.upto printBackSpec)) printBackUptoCard

/-- THE SECOND FORM's CARD OF 'muntinlaw05.PrintRules'. -/
def printRulesUptoCard : Claim7 := { stood := { row := printRulesUptoRow, standIns := [], harness := (true, "ead604c440304c2f416fccb9ba2f76f6848964130f739f468b5246578c2d60cd"), looks := true }, kinds := [], alts := [], laidByText := true, laidKinds := [.handle], laidTests := true, laidLooks := .later }
def PrintRulesUptoCardSaid : Prop := Claim7.holds Tryd.pinned (.plain (OpenSpec.upto printRulesSpec)) printRulesUptoCard

/-- THE SECOND FORM's CARD OF 'muntinlaw05.PrintExprs'. -/
def printExprsUptoCard : Claim7 := { stood := { row := printExprsUptoRow, standIns := [], harness := (true, "ead604c440304c2f416fccb9ba2f76f6848964130f739f468b5246578c2d60cd"), looks := true }, kinds := [], alts := [], laidByText := true, laidKinds := [.handle], laidTests := true, laidLooks := .later }
def PrintExprsUptoCardSaid : Prop := Claim7.holds Tryd.pinned (.plain (OpenSpec.upto printExprsSpec)) printExprsUptoCard
end Rows
end Go.Proofs.YteohgaheockepaaDoor
