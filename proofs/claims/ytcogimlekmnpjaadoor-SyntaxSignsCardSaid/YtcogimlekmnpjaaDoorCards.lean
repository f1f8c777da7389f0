/-
  DERIVED. GIVEN WITH THE SEED: THE CARDS: each row of YtcogimlekmnpjaaDoorRows.lean that lists a variable, with what it lists TIED to the program's text (the seventh form; the later family's looks); each row that meets fmt, with fmt's text TOLD by the authors' own Lean function (tested against real Go, not proved from fmt's source: count such statements apart). THE CARD IS WHAT COUNTS. Prove the row's statement (the work); the ties are given (YtcogimlekmnpjaaDoorTie.lean); close each card by the builder's one call (the guide's Derived/Test/ToyasCard.lean, 'card_holds'). Laid BY PROGRAM, IN A SANDBOX (cutbox-door.mjs). By AI agents, Wed Nov 11 2026. No macro, syntax, notation, axiom, sorry.
-/
import Derived.Test.YtcogimlekmnpjaaDoorRows
import GoSem.ClaimSeven
namespace Go.Proofs.YtcogimlekmnpjaaDoor
namespace Rows

/-- THE TIED CARD OF 'muntinlaw04.SyntaxSigns'. -/
def syntaxSignsCard : Claim7 := { stood := { row := syntaxSignsRow, standIns := [], harness := (true, "617194586e36ed7d04e4a1da1efa386698af6a95dd37987ede74ac1484954714"), looks := true }, kinds := [], alts := [], laidByText := true, laidKinds := [.handle], laidTests := true, laidLooks := .later }
def SyntaxSignsCardSaid : Prop := Claim7.holds Tryd.pinned (.plain (OpenSpec.ofChange syntaxSignsSpec)) syntaxSignsCard

/-- THE SECOND FORM's CARD OF 'muntinlaw04.SyntaxSigns'. -/
def syntaxSignsUptoCard : Claim7 := { stood := { row := syntaxSignsUptoRow, standIns := [], harness := (true, "617194586e36ed7d04e4a1da1efa386698af6a95dd37987ede74ac1484954714"), looks := true }, kinds := [], alts := [], laidByText := true, laidKinds := [.handle], laidTests := true, laidLooks := .later }
def SyntaxSignsUptoCardSaid : Prop := Claim7.holds Tryd.pinned (.plain (OpenSpec.upto syntaxSignsSpec)) syntaxSignsUptoCard
end Rows
end Go.Proofs.YtcogimlekmnpjaaDoor
