/-
  DERIVED. GIVEN WITH THE SEED: THE CARDS: each row of YteohgaheockepaaGreatDoorRows.lean that lists a variable, with what it lists TIED to the program's text (the seventh form; the later family's looks); each row that meets fmt, with fmt's text TOLD by the authors' own Lean function (tested against real Go, not proved from fmt's source: count such statements apart). THE CARD IS WHAT COUNTS. Prove the row's statement (the work); the ties are given (YteohgaheockepaaGreatDoorTie.lean); close each card by the builder's one call (the guide's Derived/Test/ToyasCard.lean, 'card_holds'). Laid BY PROGRAM, IN A SANDBOX (cutbox-door.mjs). By AI agents, Wed Nov 11 2026. No macro, syntax, notation, axiom, sorry.
-/
import Derived.Test.YteohgaheockepaaGreatDoorRows
import GoSem.ClaimSeven
namespace Go.Proofs.YteohgaheockepaaGreatDoor
namespace Rows

/-- THE TIED CARD OF 'muntinlaw05.PrintForm'. -/
def printFormCard : Claim7 := { stood := { row := printFormRow, standIns := [], harness := (true, "65b6cc2da7c52eebd2db4f7b001c5618fa97bfb262b3ee4ea3fba6f4cb2b62d2"), looks := true }, kinds := [], alts := [], laidByText := true, laidKinds := [.handle], laidTests := true, laidLooks := .later }
def PrintFormCardSaid : Prop := Claim7.holds Tryz.pinned (.plain (OpenSpec.ofChange printFormSpec)) printFormCard

/-- THE TIED CARD OF 'muntinlaw05.PrintWrites'. -/
def printWritesCard : Claim7 := { stood := { row := printWritesRow, standIns := [], harness := (true, "65b6cc2da7c52eebd2db4f7b001c5618fa97bfb262b3ee4ea3fba6f4cb2b62d2"), looks := true }, kinds := [], alts := [], laidByText := true, laidKinds := [.handle], laidTests := true, laidLooks := .later }
def PrintWritesCardSaid : Prop := Claim7.holds Tryz.pinned (.plain (OpenSpec.ofChange printWritesSpec)) printWritesCard

/-- THE SECOND FORM's CARD OF 'muntinlaw05.PrintForm'. -/
def printFormUptoCard : Claim7 := { stood := { row := printFormUptoRow, standIns := [], harness := (true, "65b6cc2da7c52eebd2db4f7b001c5618fa97bfb262b3ee4ea3fba6f4cb2b62d2"), looks := true }, kinds := [], alts := [], laidByText := true, laidKinds := [.handle], laidTests := true, laidLooks := .later }
def PrintFormUptoCardSaid : Prop := Claim7.holds Tryz.pinned (.plain (OpenSpec.upto printFormSpec)) printFormUptoCard

/-- THE SECOND FORM's CARD OF 'muntinlaw05.PrintWrites'. -/
def printWritesUptoCard : Claim7 := { stood := { row := printWritesUptoRow, standIns := [], harness := (true, "65b6cc2da7c52eebd2db4f7b001c5618fa97bfb262b3ee4ea3fba6f4cb2b62d2"), looks := true }, kinds := [], alts := [], laidByText := true, laidKinds := [.handle], laidTests := true, laidLooks := .later }
def PrintWritesUptoCardSaid : Prop := Claim7.holds Tryz.pinned (.plain (OpenSpec.upto printWritesSpec)) printWritesUptoCard
end Rows
end Go.Proofs.YteohgaheockepaaGreatDoor
