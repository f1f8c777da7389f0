/-
  DERIVED. GIVEN WITH THE SEED: THE CARDS: each row of YtlohpplpnddfaaaDoorRows.lean that lists a variable, with what it lists TIED to the program's text (the seventh form; the later family's looks); each row that meets fmt, with fmt's text TOLD by the authors' own Lean function (tested against real Go, not proved from fmt's source: count such statements apart). THE CARD IS WHAT COUNTS. Prove the row's statement (the work); the ties are given (YtlohpplpnddfaaaDoorTie.lean); close each card by the builder's one call (the guide's Derived/Test/ToyasCard.lean, 'card_holds'). Laid BY PROGRAM, IN A SANDBOX (cutbox-door.mjs). By AI agents, Wed Nov 11 2026. No macro, syntax, notation, axiom, sorry.
-/
import Derived.Test.YtlohpplpnddfaaaDoorRows
import GoSem.ClaimSeven
namespace Go.Proofs.YtlohpplpnddfaaaDoor
namespace Rows

/-- THE TIED CARD OF 'muntinlaw02.ClassRanges'. -/
def classRangesCard : Claim7 := { stood := { row := classRangesRow, standIns := [], harness := (true, "35365d525cdacbec5d3e728106d4ebbef7944acbf9ac6164e6bd3399a4b46e38"), looks := true }, kinds := [], alts := [], laidByText := true, laidKinds := [.handle], laidTests := true, laidLooks := .later }
def ClassRangesCardSaid : Prop := Claim7.holds Tryd.pinned (.plain (OpenSpec.ofChange classRangesSpec)) classRangesCard

/-- THE TIED CARD OF 'muntinlaw02.ClassWorks'. -/
def classWorksCard : Claim7 := { stood := { row := classWorksRow, standIns := [], harness := (true, "35365d525cdacbec5d3e728106d4ebbef7944acbf9ac6164e6bd3399a4b46e38"), looks := true }, kinds := [], alts := [], laidByText := true, laidKinds := [.handle], laidTests := true, laidLooks := .later }
def ClassWorksCardSaid : Prop := Claim7.holds Tryd.pinned (.plain (OpenSpec.ofChange classWorksSpec)) classWorksCard

/-- THE TIED CARD OF 'muntinlaw02.ClassReads'. -/
def classReadsCard : Claim7 := { stood := { row := classReadsRow, standIns := [], harness := (true, "35365d525cdacbec5d3e728106d4ebbef7944acbf9ac6164e6bd3399a4b46e38"), looks := true }, kinds := [], alts := [], laidByText := true, laidKinds := [.handle], laidTests := true, laidLooks := .later }
def ClassReadsCardSaid : Prop := Claim7.holds Tryd.pinned (.plain (OpenSpec.ofChange classReadsSpec)) classReadsCard

/-- THE TIED CARD OF 'muntinlaw02.ClassCut'. -/
def classCutCard : Claim7 := { stood := { row := classCutRow, standIns := [], harness := (true, "35365d525cdacbec5d3e728106d4ebbef7944acbf9ac6164e6bd3399a4b46e38"), looks := true }, kinds := [], alts := [], laidByText := true, laidKinds := [.handle], laidTests := true, laidLooks := .later }
def ClassCutCardSaid : Prop := Claim7.holds Tryd.pinned (.plain (OpenSpec.ofChange classCutSpec)) classCutCard

/-- THE TIED CARD OF 'muntinlaw03.LexJoins'. -/
def lexJoinsCard : Claim7 := { stood := { row := lexJoinsRow, standIns := [], harness := (true, "35365d525cdacbec5d3e728106d4ebbef7944acbf9ac6164e6bd3399a4b46e38"), looks := true }, kinds := [], alts := [], laidByText := true, laidKinds := [.handle], laidTests := true, laidLooks := .later }
def LexJoinsCardSaid : Prop := Claim7.holds Tryd.pinned (.plain (OpenSpec.ofChange lexJoinsSpec)) lexJoinsCard

/-- THE TIED CARD OF 'muntinlaw03.LexNotes'. -/
def lexNotesCard : Claim7 := { stood := { row := lexNotesRow, standIns := [], harness := (true, "35365d525cdacbec5d3e728106d4ebbef7944acbf9ac6164e6bd3399a4b46e38"), looks := true }, kinds := [], alts := [], laidByText := true, laidKinds := [.handle], laidTests := true, laidLooks := .later }
def LexNotesCardSaid : Prop := Claim7.holds Tryd.pinned (.plain (OpenSpec.ofChange lexNotesSpec)) lexNotesCard

/-- THE TIED CARD OF 'muntinlaw03.LexNamed'. -/
def lexNamedCard : Claim7 := { stood := { row := lexNamedRow, standIns := [], harness := (true, "35365d525cdacbec5d3e728106d4ebbef7944acbf9ac6164e6bd3399a4b46e38"), looks := true }, kinds := [], alts := [], laidByText := true, laidKinds := [.handle], laidTests := true, laidLooks := .later }
def LexNamedCardSaid : Prop := Claim7.holds Tryd.pinned (.plain (OpenSpec.ofChange lexNamedSpec)) lexNamedCard

/-- THE TIED CARD OF 'muntinlaw03.LexApart'. -/
def lexApartCard : Claim7 := { stood := { row := lexApartRow, standIns := [], harness := (true, "35365d525cdacbec5d3e728106d4ebbef7944acbf9ac6164e6bd3399a4b46e38"), looks := true }, kinds := [], alts := [], laidByText := true, laidKinds := [.handle], laidTests := true, laidLooks := .later }
def LexApartCardSaid : Prop := Claim7.holds Tryd.pinned (.plain (OpenSpec.ofChange lexApartSpec)) lexApartCard

/-- THE TIED CARD OF 'muntinlaw03.LexCuts'. -/
def lexCutsCard : Claim7 := { stood := { row := lexCutsRow, standIns := [], harness := (true, "35365d525cdacbec5d3e728106d4ebbef7944acbf9ac6164e6bd3399a4b46e38"), looks := true }, kinds := [], alts := [], laidByText := true, laidKinds := [.handle], laidTests := true, laidLooks := .later }
def LexCutsCardSaid : Prop := Claim7.holds Tryd.pinned (.plain (OpenSpec.ofChange lexCutsSpec)) lexCutsCard

/-- THE TIED CARD OF 'muntinlaw03.LexNames'. -/
def lexNamesCard : Claim7 := { stood := { row := lexNamesRow, standIns := [], harness := (true, "35365d525cdacbec5d3e728106d4ebbef7944acbf9ac6164e6bd3399a4b46e38"), looks := true }, kinds := [], alts := [], laidByText := true, laidKinds := [.handle], laidTests := true, laidLooks := .later }
def LexNamesCardSaid : Prop := Claim7.holds Tryd.pinned (.plain (OpenSpec.ofChange lexNamesSpec)) lexNamesCard

/-- THE TIED CARD OF 'muntinlaw03.LexBack'. -/
def lexBackCard : Claim7 := { stood := { row := lexBackRow, standIns := [], harness := (true, "35365d525cdacbec5d3e728106d4ebbef7944acbf9ac6164e6bd3399a4b46e38"), looks := true }, kinds := [], alts := [], laidByText := true, laidKinds := [.handle], laidTests := true, laidLooks := .later }
def LexBackCardSaid : Prop := Claim7.holds Tryd.pinned (.plain (OpenSpec.ofChange lexBackSpec)) lexBackCard

/-- THE TIED CARD OF 'muntinlaw04.SyntaxBrackets'. -/
def syntaxBracketsCard : Claim7 := { stood := { row := syntaxBracketsRow, standIns := [], harness := (true, "35365d525cdacbec5d3e728106d4ebbef7944acbf9ac6164e6bd3399a4b46e38"), looks := true }, kinds := [], alts := [], laidByText := true, laidKinds := [.handle], laidTests := true, laidLooks := .later }
def SyntaxBracketsCardSaid : Prop := Claim7.holds Tryd.pinned (.plain (OpenSpec.ofChange syntaxBracketsSpec)) syntaxBracketsCard

/-- THE TIED CARD OF 'muntinlaw04.SyntaxRows'. -/
def syntaxRowsCard : Claim7 := { stood := { row := syntaxRowsRow, standIns := [], harness := (true, "35365d525cdacbec5d3e728106d4ebbef7944acbf9ac6164e6bd3399a4b46e38"), looks := true }, kinds := [], alts := [], laidByText := true, laidKinds := [.handle], laidTests := true, laidLooks := .later }
def SyntaxRowsCardSaid : Prop := Claim7.holds Tryd.pinned (.plain (OpenSpec.ofChange syntaxRowsSpec)) syntaxRowsCard

/-- THE TIED CARD OF 'muntinlaw04.SyntaxNames'. -/
def syntaxNamesCard : Claim7 := { stood := { row := syntaxNamesRow, standIns := [], harness := (true, "35365d525cdacbec5d3e728106d4ebbef7944acbf9ac6164e6bd3399a4b46e38"), looks := true }, kinds := [], alts := [], laidByText := true, laidKinds := [.handle], laidTests := true, laidLooks := .later }
def SyntaxNamesCardSaid : Prop := Claim7.holds Tryd.pinned (.plain (OpenSpec.ofChange syntaxNamesSpec)) syntaxNamesCard

/-- THE TIED CARD OF 'muntinlaw04.SyntaxSigns'. -/
def syntaxSignsCard : Claim7 := { stood := { row := syntaxSignsRow, standIns := [], harness := (true, "35365d525cdacbec5d3e728106d4ebbef7944acbf9ac6164e6bd3399a4b46e38"), looks := true }, kinds := [], alts := [], laidByText := true, laidKinds := [.handle], laidTests := true, laidLooks := .later }
def SyntaxSignsCardSaid : Prop := Claim7.holds Tryd.pinned (.plain (OpenSpec.ofChange syntaxSignsSpec)) syntaxSignsCard

/-- THE TIED CARD OF 'muntinlaw04.SyntaxApart'. -/
def syntaxApartCard : Claim7 := { stood := { row := syntaxApartRow, standIns := [], harness := (true, "35365d525cdacbec5d3e728106d4ebbef7944acbf9ac6164e6bd3399a4b46e38"), looks := true }, kinds := [], alts := [], laidByText := true, laidKinds := [.handle], laidTests := true, laidLooks := .later }
def SyntaxApartCardSaid : Prop := Claim7.holds Tryd.pinned (.plain (OpenSpec.ofChange syntaxApartSpec)) syntaxApartCard

/-- THE TIED CARD OF 'muntinlaw04.SyntaxNests'. -/
def syntaxNestsCard : Claim7 := { stood := { row := syntaxNestsRow, standIns := [], harness := (true, "35365d525cdacbec5d3e728106d4ebbef7944acbf9ac6164e6bd3399a4b46e38"), looks := true }, kinds := [], alts := [], laidByText := true, laidKinds := [.handle], laidTests := true, laidLooks := .later }
def SyntaxNestsCardSaid : Prop := Claim7.holds Tryd.pinned (.plain (OpenSpec.ofChange syntaxNestsSpec)) syntaxNestsCard

/-- THE SECOND FORM's CARD OF 'muntinlaw02.ClassRanges'. -/
def classRangesUptoCard : Claim7 := { stood := { row := classRangesUptoRow, standIns := [], harness := (true, "35365d525cdacbec5d3e728106d4ebbef7944acbf9ac6164e6bd3399a4b46e38"), looks := true }, kinds := [], alts := [], laidByText := true, laidKinds := [.handle], laidTests := true, laidLooks := .later }
def ClassRangesUptoCardSaid : Prop := Claim7.holds Tryd.pinned (.plain (OpenSpec.upto classRangesSpec)) classRangesUptoCard

/-- THE SECOND FORM's CARD OF 'muntinlaw02.ClassWorks'. -/
def classWorksUptoCard : Claim7 := { stood := { row := classWorksUptoRow, standIns := [], harness := (true, "35365d525cdacbec5d3e728106d4ebbef7944acbf9ac6164e6bd3399a4b46e38"), looks := true }, kinds := [], alts := [], laidByText := true, laidKinds := [.handle], laidTests := true, laidLooks := .later }
def ClassWorksUptoCardSaid : Prop := Claim7.holds Tryd.pinned (.plain (OpenSpec.upto classWorksSpec)) classWorksUptoCard

/-- THE SECOND FORM's CARD OF 'muntinlaw02.ClassReads'. -/
def classReadsUptoCard : Claim7 := { stood := { row := classReadsUptoRow, standIns := [], harness := (true, "35365d525cdacbec5d3e728106d4ebbef7944acbf9ac6164e6bd3399a4b46e38"), looks := true }, kinds := [], alts := [], laidByText := true, laidKinds := [.handle], laidTests := true, laidLooks := .later }
def ClassReadsUptoCardSaid : Prop := Claim7.holds Tryd.pinned (.plain (OpenSpec.upto classReadsSpec)) classReadsUptoCard

/-- THE SECOND FORM's CARD OF 'muntinlaw02.ClassCut'. -/
def classCutUptoCard : Claim7 := { stood := { row := classCutUptoRow, standIns := [], harness := (true, "35365d525cdacbec5d3e728106d4ebbef7944acbf9ac6164e6bd3399a4b46e38"), looks := true }, kinds := [], alts := [], laidByText := true, laidKinds := [.handle], laidTests := true, laidLooks := .later }
def ClassCutUptoCardSaid : Prop := Claim7.holds Tryd.pinned (.plain (OpenSpec.upto classCutSpec)) classCutUptoCard

/-- THE SECOND FORM's CARD OF 'muntinlaw03.LexJoins'. -/
def lexJoinsUptoCard : Claim7 := { stood := { row := lexJoinsUptoRow, standIns := [], harness := (true, "35365d525cdacbec5d3e728106d4ebbef7944acbf9ac6164e6bd3399a4b46e38"), looks := true }, kinds := [], alts := [], laidByText := true, laidKinds := [.handle], laidTests := true, laidLooks := .later }
def LexJoinsUptoCardSaid : Prop := Claim7.holds Tryd.pinned (.plain (OpenSpec.upto lexJoinsSpec)) lexJoinsUptoCard

/-- THE SECOND FORM's CARD OF 'muntinlaw03.LexNotes'. -/
def lexNotesUptoCard : Claim7 := { stood := { row := lexNotesUptoRow, standIns := [], harness := (true, "35365d525cdacbec5d3e728106d4ebbef7944acbf9ac6164e6bd3399a4b46e38"), looks := true }, kinds := [], alts := [], laidByText := true, laidKinds := [.handle], laidTests := true, laidLooks := .later }
def LexNotesUptoCardSaid : Prop := Claim7.holds Tryd.pinned (.plain (OpenSpec.upto lexNotesSpec)) lexNotesUptoCard

/-- THE SECOND FORM's CARD OF 'muntinlaw03.LexNamed'. -/
def lexNamedUptoCard : Claim7 := { stood := { row := lexNamedUptoRow, standIns := [], harness := (true, "35365d525cdacbec5d3e728106d4ebbef7944acbf9ac6164e6bd3399a4b46e38"), looks := true }, kinds := [], alts := [], laidByText := true, laidKinds := [.handle], laidTests := true, laidLooks := .later }
def LexNamedUptoCardSaid : Prop := Claim7.holds Tryd.pinned (.plain (OpenSpec.upto lexNamedSpec)) lexNamedUptoCard

/-- THE SECOND FORM's CARD OF 'muntinlaw03.LexApart'. -/
def lexApartUptoCard : Claim7 := { stood := { row := lexApartUptoRow, standIns := [], harness := (true, "35365d525cdacbec5d3e728106d4ebbef7944acbf9ac6164e6bd3399a4b46e38"), looks := true }, kinds := [], alts := [], laidByText := true, laidKinds := [.handle], laidTests := true, laidLooks := .later }
def LexApartUptoCardSaid : Prop := Claim7.holds Tryd.pinned (.plain (OpenSpec.upto lexApartSpec)) lexApartUptoCard

/-- THE SECOND FORM's CARD OF 'muntinlaw03.LexCuts'. -/
def lexCutsUptoCard : Claim7 := { stood := { row := lexCutsUptoRow, standIns := [], harness := (true, "35365d525cdacbec5d3e728106d4ebbef7944acbf9ac6164e6bd3399a4b46e38"), looks := true }, kinds := [], alts := [], laidByText := true, laidKinds := [.handle], laidTests := true, laidLooks := .later }
def LexCutsUptoCardSaid : Prop := Claim7.holds Tryd.pinned (.plain (OpenSpec.upto lexCutsSpec)) lexCutsUptoCard

/-- THE SECOND FORM's CARD OF 'muntinlaw03.LexNames'. -/
def lexNamesUptoCard : Claim7 := { stood := { row := lexNamesUptoRow, standIns := [], harness := (true, "35365d525cdacbec5d3e728106d4ebbef7944acbf9ac6164e6bd3399a4b46e38"), looks := true }, kinds := [], alts := [], laidByText := true, laidKinds := [.handle], laidTests := true, laidLooks := .later }
def LexNamesUptoCardSaid : Prop := Claim7.holds Tryd.pinned (.plain (OpenSpec.upto lexNamesSpec)) lexNamesUptoCard

/-- THE SECOND FORM's CARD OF 'muntinlaw03.LexBack'. -/
def lexBackUptoCard : Claim7 := { stood := { row := lexBackUptoRow, standIns := [], harness := (true, "35365d525cdacbec5d3e728106d4ebbef7944acbf9ac6164e6bd3399a4b46e38"), looks := true }, kinds := [], alts := [], laidByText := true, laidKinds := [.handle], laidTests := true, laidLooks := .later }
def LexBackUptoCardSaid : Prop := Claim7.holds Tryd.pinned (.plain (OpenSpec.upto lexBackSpec)) lexBackUptoCard

/-- THE SECOND FORM's CARD OF 'muntinlaw04.SyntaxBrackets'. -/
def syntaxBracketsUptoCard : Claim7 := { stood := { row := syntaxBracketsUptoRow, standIns := [], harness := (true, "35365d525cdacbec5d3e728106d4ebbef7944acbf9ac6164e6bd3399a4b46e38"), looks := true }, kinds := [], alts := [], laidByText := true, laidKinds := [.handle], laidTests := true, laidLooks := .later }
def SyntaxBracketsUptoCardSaid : Prop := Claim7.holds Tryd.pinned (.plain (OpenSpec.upto syntaxBracketsSpec)) syntaxBracketsUptoCard

/-- THE SECOND FORM's CARD OF 'muntinlaw04.SyntaxRows'. -/
def syntaxRowsUptoCard : Claim7 := { stood := { row := syntaxRowsUptoRow, standIns := [], harness := (true, "35365d525cdacbec5d3e728106d4ebbef7944acbf9ac6164e6bd3399a4b46e38"), looks := true }, kinds := [], alts := [], laidByText := true, laidKinds := [.handle], laidTests := true, laidLooks := .later }
def SyntaxRowsUptoCardSaid : Prop := Claim7.holds Tryd.pinned (.plain (OpenSpec.upto syntaxRowsSpec)) syntaxRowsUptoCard

/-- THE SECOND FORM's CARD OF 'muntinlaw04.SyntaxNames'. -/
def syntaxNamesUptoCard : Claim7 := { stood := { row := syntaxNamesUptoRow, standIns := [], harness := (true, "35365d525cdacbec5d3e728106d4ebbef7944acbf9ac6164e6bd3399a4b46e38"), looks := true }, kinds := [], alts := [], laidByText := true, laidKinds := [.handle], laidTests := true, laidLooks := .later }
def SyntaxNamesUptoCardSaid : Prop := Claim7.holds Tryd.pinned (.plain (OpenSpec.upto syntaxNamesSpec)) syntaxNamesUptoCard

/-- THE SECOND FORM's CARD OF 'muntinlaw04.SyntaxSigns'. -/
def syntaxSignsUptoCard : Claim7 := { stood := { row := syntaxSignsUptoRow, standIns := [], harness := (true, "35365d525cdacbec5d3e728106d4ebbef7944acbf9ac6164e6bd3399a4b46e38"), looks := true }, kinds := [], alts := [], laidByText := true, laidKinds := [.handle], laidTests := true, laidLooks := .later }
def SyntaxSignsUptoCardSaid : Prop := Claim7.holds Tryd.pinned (.plain (OpenSpec.upto syntaxSignsSpec)) syntaxSignsUptoCard

/-- THE SECOND FORM's CARD OF 'muntinlaw04.SyntaxApart'. -/
def syntaxApartUptoCard : Claim7 := { stood := { row := syntaxApartUptoRow, standIns := [], harness := (true, "35365d525cdacbec5d3e728106d4ebbef7944acbf9ac6164e6bd3399a4b46e38"), looks := true }, kinds := [], alts := [], laidByText := true, laidKinds := [.handle], laidTests := true, laidLooks := .later }
def SyntaxApartUptoCardSaid : Prop := Claim7.holds Tryd.pinned (.plain (OpenSpec.upto syntaxApartSpec)) syntaxApartUptoCard

/-- THE SECOND FORM's CARD OF 'muntinlaw04.SyntaxNests'. -/
def syntaxNestsUptoCard : Claim7 := { stood := { row := syntaxNestsUptoRow, standIns := [], harness := (true, "35365d525cdacbec5d3e728106d4ebbef7944acbf9ac6164e6bd3399a4b46e38"), looks := true }, kinds := [], alts := [], laidByText := true, laidKinds := [.handle], laidTests := true, laidLooks := .later }
def SyntaxNestsUptoCardSaid : Prop := Claim7.holds Tryd.pinned (.plain (OpenSpec.upto syntaxNestsSpec)) syntaxNestsUptoCard
end Rows
end Go.Proofs.YtlohpplpnddfaaaDoor
