/-
  NARROWER THAN 'FOR EVERY INPUT', by the rows' own cells (each row's printed sentence says how): ClassRanges: laid · ClassWorks: laid · ClassReads: laid · ClassCut: laid · LexJoins: laid · LexNotes: laid · LexNamed: laid · LexApart: laid · LexCuts: laid · LexNames: laid · LexBack: laid · SyntaxBrackets: laid · SyntaxRows: laid · SyntaxNames: laid · SyntaxSigns: laid · SyntaxApart: laid · SyntaxNests: laid.
  DERIVED. THE GIVEN ROWS OF THIS SEAT. 17 by the template 'for every input the law returns true; each argument reads behind the call as it read before'; 0 by the template 'total and deterministic' (their statements: YtlohpplpnddfaaaDoorTotals.lean).
  GIVEN WITH THE SEED: the statements are not yours to turn. If you find one false, say at which input.
  Laid BY PROGRAM, IN A SANDBOX (cutbox-rows.mjs): the forced cells as the released guide's own fill.sh prints them over the translation ede7874074a58e9a… (all of the seat's roots in one cut). By AI agents, Wed Nov 11 2026. No macro, syntax, notation, axiom, sorry.
-/
import Derived.Test.YtlohpplpnddfaaaDoorChecked
import GoSem.Claim
import GoSem.ClaimJoined
import GoSem.ClaimMapViews
import Derived.JoinedTies
import Derived.KernelRfl
namespace Go.Proofs.YtlohpplpnddfaaaDoor
/- THE CELL 'sum', in the pinned program and in every row, IS THE sha256 OF THE DUMP (.gsa) THAT YtlohpplpnddfaaaDoorProg.lean LOADS. Nothing in Lean hashes anything: it is a label: what it is worth is what the hold of that sum in a sandbox is worth. -/
noncomputable def Tryd.pinned : Pinned := { name := "ytlohpplpnddfaaadoor", sum := "ede7874074a58e9ae90468aff0ce401bb26675ffa0c46bec6936bde034dd54be", checked := Tryd.checked }
namespace Rows
def none {H : Type} : Left H := { results := [], args := [] }

/- WHAT THE LISTED PACKAGE-LEVEL VARIABLES READ AS WHEN THE CALL BEGINS. Each datum BY PROGRAM (the guide's laid-datum.mjs) off the statement by which the dump's own 'gosem.cut.vars' lays the variable. In a bare row this is a premise. The card (YtlohpplpnddfaaaDoorCards.lean) ties it to the program's text. -/
def laid_errors_errorType {H : Type} : DataW H := .iface "internal/reflectlite.rtype" (.agg [.ptr (.lit (.string [101, 114, 114, 111, 114]))])

/-- 'muntinlaw02.ClassRanges': WHATEVER THE INPUT: true; the input reads as it did. -/
def classRangesSpec : ChangeSpec := { name := "classRanges", fn := fun _ => fun
  | [d1, d2, d3] => { results := [.lit (.bool true)], args := [d1, d2, d3] }
  | _ => none }
def classRangesRow : OpenClaim := { program := "ytlohpplpnddfaaadoor", sum := "ede7874074a58e9ae90468aff0ce401bb26675ffa0c46bec6936bde034dd54be", func := "muntin/muntinlaw02.ClassRanges", spec := "classRanges", inPlace := ["internal/reflectlite.ValueOf", "(internal/reflectlite.Value).Type", "(internal/reflectlite.Value).IsNil", "internal/reflectlite.TypeOf", "(internal/reflectlite.Value).Elem", "(internal/reflectlite.Value).Set"], unfollowed := true, recurses := true, named := ["errors.errorType"], apart := false, laid := [("errors.errorType", laid_errors_errorType)] }
def ClassRangesSaid : Prop := classRangesRow.holds Tryd.pinned (OpenSpec.ofChange classRangesSpec)

/-- ITS FALSE NEIGHBOUR: 'it returns false'. Refute it at one input. -/
def classRangesWrong : ChangeSpec := { name := "classRanges", fn := fun _ => fun
  | [d1, d2, d3] => { results := [.lit (.bool false)], args := [d1, d2, d3] }
  | _ => none }
def ClassRangesWrongFalsely : Prop := classRangesRow.holds Tryd.pinned (OpenSpec.ofChange classRangesWrong)

/-- 'muntinlaw02.ClassWorks': WHATEVER THE INPUT: true; the input reads as it did. -/
def classWorksSpec : ChangeSpec := { name := "classWorks", fn := fun _ => fun
  | [d1, d2, d3, d4, d5] => { results := [.lit (.bool true)], args := [d1, d2, d3, d4, d5] }
  | _ => none }
def classWorksRow : OpenClaim := { program := "ytlohpplpnddfaaadoor", sum := "ede7874074a58e9ae90468aff0ce401bb26675ffa0c46bec6936bde034dd54be", func := "muntin/muntinlaw02.ClassWorks", spec := "classWorks", inPlace := ["internal/reflectlite.ValueOf", "(internal/reflectlite.Value).Type", "(internal/reflectlite.Value).IsNil", "internal/reflectlite.TypeOf", "(internal/reflectlite.Value).Elem", "(internal/reflectlite.Value).Set"], unfollowed := true, recurses := true, named := ["errors.errorType"], apart := false, laid := [("errors.errorType", laid_errors_errorType)] }
def ClassWorksSaid : Prop := classWorksRow.holds Tryd.pinned (OpenSpec.ofChange classWorksSpec)

/-- ITS FALSE NEIGHBOUR: 'it returns false'. Refute it at one input. -/
def classWorksWrong : ChangeSpec := { name := "classWorks", fn := fun _ => fun
  | [d1, d2, d3, d4, d5] => { results := [.lit (.bool false)], args := [d1, d2, d3, d4, d5] }
  | _ => none }
def ClassWorksWrongFalsely : Prop := classWorksRow.holds Tryd.pinned (OpenSpec.ofChange classWorksWrong)

/-- 'muntinlaw02.ClassReads': WHATEVER THE INPUT: true; the input reads as it did. -/
def classReadsSpec : ChangeSpec := { name := "classReads", fn := fun _ => fun
  | [d] => { results := [.lit (.bool true)], args := [d] }
  | _ => none }
def classReadsRow : OpenClaim := { program := "ytlohpplpnddfaaadoor", sum := "ede7874074a58e9ae90468aff0ce401bb26675ffa0c46bec6936bde034dd54be", func := "muntin/muntinlaw02.ClassReads", spec := "classReads", inPlace := ["internal/bytealg.IndexByteString", "internal/reflectlite.ValueOf", "(internal/reflectlite.Value).Type", "(internal/reflectlite.Value).IsNil", "internal/reflectlite.TypeOf", "(internal/reflectlite.Value).Elem", "(internal/reflectlite.Value).Set"], unfollowed := true, recurses := true, named := ["errors.errorType"], apart := false, laid := [("errors.errorType", laid_errors_errorType)] }
def ClassReadsSaid : Prop := classReadsRow.holds Tryd.pinned (OpenSpec.ofChange classReadsSpec)

/-- ITS FALSE NEIGHBOUR: 'it returns false'. Refute it at one input. -/
def classReadsWrong : ChangeSpec := { name := "classReads", fn := fun _ => fun
  | [d] => { results := [.lit (.bool false)], args := [d] }
  | _ => none }
def ClassReadsWrongFalsely : Prop := classReadsRow.holds Tryd.pinned (OpenSpec.ofChange classReadsWrong)

/-- 'muntinlaw02.ClassCut': WHATEVER THE INPUT: true; the input reads as it did. -/
def classCutSpec : ChangeSpec := { name := "classCut", fn := fun _ => fun
  | [d1, d2] => { results := [.lit (.bool true)], args := [d1, d2] }
  | _ => none }
def classCutRow : OpenClaim := { program := "ytlohpplpnddfaaadoor", sum := "ede7874074a58e9ae90468aff0ce401bb26675ffa0c46bec6936bde034dd54be", func := "muntin/muntinlaw02.ClassCut", spec := "classCut", inPlace := ["internal/abi.NoEscape", "internal/bytealg.IndexByteString", "internal/reflectlite.ValueOf", "(internal/reflectlite.Value).Type", "(internal/reflectlite.Value).IsNil", "internal/reflectlite.TypeOf", "(internal/reflectlite.Value).Elem", "(internal/reflectlite.Value).Set"], unfollowed := true, recurses := true, named := ["errors.errorType"], apart := false, laid := [("errors.errorType", laid_errors_errorType)] }
def ClassCutSaid : Prop := classCutRow.holds Tryd.pinned (OpenSpec.ofChange classCutSpec)

/-- ITS FALSE NEIGHBOUR: 'it returns false'. Refute it at one input. -/
def classCutWrong : ChangeSpec := { name := "classCut", fn := fun _ => fun
  | [d1, d2] => { results := [.lit (.bool false)], args := [d1, d2] }
  | _ => none }
def ClassCutWrongFalsely : Prop := classCutRow.holds Tryd.pinned (OpenSpec.ofChange classCutWrong)

/-- 'muntinlaw03.LexJoins': WHATEVER THE INPUT: true; the input reads as it did. -/
def lexJoinsSpec : ChangeSpec := { name := "lexJoins", fn := fun _ => fun
  | [d1, d2] => { results := [.lit (.bool true)], args := [d1, d2] }
  | _ => none }
def lexJoinsRow : OpenClaim := { program := "ytlohpplpnddfaaadoor", sum := "ede7874074a58e9ae90468aff0ce401bb26675ffa0c46bec6936bde034dd54be", func := "muntin/muntinlaw03.LexJoins", spec := "lexJoins", inPlace := ["internal/bytealg.IndexByteString", "internal/abi.NoEscape", "internal/reflectlite.ValueOf", "(internal/reflectlite.Value).Type", "(internal/reflectlite.Value).IsNil", "internal/reflectlite.TypeOf", "(internal/reflectlite.Value).Elem", "(internal/reflectlite.Value).Set"], unfollowed := true, recurses := true, named := ["errors.errorType"], apart := false, laid := [("errors.errorType", laid_errors_errorType)] }
def LexJoinsSaid : Prop := lexJoinsRow.holds Tryd.pinned (OpenSpec.ofChange lexJoinsSpec)

/-- ITS FALSE NEIGHBOUR: 'it returns false'. Refute it at one input. -/
def lexJoinsWrong : ChangeSpec := { name := "lexJoins", fn := fun _ => fun
  | [d1, d2] => { results := [.lit (.bool false)], args := [d1, d2] }
  | _ => none }
def LexJoinsWrongFalsely : Prop := lexJoinsRow.holds Tryd.pinned (OpenSpec.ofChange lexJoinsWrong)

/-- 'muntinlaw03.LexNotes': WHATEVER THE INPUT: true; the input reads as it did. -/
def lexNotesSpec : ChangeSpec := { name := "lexNotes", fn := fun _ => fun
  | [d1, d2] => { results := [.lit (.bool true)], args := [d1, d2] }
  | _ => none }
def lexNotesRow : OpenClaim := { program := "ytlohpplpnddfaaadoor", sum := "ede7874074a58e9ae90468aff0ce401bb26675ffa0c46bec6936bde034dd54be", func := "muntin/muntinlaw03.LexNotes", spec := "lexNotes", inPlace := ["internal/bytealg.IndexByteString", "internal/abi.NoEscape", "internal/reflectlite.ValueOf", "(internal/reflectlite.Value).Type", "(internal/reflectlite.Value).IsNil", "internal/reflectlite.TypeOf", "(internal/reflectlite.Value).Elem", "(internal/reflectlite.Value).Set"], unfollowed := true, recurses := true, named := ["errors.errorType"], apart := false, laid := [("errors.errorType", laid_errors_errorType)] }
def LexNotesSaid : Prop := lexNotesRow.holds Tryd.pinned (OpenSpec.ofChange lexNotesSpec)

/-- ITS FALSE NEIGHBOUR: 'it returns false'. Refute it at one input. -/
def lexNotesWrong : ChangeSpec := { name := "lexNotes", fn := fun _ => fun
  | [d1, d2] => { results := [.lit (.bool false)], args := [d1, d2] }
  | _ => none }
def LexNotesWrongFalsely : Prop := lexNotesRow.holds Tryd.pinned (OpenSpec.ofChange lexNotesWrong)

/-- 'muntinlaw03.LexNamed': WHATEVER THE INPUT: true; the input reads as it did. -/
def lexNamedSpec : ChangeSpec := { name := "lexNamed", fn := fun _ => fun
  | [d] => { results := [.lit (.bool true)], args := [d] }
  | _ => none }
def lexNamedRow : OpenClaim := { program := "ytlohpplpnddfaaadoor", sum := "ede7874074a58e9ae90468aff0ce401bb26675ffa0c46bec6936bde034dd54be", func := "muntin/muntinlaw03.LexNamed", spec := "lexNamed", inPlace := ["internal/bytealg.IndexByteString", "internal/abi.NoEscape", "internal/reflectlite.ValueOf", "(internal/reflectlite.Value).Type", "(internal/reflectlite.Value).IsNil", "internal/reflectlite.TypeOf", "(internal/reflectlite.Value).Elem", "(internal/reflectlite.Value).Set"], unfollowed := true, recurses := true, named := ["errors.errorType"], apart := false, laid := [("errors.errorType", laid_errors_errorType)] }
def LexNamedSaid : Prop := lexNamedRow.holds Tryd.pinned (OpenSpec.ofChange lexNamedSpec)

/-- ITS FALSE NEIGHBOUR: 'it returns false'. Refute it at one input. -/
def lexNamedWrong : ChangeSpec := { name := "lexNamed", fn := fun _ => fun
  | [d] => { results := [.lit (.bool false)], args := [d] }
  | _ => none }
def LexNamedWrongFalsely : Prop := lexNamedRow.holds Tryd.pinned (OpenSpec.ofChange lexNamedWrong)

/-- 'muntinlaw03.LexApart': WHATEVER THE INPUT: true; the input reads as it did. -/
def lexApartSpec : ChangeSpec := { name := "lexApart", fn := fun _ => fun
  | [d] => { results := [.lit (.bool true)], args := [d] }
  | _ => none }
def lexApartRow : OpenClaim := { program := "ytlohpplpnddfaaadoor", sum := "ede7874074a58e9ae90468aff0ce401bb26675ffa0c46bec6936bde034dd54be", func := "muntin/muntinlaw03.LexApart", spec := "lexApart", inPlace := ["internal/bytealg.IndexByteString", "internal/abi.NoEscape", "internal/reflectlite.ValueOf", "(internal/reflectlite.Value).Type", "(internal/reflectlite.Value).IsNil", "internal/reflectlite.TypeOf", "(internal/reflectlite.Value).Elem", "(internal/reflectlite.Value).Set"], unfollowed := true, recurses := true, named := ["errors.errorType"], apart := false, laid := [("errors.errorType", laid_errors_errorType)] }
def LexApartSaid : Prop := lexApartRow.holds Tryd.pinned (OpenSpec.ofChange lexApartSpec)

/-- ITS FALSE NEIGHBOUR: 'it returns false'. Refute it at one input. -/
def lexApartWrong : ChangeSpec := { name := "lexApart", fn := fun _ => fun
  | [d] => { results := [.lit (.bool false)], args := [d] }
  | _ => none }
def LexApartWrongFalsely : Prop := lexApartRow.holds Tryd.pinned (OpenSpec.ofChange lexApartWrong)

/-- 'muntinlaw03.LexCuts': WHATEVER THE INPUT: true; the input reads as it did. -/
def lexCutsSpec : ChangeSpec := { name := "lexCuts", fn := fun _ => fun
  | [d] => { results := [.lit (.bool true)], args := [d] }
  | _ => none }
def lexCutsRow : OpenClaim := { program := "ytlohpplpnddfaaadoor", sum := "ede7874074a58e9ae90468aff0ce401bb26675ffa0c46bec6936bde034dd54be", func := "muntin/muntinlaw03.LexCuts", spec := "lexCuts", inPlace := ["internal/bytealg.IndexByteString", "internal/abi.NoEscape", "internal/reflectlite.ValueOf", "(internal/reflectlite.Value).Type", "(internal/reflectlite.Value).IsNil", "internal/reflectlite.TypeOf", "(internal/reflectlite.Value).Elem", "(internal/reflectlite.Value).Set"], unfollowed := true, recurses := true, named := ["errors.errorType"], apart := false, laid := [("errors.errorType", laid_errors_errorType)] }
def LexCutsSaid : Prop := lexCutsRow.holds Tryd.pinned (OpenSpec.ofChange lexCutsSpec)

/-- ITS FALSE NEIGHBOUR: 'it returns false'. Refute it at one input. -/
def lexCutsWrong : ChangeSpec := { name := "lexCuts", fn := fun _ => fun
  | [d] => { results := [.lit (.bool false)], args := [d] }
  | _ => none }
def LexCutsWrongFalsely : Prop := lexCutsRow.holds Tryd.pinned (OpenSpec.ofChange lexCutsWrong)

/-- 'muntinlaw03.LexNames': WHATEVER THE INPUT: true; the input reads as it did. -/
def lexNamesSpec : ChangeSpec := { name := "lexNames", fn := fun _ => fun
  | [d1, d2] => { results := [.lit (.bool true)], args := [d1, d2] }
  | _ => none }
def lexNamesRow : OpenClaim := { program := "ytlohpplpnddfaaadoor", sum := "ede7874074a58e9ae90468aff0ce401bb26675ffa0c46bec6936bde034dd54be", func := "muntin/muntinlaw03.LexNames", spec := "lexNames", inPlace := ["internal/bytealg.IndexByteString", "internal/abi.NoEscape", "internal/reflectlite.ValueOf", "(internal/reflectlite.Value).Type", "(internal/reflectlite.Value).IsNil", "internal/reflectlite.TypeOf", "(internal/reflectlite.Value).Elem", "(internal/reflectlite.Value).Set"], unfollowed := true, recurses := true, named := ["errors.errorType"], apart := false, laid := [("errors.errorType", laid_errors_errorType)] }
def LexNamesSaid : Prop := lexNamesRow.holds Tryd.pinned (OpenSpec.ofChange lexNamesSpec)

/-- ITS FALSE NEIGHBOUR: 'it returns false'. Refute it at one input. -/
def lexNamesWrong : ChangeSpec := { name := "lexNames", fn := fun _ => fun
  | [d1, d2] => { results := [.lit (.bool false)], args := [d1, d2] }
  | _ => none }
def LexNamesWrongFalsely : Prop := lexNamesRow.holds Tryd.pinned (OpenSpec.ofChange lexNamesWrong)

/-- 'muntinlaw03.LexBack': WHATEVER THE INPUT: true; the input reads as it did. -/
def lexBackSpec : ChangeSpec := { name := "lexBack", fn := fun _ => fun
  | [d] => { results := [.lit (.bool true)], args := [d] }
  | _ => none }
def lexBackRow : OpenClaim := { program := "ytlohpplpnddfaaadoor", sum := "ede7874074a58e9ae90468aff0ce401bb26675ffa0c46bec6936bde034dd54be", func := "muntin/muntinlaw03.LexBack", spec := "lexBack", inPlace := ["internal/abi.NoEscape", "internal/bytealg.IndexByteString", "internal/reflectlite.ValueOf", "(internal/reflectlite.Value).Type", "(internal/reflectlite.Value).IsNil", "internal/reflectlite.TypeOf", "(internal/reflectlite.Value).Elem", "(internal/reflectlite.Value).Set"], unfollowed := true, recurses := true, named := ["errors.errorType"], apart := false, laid := [("errors.errorType", laid_errors_errorType)] }
def LexBackSaid : Prop := lexBackRow.holds Tryd.pinned (OpenSpec.ofChange lexBackSpec)

/-- ITS FALSE NEIGHBOUR: 'it returns false'. Refute it at one input. -/
def lexBackWrong : ChangeSpec := { name := "lexBack", fn := fun _ => fun
  | [d] => { results := [.lit (.bool false)], args := [d] }
  | _ => none }
def LexBackWrongFalsely : Prop := lexBackRow.holds Tryd.pinned (OpenSpec.ofChange lexBackWrong)

/-- 'muntinlaw04.SyntaxBrackets': WHATEVER THE INPUT: true; the input reads as it did. -/
def syntaxBracketsSpec : ChangeSpec := { name := "syntaxBrackets", fn := fun _ => fun
  | [d] => { results := [.lit (.bool true)], args := [d] }
  | _ => none }
def syntaxBracketsRow : OpenClaim := { program := "ytlohpplpnddfaaadoor", sum := "ede7874074a58e9ae90468aff0ce401bb26675ffa0c46bec6936bde034dd54be", func := "muntin/muntinlaw04.SyntaxBrackets", spec := "syntaxBrackets", inPlace := ["internal/bytealg.IndexByteString", "internal/abi.NoEscape", "internal/reflectlite.ValueOf", "(internal/reflectlite.Value).Type", "(internal/reflectlite.Value).IsNil", "internal/reflectlite.TypeOf", "(internal/reflectlite.Value).Elem", "(internal/reflectlite.Value).Set"], unfollowed := true, recurses := true, named := ["errors.errorType"], apart := false, laid := [("errors.errorType", laid_errors_errorType)] }
def SyntaxBracketsSaid : Prop := syntaxBracketsRow.holds Tryd.pinned (OpenSpec.ofChange syntaxBracketsSpec)

/-- ITS FALSE NEIGHBOUR: 'it returns false'. Refute it at one input. -/
def syntaxBracketsWrong : ChangeSpec := { name := "syntaxBrackets", fn := fun _ => fun
  | [d] => { results := [.lit (.bool false)], args := [d] }
  | _ => none }
def SyntaxBracketsWrongFalsely : Prop := syntaxBracketsRow.holds Tryd.pinned (OpenSpec.ofChange syntaxBracketsWrong)

/-- 'muntinlaw04.SyntaxRows': WHATEVER THE INPUT: true; the input reads as it did. -/
def syntaxRowsSpec : ChangeSpec := { name := "syntaxRows", fn := fun _ => fun
  | [d1, d2] => { results := [.lit (.bool true)], args := [d1, d2] }
  | _ => none }
def syntaxRowsRow : OpenClaim := { program := "ytlohpplpnddfaaadoor", sum := "ede7874074a58e9ae90468aff0ce401bb26675ffa0c46bec6936bde034dd54be", func := "muntin/muntinlaw04.SyntaxRows", spec := "syntaxRows", inPlace := ["internal/bytealg.IndexByteString", "internal/abi.NoEscape", "internal/reflectlite.ValueOf", "(internal/reflectlite.Value).Type", "(internal/reflectlite.Value).IsNil", "internal/reflectlite.TypeOf", "(internal/reflectlite.Value).Elem", "(internal/reflectlite.Value).Set"], unfollowed := true, recurses := true, named := ["errors.errorType"], apart := false, laid := [("errors.errorType", laid_errors_errorType)] }
def SyntaxRowsSaid : Prop := syntaxRowsRow.holds Tryd.pinned (OpenSpec.ofChange syntaxRowsSpec)

/-- ITS FALSE NEIGHBOUR: 'it returns false'. Refute it at one input. -/
def syntaxRowsWrong : ChangeSpec := { name := "syntaxRows", fn := fun _ => fun
  | [d1, d2] => { results := [.lit (.bool false)], args := [d1, d2] }
  | _ => none }
def SyntaxRowsWrongFalsely : Prop := syntaxRowsRow.holds Tryd.pinned (OpenSpec.ofChange syntaxRowsWrong)

/-- 'muntinlaw04.SyntaxNames': WHATEVER THE INPUT: true; the input reads as it did. -/
def syntaxNamesSpec : ChangeSpec := { name := "syntaxNames", fn := fun _ => fun
  | [d] => { results := [.lit (.bool true)], args := [d] }
  | _ => none }
def syntaxNamesRow : OpenClaim := { program := "ytlohpplpnddfaaadoor", sum := "ede7874074a58e9ae90468aff0ce401bb26675ffa0c46bec6936bde034dd54be", func := "muntin/muntinlaw04.SyntaxNames", spec := "syntaxNames", inPlace := ["internal/bytealg.IndexByteString", "internal/abi.NoEscape", "internal/reflectlite.ValueOf", "(internal/reflectlite.Value).Type", "(internal/reflectlite.Value).IsNil", "internal/reflectlite.TypeOf", "(internal/reflectlite.Value).Elem", "(internal/reflectlite.Value).Set"], unfollowed := true, recurses := true, named := ["errors.errorType"], apart := false, laid := [("errors.errorType", laid_errors_errorType)] }
def SyntaxNamesSaid : Prop := syntaxNamesRow.holds Tryd.pinned (OpenSpec.ofChange syntaxNamesSpec)

/-- ITS FALSE NEIGHBOUR: 'it returns false'. Refute it at one input. -/
def syntaxNamesWrong : ChangeSpec := { name := "syntaxNames", fn := fun _ => fun
  | [d] => { results := [.lit (.bool false)], args := [d] }
  | _ => none }
def SyntaxNamesWrongFalsely : Prop := syntaxNamesRow.holds Tryd.pinned (OpenSpec.ofChange syntaxNamesWrong)

/-- 'muntinlaw04.SyntaxSigns': WHATEVER THE INPUT: true; the input reads as it did. -/
def syntaxSignsSpec : ChangeSpec := { name := "syntaxSigns", fn := fun _ => fun
  | [d1, d2] => { results := [.lit (.bool true)], args := [d1, d2] }
  | _ => none }
def syntaxSignsRow : OpenClaim := { program := "ytlohpplpnddfaaadoor", sum := "ede7874074a58e9ae90468aff0ce401bb26675ffa0c46bec6936bde034dd54be", func := "muntin/muntinlaw04.SyntaxSigns", spec := "syntaxSigns", inPlace := ["internal/bytealg.IndexByteString", "internal/abi.NoEscape", "internal/reflectlite.ValueOf", "(internal/reflectlite.Value).Type", "(internal/reflectlite.Value).IsNil", "internal/reflectlite.TypeOf", "(internal/reflectlite.Value).Elem", "(internal/reflectlite.Value).Set"], unfollowed := true, recurses := true, named := ["errors.errorType"], apart := false, laid := [("errors.errorType", laid_errors_errorType)] }
def SyntaxSignsSaid : Prop := syntaxSignsRow.holds Tryd.pinned (OpenSpec.ofChange syntaxSignsSpec)

/-- ITS FALSE NEIGHBOUR: 'it returns false'. Refute it at one input. -/
def syntaxSignsWrong : ChangeSpec := { name := "syntaxSigns", fn := fun _ => fun
  | [d1, d2] => { results := [.lit (.bool false)], args := [d1, d2] }
  | _ => none }
def SyntaxSignsWrongFalsely : Prop := syntaxSignsRow.holds Tryd.pinned (OpenSpec.ofChange syntaxSignsWrong)

/-- 'muntinlaw04.SyntaxApart': WHATEVER THE INPUT: true; the input reads as it did. -/
def syntaxApartSpec : ChangeSpec := { name := "syntaxApart", fn := fun _ => fun
  | [d1, d2] => { results := [.lit (.bool true)], args := [d1, d2] }
  | _ => none }
def syntaxApartRow : OpenClaim := { program := "ytlohpplpnddfaaadoor", sum := "ede7874074a58e9ae90468aff0ce401bb26675ffa0c46bec6936bde034dd54be", func := "muntin/muntinlaw04.SyntaxApart", spec := "syntaxApart", inPlace := ["internal/bytealg.IndexByteString", "internal/abi.NoEscape", "internal/reflectlite.ValueOf", "(internal/reflectlite.Value).Type", "(internal/reflectlite.Value).IsNil", "internal/reflectlite.TypeOf", "(internal/reflectlite.Value).Elem", "(internal/reflectlite.Value).Set"], unfollowed := true, recurses := true, named := ["errors.errorType"], apart := false, laid := [("errors.errorType", laid_errors_errorType)] }
def SyntaxApartSaid : Prop := syntaxApartRow.holds Tryd.pinned (OpenSpec.ofChange syntaxApartSpec)

/-- ITS FALSE NEIGHBOUR: 'it returns false'. Refute it at one input. -/
def syntaxApartWrong : ChangeSpec := { name := "syntaxApart", fn := fun _ => fun
  | [d1, d2] => { results := [.lit (.bool false)], args := [d1, d2] }
  | _ => none }
def SyntaxApartWrongFalsely : Prop := syntaxApartRow.holds Tryd.pinned (OpenSpec.ofChange syntaxApartWrong)

/-- 'muntinlaw04.SyntaxNests': WHATEVER THE INPUT: true; the input reads as it did. -/
def syntaxNestsSpec : ChangeSpec := { name := "syntaxNests", fn := fun _ => fun
  | [d] => { results := [.lit (.bool true)], args := [d] }
  | _ => none }
def syntaxNestsRow : OpenClaim := { program := "ytlohpplpnddfaaadoor", sum := "ede7874074a58e9ae90468aff0ce401bb26675ffa0c46bec6936bde034dd54be", func := "muntin/muntinlaw04.SyntaxNests", spec := "syntaxNests", inPlace := ["internal/bytealg.IndexByteString", "internal/abi.NoEscape", "internal/reflectlite.ValueOf", "(internal/reflectlite.Value).Type", "(internal/reflectlite.Value).IsNil", "internal/reflectlite.TypeOf", "(internal/reflectlite.Value).Elem", "(internal/reflectlite.Value).Set"], unfollowed := true, recurses := true, named := ["errors.errorType"], apart := false, laid := [("errors.errorType", laid_errors_errorType)] }
def SyntaxNestsSaid : Prop := syntaxNestsRow.holds Tryd.pinned (OpenSpec.ofChange syntaxNestsSpec)

/-- ITS FALSE NEIGHBOUR: 'it returns false'. Refute it at one input. -/
def syntaxNestsWrong : ChangeSpec := { name := "syntaxNests", fn := fun _ => fun
  | [d] => { results := [.lit (.bool false)], args := [d] }
  | _ => none }
def SyntaxNestsWrongFalsely : Prop := syntaxNestsRow.holds Tryd.pinned (OpenSpec.ofChange syntaxNestsWrong)

/- THE SECOND FORM. 'bulk': how many values and letters a reading holds, each counted each time it is reached (what is shared counts as often as it is met; a slice's spare places count too). A statement '..UptoSaid' is the law's where the arguments, and the package variables that the reading takes, are together of bulk at most 1048576: NARROWER than '..Said'. Prove '..Said' where nothing that the law and all that it calls make is longer than what came in: it says more and counts as full. Else prove '..UptoSaid'. A law counts once. -/
mutual
def uptoBulk {H : Type} : DataW H → Nat
  | .lit (.string bytes) => bytes.length + 1
  | .lit _ => 1
  | .nil => 1
  | .ptr d => uptoBulk d + 1
  | .slice elems spare => uptoBulkAll elems + uptoBulkAll spare + 1
  | .agg parts => uptoBulkAll parts + 1
  | .iface _ d => uptoBulk d + 1
  | .map entries => uptoBulkEntries entries + 1
  | .held _ => 1
def uptoBulkAll {H : Type} : List (DataW H) → Nat
  | [] => 0
  | d :: r => uptoBulk d + uptoBulkAll r
def uptoBulkEntries {H : Type} : List (Lit × DataW H) → Nat
  | [] => 0
  | x :: r => uptoBulkEntry x + uptoBulkEntries r
def uptoBulkEntry {H : Type} : Lit × DataW H → Nat
  | (.string bytes, d) => bytes.length + uptoBulk d + 1
  | (_, d) => uptoBulk d + 1
 end
def uptoSmall : (H : Type) → List (DataW H) → Bool := fun _ ds => decide (uptoBulkAll ds ≤ 1048576)
def OpenSpec.upto (s : _root_.Go.ChangeSpec) : _root_.Go.OpenSpec := { _root_.Go.OpenSpec.ofChange s with cond := some uptoSmall }

/-- 'muntinlaw02.ClassRanges', WHERE WHAT IT READS IS OF BULK AT MOST 1048576: true; the input reads as it did. -/
def classRangesUptoRow : OpenClaim := { program := "ytlohpplpnddfaaadoor", sum := "ede7874074a58e9ae90468aff0ce401bb26675ffa0c46bec6936bde034dd54be", func := "muntin/muntinlaw02.ClassRanges", spec := "classRanges", inPlace := ["internal/reflectlite.ValueOf", "(internal/reflectlite.Value).Type", "(internal/reflectlite.Value).IsNil", "internal/reflectlite.TypeOf", "(internal/reflectlite.Value).Elem", "(internal/reflectlite.Value).Set"], unfollowed := true, recurses := true, named := ["errors.errorType"], apart := false, laid := [("errors.errorType", laid_errors_errorType)], narrowed := true }
def ClassRangesUptoSaid : Prop := classRangesUptoRow.holds Tryd.pinned (OpenSpec.upto classRangesSpec)

/-- 'muntinlaw02.ClassWorks', WHERE WHAT IT READS IS OF BULK AT MOST 1048576: true; the input reads as it did. -/
def classWorksUptoRow : OpenClaim := { program := "ytlohpplpnddfaaadoor", sum := "ede7874074a58e9ae90468aff0ce401bb26675ffa0c46bec6936bde034dd54be", func := "muntin/muntinlaw02.ClassWorks", spec := "classWorks", inPlace := ["internal/reflectlite.ValueOf", "(internal/reflectlite.Value).Type", "(internal/reflectlite.Value).IsNil", "internal/reflectlite.TypeOf", "(internal/reflectlite.Value).Elem", "(internal/reflectlite.Value).Set"], unfollowed := true, recurses := true, named := ["errors.errorType"], apart := false, laid := [("errors.errorType", laid_errors_errorType)], narrowed := true }
def ClassWorksUptoSaid : Prop := classWorksUptoRow.holds Tryd.pinned (OpenSpec.upto classWorksSpec)

/-- 'muntinlaw02.ClassReads', WHERE WHAT IT READS IS OF BULK AT MOST 1048576: true; the input reads as it did. -/
def classReadsUptoRow : OpenClaim := { program := "ytlohpplpnddfaaadoor", sum := "ede7874074a58e9ae90468aff0ce401bb26675ffa0c46bec6936bde034dd54be", func := "muntin/muntinlaw02.ClassReads", spec := "classReads", inPlace := ["internal/bytealg.IndexByteString", "internal/reflectlite.ValueOf", "(internal/reflectlite.Value).Type", "(internal/reflectlite.Value).IsNil", "internal/reflectlite.TypeOf", "(internal/reflectlite.Value).Elem", "(internal/reflectlite.Value).Set"], unfollowed := true, recurses := true, named := ["errors.errorType"], apart := false, laid := [("errors.errorType", laid_errors_errorType)], narrowed := true }
def ClassReadsUptoSaid : Prop := classReadsUptoRow.holds Tryd.pinned (OpenSpec.upto classReadsSpec)

/-- 'muntinlaw02.ClassCut', WHERE WHAT IT READS IS OF BULK AT MOST 1048576: true; the input reads as it did. -/
def classCutUptoRow : OpenClaim := { program := "ytlohpplpnddfaaadoor", sum := "ede7874074a58e9ae90468aff0ce401bb26675ffa0c46bec6936bde034dd54be", func := "muntin/muntinlaw02.ClassCut", spec := "classCut", inPlace := ["internal/abi.NoEscape", "internal/bytealg.IndexByteString", "internal/reflectlite.ValueOf", "(internal/reflectlite.Value).Type", "(internal/reflectlite.Value).IsNil", "internal/reflectlite.TypeOf", "(internal/reflectlite.Value).Elem", "(internal/reflectlite.Value).Set"], unfollowed := true, recurses := true, named := ["errors.errorType"], apart := false, laid := [("errors.errorType", laid_errors_errorType)], narrowed := true }
def ClassCutUptoSaid : Prop := classCutUptoRow.holds Tryd.pinned (OpenSpec.upto classCutSpec)

/-- 'muntinlaw03.LexJoins', WHERE WHAT IT READS IS OF BULK AT MOST 1048576: true; the input reads as it did. -/
def lexJoinsUptoRow : OpenClaim := { program := "ytlohpplpnddfaaadoor", sum := "ede7874074a58e9ae90468aff0ce401bb26675ffa0c46bec6936bde034dd54be", func := "muntin/muntinlaw03.LexJoins", spec := "lexJoins", inPlace := ["internal/bytealg.IndexByteString", "internal/abi.NoEscape", "internal/reflectlite.ValueOf", "(internal/reflectlite.Value).Type", "(internal/reflectlite.Value).IsNil", "internal/reflectlite.TypeOf", "(internal/reflectlite.Value).Elem", "(internal/reflectlite.Value).Set"], unfollowed := true, recurses := true, named := ["errors.errorType"], apart := false, laid := [("errors.errorType", laid_errors_errorType)], narrowed := true }
def LexJoinsUptoSaid : Prop := lexJoinsUptoRow.holds Tryd.pinned (OpenSpec.upto lexJoinsSpec)

/-- 'muntinlaw03.LexNotes', WHERE WHAT IT READS IS OF BULK AT MOST 1048576: true; the input reads as it did. -/
def lexNotesUptoRow : OpenClaim := { program := "ytlohpplpnddfaaadoor", sum := "ede7874074a58e9ae90468aff0ce401bb26675ffa0c46bec6936bde034dd54be", func := "muntin/muntinlaw03.LexNotes", spec := "lexNotes", inPlace := ["internal/bytealg.IndexByteString", "internal/abi.NoEscape", "internal/reflectlite.ValueOf", "(internal/reflectlite.Value).Type", "(internal/reflectlite.Value).IsNil", "internal/reflectlite.TypeOf", "(internal/reflectlite.Value).Elem", "(internal/reflectlite.Value).Set"], unfollowed := true, recurses := true, named := ["errors.errorType"], apart := false, laid := [("errors.errorType", laid_errors_errorType)], narrowed := true }
def LexNotesUptoSaid : Prop := lexNotesUptoRow.holds Tryd.pinned (OpenSpec.upto lexNotesSpec)

/-- 'muntinlaw03.LexNamed', WHERE WHAT IT READS IS OF BULK AT MOST 1048576: true; the input reads as it did. -/
def lexNamedUptoRow : OpenClaim := { program := "ytlohpplpnddfaaadoor", sum := "ede7874074a58e9ae90468aff0ce401bb26675ffa0c46bec6936bde034dd54be", func := "muntin/muntinlaw03.LexNamed", spec := "lexNamed", inPlace := ["internal/bytealg.IndexByteString", "internal/abi.NoEscape", "internal/reflectlite.ValueOf", "(internal/reflectlite.Value).Type", "(internal/reflectlite.Value).IsNil", "internal/reflectlite.TypeOf", "(internal/reflectlite.Value).Elem", "(internal/reflectlite.Value).Set"], unfollowed := true, recurses := true, named := ["errors.errorType"], apart := false, laid := [("errors.errorType", laid_errors_errorType)], narrowed := true }
def LexNamedUptoSaid : Prop := lexNamedUptoRow.holds Tryd.pinned (OpenSpec.upto lexNamedSpec)

/-- 'muntinlaw03.LexApart', WHERE WHAT IT READS IS OF BULK AT MOST 1048576: true; the input reads as it did. -/
def lexApartUptoRow : OpenClaim := { program := "ytlohpplpnddfaaadoor", sum := "ede7874074a58e9ae90468aff0ce401bb26675ffa0c46bec6936bde034dd54be", func := "muntin/muntinlaw03.LexApart", spec := "lexApart", inPlace := ["internal/bytealg.IndexByteString", "internal/abi.NoEscape", "internal/reflectlite.ValueOf", "(internal/reflectlite.Value).Type", "(internal/reflectlite.Value).IsNil", "internal/reflectlite.TypeOf", "(internal/reflectlite.Value).Elem", "(internal/reflectlite.Value).Set"], unfollowed := true, recurses := true, named := ["errors.errorType"], apart := false, laid := [("errors.errorType", laid_errors_errorType)], narrowed := true }
def LexApartUptoSaid : Prop := lexApartUptoRow.holds Tryd.pinned (OpenSpec.upto lexApartSpec)

/-- 'muntinlaw03.LexCuts', WHERE WHAT IT READS IS OF BULK AT MOST 1048576: true; the input reads as it did. -/
def lexCutsUptoRow : OpenClaim := { program := "ytlohpplpnddfaaadoor", sum := "ede7874074a58e9ae90468aff0ce401bb26675ffa0c46bec6936bde034dd54be", func := "muntin/muntinlaw03.LexCuts", spec := "lexCuts", inPlace := ["internal/bytealg.IndexByteString", "internal/abi.NoEscape", "internal/reflectlite.ValueOf", "(internal/reflectlite.Value).Type", "(internal/reflectlite.Value).IsNil", "internal/reflectlite.TypeOf", "(internal/reflectlite.Value).Elem", "(internal/reflectlite.Value).Set"], unfollowed := true, recurses := true, named := ["errors.errorType"], apart := false, laid := [("errors.errorType", laid_errors_errorType)], narrowed := true }
def LexCutsUptoSaid : Prop := lexCutsUptoRow.holds Tryd.pinned (OpenSpec.upto lexCutsSpec)

/-- 'muntinlaw03.LexNames', WHERE WHAT IT READS IS OF BULK AT MOST 1048576: true; the input reads as it did. -/
def lexNamesUptoRow : OpenClaim := { program := "ytlohpplpnddfaaadoor", sum := "ede7874074a58e9ae90468aff0ce401bb26675ffa0c46bec6936bde034dd54be", func := "muntin/muntinlaw03.LexNames", spec := "lexNames", inPlace := ["internal/bytealg.IndexByteString", "internal/abi.NoEscape", "internal/reflectlite.ValueOf", "(internal/reflectlite.Value).Type", "(internal/reflectlite.Value).IsNil", "internal/reflectlite.TypeOf", "(internal/reflectlite.Value).Elem", "(internal/reflectlite.Value).Set"], unfollowed := true, recurses := true, named := ["errors.errorType"], apart := false, laid := [("errors.errorType", laid_errors_errorType)], narrowed := true }
def LexNamesUptoSaid : Prop := lexNamesUptoRow.holds Tryd.pinned (OpenSpec.upto lexNamesSpec)

/-- 'muntinlaw03.LexBack', WHERE WHAT IT READS IS OF BULK AT MOST 1048576: true; the input reads as it did. -/
def lexBackUptoRow : OpenClaim := { program := "ytlohpplpnddfaaadoor", sum := "ede7874074a58e9ae90468aff0ce401bb26675ffa0c46bec6936bde034dd54be", func := "muntin/muntinlaw03.LexBack", spec := "lexBack", inPlace := ["internal/abi.NoEscape", "internal/bytealg.IndexByteString", "internal/reflectlite.ValueOf", "(internal/reflectlite.Value).Type", "(internal/reflectlite.Value).IsNil", "internal/reflectlite.TypeOf", "(internal/reflectlite.Value).Elem", "(internal/reflectlite.Value).Set"], unfollowed := true, recurses := true, named := ["errors.errorType"], apart := false, laid := [("errors.errorType", laid_errors_errorType)], narrowed := true }
def LexBackUptoSaid : Prop := lexBackUptoRow.holds Tryd.pinned (OpenSpec.upto lexBackSpec)

/-- 'muntinlaw04.SyntaxBrackets', WHERE WHAT IT READS IS OF BULK AT MOST 1048576: true; the input reads as it did. -/
def syntaxBracketsUptoRow : OpenClaim := { program := "ytlohpplpnddfaaadoor", sum := "ede7874074a58e9ae90468aff0ce401bb26675ffa0c46bec6936bde034dd54be", func := "muntin/muntinlaw04.SyntaxBrackets", spec := "syntaxBrackets", inPlace := ["internal/bytealg.IndexByteString", "internal/abi.NoEscape", "internal/reflectlite.ValueOf", "(internal/reflectlite.Value).Type", "(internal/reflectlite.Value).IsNil", "internal/reflectlite.TypeOf", "(internal/reflectlite.Value).Elem", "(internal/reflectlite.Value).Set"], unfollowed := true, recurses := true, named := ["errors.errorType"], apart := false, laid := [("errors.errorType", laid_errors_errorType)], narrowed := true }
def SyntaxBracketsUptoSaid : Prop := syntaxBracketsUptoRow.holds Tryd.pinned (OpenSpec.upto syntaxBracketsSpec)

/-- 'muntinlaw04.SyntaxRows', WHERE WHAT IT READS IS OF BULK AT MOST 1048576: true; the input reads as it did. -/
def syntaxRowsUptoRow : OpenClaim := { program := "ytlohpplpnddfaaadoor", sum := "ede7874074a58e9ae90468aff0ce401bb26675ffa0c46bec6936bde034dd54be", func := "muntin/muntinlaw04.SyntaxRows", spec := "syntaxRows", inPlace := ["internal/bytealg.IndexByteString", "internal/abi.NoEscape", "internal/reflectlite.ValueOf", "(internal/reflectlite.Value).Type", "(internal/reflectlite.Value).IsNil", "internal/reflectlite.TypeOf", "(internal/reflectlite.Value).Elem", "(internal/reflectlite.Value).Set"], unfollowed := true, recurses := true, named := ["errors.errorType"], apart := false, laid := [("errors.errorType", laid_errors_errorType)], narrowed := true }
def SyntaxRowsUptoSaid : Prop := syntaxRowsUptoRow.holds Tryd.pinned (OpenSpec.upto syntaxRowsSpec)

/-- 'muntinlaw04.SyntaxNames', WHERE WHAT IT READS IS OF BULK AT MOST 1048576: true; the input reads as it did. -/
def syntaxNamesUptoRow : OpenClaim := { program := "ytlohpplpnddfaaadoor", sum := "ede7874074a58e9ae90468aff0ce401bb26675ffa0c46bec6936bde034dd54be", func := "muntin/muntinlaw04.SyntaxNames", spec := "syntaxNames", inPlace := ["internal/bytealg.IndexByteString", "internal/abi.NoEscape", "internal/reflectlite.ValueOf", "(internal/reflectlite.Value).Type", "(internal/reflectlite.Value).IsNil", "internal/reflectlite.TypeOf", "(internal/reflectlite.Value).Elem", "(internal/reflectlite.Value).Set"], unfollowed := true, recurses := true, named := ["errors.errorType"], apart := false, laid := [("errors.errorType", laid_errors_errorType)], narrowed := true }
def SyntaxNamesUptoSaid : Prop := syntaxNamesUptoRow.holds Tryd.pinned (OpenSpec.upto syntaxNamesSpec)

/-- 'muntinlaw04.SyntaxSigns', WHERE WHAT IT READS IS OF BULK AT MOST 1048576: true; the input reads as it did. -/
def syntaxSignsUptoRow : OpenClaim := { program := "ytlohpplpnddfaaadoor", sum := "ede7874074a58e9ae90468aff0ce401bb26675ffa0c46bec6936bde034dd54be", func := "muntin/muntinlaw04.SyntaxSigns", spec := "syntaxSigns", inPlace := ["internal/bytealg.IndexByteString", "internal/abi.NoEscape", "internal/reflectlite.ValueOf", "(internal/reflectlite.Value).Type", "(internal/reflectlite.Value).IsNil", "internal/reflectlite.TypeOf", "(internal/reflectlite.Value).Elem", "(internal/reflectlite.Value).Set"], unfollowed := true, recurses := true, named := ["errors.errorType"], apart := false, laid := [("errors.errorType", laid_errors_errorType)], narrowed := true }
def SyntaxSignsUptoSaid : Prop := syntaxSignsUptoRow.holds Tryd.pinned (OpenSpec.upto syntaxSignsSpec)

/-- 'muntinlaw04.SyntaxApart', WHERE WHAT IT READS IS OF BULK AT MOST 1048576: true; the input reads as it did. -/
def syntaxApartUptoRow : OpenClaim := { program := "ytlohpplpnddfaaadoor", sum := "ede7874074a58e9ae90468aff0ce401bb26675ffa0c46bec6936bde034dd54be", func := "muntin/muntinlaw04.SyntaxApart", spec := "syntaxApart", inPlace := ["internal/bytealg.IndexByteString", "internal/abi.NoEscape", "internal/reflectlite.ValueOf", "(internal/reflectlite.Value).Type", "(internal/reflectlite.Value).IsNil", "internal/reflectlite.TypeOf", "(internal/reflectlite.Value).Elem", "(internal/reflectlite.Value).Set"], unfollowed := true, recurses := true, named := ["errors.errorType"], apart := false, laid := [("errors.errorType", laid_errors_errorType)], narrowed := true }
def SyntaxApartUptoSaid : Prop := syntaxApartUptoRow.holds Tryd.pinned (OpenSpec.upto syntaxApartSpec)

/-- 'muntinlaw04.SyntaxNests', WHERE WHAT IT READS IS OF BULK AT MOST 1048576: true; the input reads as it did. -/
def syntaxNestsUptoRow : OpenClaim := { program := "ytlohpplpnddfaaadoor", sum := "ede7874074a58e9ae90468aff0ce401bb26675ffa0c46bec6936bde034dd54be", func := "muntin/muntinlaw04.SyntaxNests", spec := "syntaxNests", inPlace := ["internal/bytealg.IndexByteString", "internal/abi.NoEscape", "internal/reflectlite.ValueOf", "(internal/reflectlite.Value).Type", "(internal/reflectlite.Value).IsNil", "internal/reflectlite.TypeOf", "(internal/reflectlite.Value).Elem", "(internal/reflectlite.Value).Set"], unfollowed := true, recurses := true, named := ["errors.errorType"], apart := false, laid := [("errors.errorType", laid_errors_errorType)], narrowed := true }
def SyntaxNestsUptoSaid : Prop := syntaxNestsUptoRow.holds Tryd.pinned (OpenSpec.upto syntaxNestsSpec)

end Rows
end Go.Proofs.YtlohpplpnddfaaaDoor
