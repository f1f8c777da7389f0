/-
  NARROWER THAN 'FOR EVERY INPUT', by the rows' own cells (each row's printed sentence says how): NullableRefs: loops, laid · NullableRows: loops, laid · NullableLooks: loops, laid · ScopeClosed: loops, laid · ScopeMore: loops, laid · ScopeFinds: loops, laid · ScopeAgain: loops, laid · NullablePruned: loops, laid.
  DERIVED. THE GIVEN ROWS OF THIS SEAT. 8 by the template 'for every input the law returns true; each argument reads behind the call as it read before'; 0 by the template 'total and deterministic' (their statements: YtjlcoldnhbkcgaaGreatDoorTotals.lean).
  GIVEN WITH THE SEED: the statements are not yours to turn. If you find one false, say at which input.
  Laid BY PROGRAM, IN A SANDBOX (cutbox-rows.mjs): the forced cells as the released guide's own fill.sh prints them over the translation a9d1f74289df06c4… (all of the seat's roots in one cut). By AI agents, Wed Nov 11 2026. No macro, syntax, notation, axiom, sorry.
-/
import Derived.Test.YtjlcoldnhbkcgaaGreatDoorChecked
import GoSem.Claim
import GoSem.ClaimJoined
import GoSem.ClaimMapViews
import Derived.JoinedTies
import Derived.KernelRfl
namespace Go.Proofs.YtjlcoldnhbkcgaaGreatDoor
/- THE CELL 'sum', in the pinned program and in every row, IS THE sha256 OF THE DUMP (.gsa) THAT YtjlcoldnhbkcgaaGreatDoorProg.lean LOADS. Nothing in Lean hashes anything: it is a label: what it is worth is what the hold of that sum in a sandbox is worth. -/
noncomputable def Tryz.pinned : Pinned := { name := "ytjlcoldnhbkcgaagreatdoor", sum := "a9d1f74289df06c43aa10227d56b53b3d6a7bf3e9537a6e7103a94b28d375cfe", checked := Tryz.checked }
namespace Rows
def none {H : Type} : Left H := { results := [], args := [] }

/- WHAT THE LISTED PACKAGE-LEVEL VARIABLES READ AS WHEN THE CALL BEGINS. Each datum BY PROGRAM (the guide's laid-datum.mjs) off the statement by which the dump's own 'gosem.cut.vars' lays the variable. In a bare row this is a premise. The card (YtjlcoldnhbkcgaaGreatDoorCards.lean) ties it to the program's text. -/
def laid_errors_errorType {H : Type} : DataW H := .iface "internal/reflectlite.rtype" (.agg [.ptr (.lit (.string [101, 114, 114, 111, 114]))])

/-- 'muntinlaw07.NullableRefs': WHATEVER THE INPUT: true; the input reads as it did. -/
def nullableRefsSpec : ChangeSpec := { name := "nullableRefs", fn := fun _ => fun
  | [d] => { results := [.lit (.bool true)], args := [d] }
  | _ => none }
def nullableRefsRow : OpenClaim := { program := "ytjlcoldnhbkcgaagreatdoor", sum := "a9d1f74289df06c43aa10227d56b53b3d6a7bf3e9537a6e7103a94b28d375cfe", func := "muntin/muntinlaw07.NullableRefs", spec := "nullableRefs", inPlace := ["internal/bytealg.IndexByteString", "internal/abi.NoEscape", "internal/reflectlite.ValueOf", "(internal/reflectlite.Value).Type", "(internal/reflectlite.Value).IsNil", "internal/reflectlite.TypeOf", "(internal/reflectlite.Value).Elem", "(internal/reflectlite.Value).Set"], unfollowed := true, recurses := true, named := ["errors.errorType"], loops := true, apart := false, laid := [("errors.errorType", laid_errors_errorType)] }
def NullableRefsSaid : Prop := nullableRefsRow.holds Tryz.pinned (OpenSpec.ofChange nullableRefsSpec)

/-- ITS FALSE NEIGHBOUR: 'it returns false'. Refute it at one input. -/
def nullableRefsWrong : ChangeSpec := { name := "nullableRefs", fn := fun _ => fun
  | [d] => { results := [.lit (.bool false)], args := [d] }
  | _ => none }
def NullableRefsWrongFalsely : Prop := nullableRefsRow.holds Tryz.pinned (OpenSpec.ofChange nullableRefsWrong)

/-- 'muntinlaw07.NullableRows': WHATEVER THE INPUT: true; the input reads as it did. -/
def nullableRowsSpec : ChangeSpec := { name := "nullableRows", fn := fun _ => fun
  | [d1, d2, d3] => { results := [.lit (.bool true)], args := [d1, d2, d3] }
  | _ => none }
def nullableRowsRow : OpenClaim := { program := "ytjlcoldnhbkcgaagreatdoor", sum := "a9d1f74289df06c43aa10227d56b53b3d6a7bf3e9537a6e7103a94b28d375cfe", func := "muntin/muntinlaw07.NullableRows", spec := "nullableRows", inPlace := ["internal/bytealg.IndexByteString", "internal/abi.NoEscape", "internal/reflectlite.ValueOf", "(internal/reflectlite.Value).Type", "(internal/reflectlite.Value).IsNil", "internal/reflectlite.TypeOf", "(internal/reflectlite.Value).Elem", "(internal/reflectlite.Value).Set"], unfollowed := true, recurses := true, named := ["errors.errorType"], loops := true, apart := false, laid := [("errors.errorType", laid_errors_errorType)] }
def NullableRowsSaid : Prop := nullableRowsRow.holds Tryz.pinned (OpenSpec.ofChange nullableRowsSpec)

/-- ITS FALSE NEIGHBOUR: 'it returns false'. Refute it at one input. -/
def nullableRowsWrong : ChangeSpec := { name := "nullableRows", fn := fun _ => fun
  | [d1, d2, d3] => { results := [.lit (.bool false)], args := [d1, d2, d3] }
  | _ => none }
def NullableRowsWrongFalsely : Prop := nullableRowsRow.holds Tryz.pinned (OpenSpec.ofChange nullableRowsWrong)

/-- 'muntinlaw07.NullableLooks': WHATEVER THE INPUT: true; the input reads as it did. -/
def nullableLooksSpec : ChangeSpec := { name := "nullableLooks", fn := fun _ => fun
  | [d1, d2] => { results := [.lit (.bool true)], args := [d1, d2] }
  | _ => none }
def nullableLooksRow : OpenClaim := { program := "ytjlcoldnhbkcgaagreatdoor", sum := "a9d1f74289df06c43aa10227d56b53b3d6a7bf3e9537a6e7103a94b28d375cfe", func := "muntin/muntinlaw07.NullableLooks", spec := "nullableLooks", inPlace := ["internal/bytealg.IndexByteString", "internal/abi.NoEscape", "internal/reflectlite.ValueOf", "(internal/reflectlite.Value).Type", "(internal/reflectlite.Value).IsNil", "internal/reflectlite.TypeOf", "(internal/reflectlite.Value).Elem", "(internal/reflectlite.Value).Set"], unfollowed := true, recurses := true, named := ["errors.errorType"], loops := true, apart := false, laid := [("errors.errorType", laid_errors_errorType)] }
def NullableLooksSaid : Prop := nullableLooksRow.holds Tryz.pinned (OpenSpec.ofChange nullableLooksSpec)

/-- ITS FALSE NEIGHBOUR: 'it returns false'. Refute it at one input. -/
def nullableLooksWrong : ChangeSpec := { name := "nullableLooks", fn := fun _ => fun
  | [d1, d2] => { results := [.lit (.bool false)], args := [d1, d2] }
  | _ => none }
def NullableLooksWrongFalsely : Prop := nullableLooksRow.holds Tryz.pinned (OpenSpec.ofChange nullableLooksWrong)

/-- 'muntinlaw06.ScopeClosed': WHATEVER THE INPUT: true; the input reads as it did. -/
def scopeClosedSpec : ChangeSpec := { name := "scopeClosed", fn := fun _ => fun
  | [d1, d2] => { results := [.lit (.bool true)], args := [d1, d2] }
  | _ => none }
def scopeClosedRow : OpenClaim := { program := "ytjlcoldnhbkcgaagreatdoor", sum := "a9d1f74289df06c43aa10227d56b53b3d6a7bf3e9537a6e7103a94b28d375cfe", func := "muntin/muntinlaw06.ScopeClosed", spec := "scopeClosed", inPlace := ["internal/bytealg.IndexByteString", "internal/abi.NoEscape", "internal/reflectlite.ValueOf", "(internal/reflectlite.Value).Type", "(internal/reflectlite.Value).IsNil", "internal/reflectlite.TypeOf", "(internal/reflectlite.Value).Elem", "(internal/reflectlite.Value).Set"], unfollowed := true, recurses := true, named := ["errors.errorType"], loops := true, apart := false, laid := [("errors.errorType", laid_errors_errorType)] }
def ScopeClosedSaid : Prop := scopeClosedRow.holds Tryz.pinned (OpenSpec.ofChange scopeClosedSpec)

/-- ITS FALSE NEIGHBOUR: 'it returns false'. Refute it at one input. -/
def scopeClosedWrong : ChangeSpec := { name := "scopeClosed", fn := fun _ => fun
  | [d1, d2] => { results := [.lit (.bool false)], args := [d1, d2] }
  | _ => none }
def ScopeClosedWrongFalsely : Prop := scopeClosedRow.holds Tryz.pinned (OpenSpec.ofChange scopeClosedWrong)

/-- 'muntinlaw06.ScopeMore': WHATEVER THE INPUT: true; the input reads as it did. -/
def scopeMoreSpec : ChangeSpec := { name := "scopeMore", fn := fun _ => fun
  | [d1, d2, d3] => { results := [.lit (.bool true)], args := [d1, d2, d3] }
  | _ => none }
def scopeMoreRow : OpenClaim := { program := "ytjlcoldnhbkcgaagreatdoor", sum := "a9d1f74289df06c43aa10227d56b53b3d6a7bf3e9537a6e7103a94b28d375cfe", func := "muntin/muntinlaw06.ScopeMore", spec := "scopeMore", inPlace := ["internal/bytealg.IndexByteString", "internal/abi.NoEscape", "internal/reflectlite.ValueOf", "(internal/reflectlite.Value).Type", "(internal/reflectlite.Value).IsNil", "internal/reflectlite.TypeOf", "(internal/reflectlite.Value).Elem", "(internal/reflectlite.Value).Set"], unfollowed := true, recurses := true, named := ["errors.errorType"], loops := true, apart := false, laid := [("errors.errorType", laid_errors_errorType)] }
def ScopeMoreSaid : Prop := scopeMoreRow.holds Tryz.pinned (OpenSpec.ofChange scopeMoreSpec)

/-- ITS FALSE NEIGHBOUR: 'it returns false'. Refute it at one input. -/
def scopeMoreWrong : ChangeSpec := { name := "scopeMore", fn := fun _ => fun
  | [d1, d2, d3] => { results := [.lit (.bool false)], args := [d1, d2, d3] }
  | _ => none }
def ScopeMoreWrongFalsely : Prop := scopeMoreRow.holds Tryz.pinned (OpenSpec.ofChange scopeMoreWrong)

/-- 'muntinlaw06.ScopeFinds': WHATEVER THE INPUT: true; the input reads as it did. -/
def scopeFindsSpec : ChangeSpec := { name := "scopeFinds", fn := fun _ => fun
  | [d1, d2] => { results := [.lit (.bool true)], args := [d1, d2] }
  | _ => none }
def scopeFindsRow : OpenClaim := { program := "ytjlcoldnhbkcgaagreatdoor", sum := "a9d1f74289df06c43aa10227d56b53b3d6a7bf3e9537a6e7103a94b28d375cfe", func := "muntin/muntinlaw06.ScopeFinds", spec := "scopeFinds", inPlace := ["internal/bytealg.IndexByteString", "internal/abi.NoEscape", "internal/reflectlite.ValueOf", "(internal/reflectlite.Value).Type", "(internal/reflectlite.Value).IsNil", "internal/reflectlite.TypeOf", "(internal/reflectlite.Value).Elem", "(internal/reflectlite.Value).Set"], unfollowed := true, recurses := true, named := ["errors.errorType"], loops := true, apart := false, laid := [("errors.errorType", laid_errors_errorType)] }
def ScopeFindsSaid : Prop := scopeFindsRow.holds Tryz.pinned (OpenSpec.ofChange scopeFindsSpec)

/-- ITS FALSE NEIGHBOUR: 'it returns false'. Refute it at one input. -/
def scopeFindsWrong : ChangeSpec := { name := "scopeFinds", fn := fun _ => fun
  | [d1, d2] => { results := [.lit (.bool false)], args := [d1, d2] }
  | _ => none }
def ScopeFindsWrongFalsely : Prop := scopeFindsRow.holds Tryz.pinned (OpenSpec.ofChange scopeFindsWrong)

/-- 'muntinlaw06.ScopeAgain': WHATEVER THE INPUT: true; the input reads as it did. -/
def scopeAgainSpec : ChangeSpec := { name := "scopeAgain", fn := fun _ => fun
  | [d] => { results := [.lit (.bool true)], args := [d] }
  | _ => none }
def scopeAgainRow : OpenClaim := { program := "ytjlcoldnhbkcgaagreatdoor", sum := "a9d1f74289df06c43aa10227d56b53b3d6a7bf3e9537a6e7103a94b28d375cfe", func := "muntin/muntinlaw06.ScopeAgain", spec := "scopeAgain", inPlace := ["internal/bytealg.IndexByteString", "internal/abi.NoEscape", "internal/reflectlite.ValueOf", "(internal/reflectlite.Value).Type", "(internal/reflectlite.Value).IsNil", "internal/reflectlite.TypeOf", "(internal/reflectlite.Value).Elem", "(internal/reflectlite.Value).Set"], unfollowed := true, recurses := true, named := ["errors.errorType"], loops := true, apart := false, laid := [("errors.errorType", laid_errors_errorType)] }
def ScopeAgainSaid : Prop := scopeAgainRow.holds Tryz.pinned (OpenSpec.ofChange scopeAgainSpec)

/-- ITS FALSE NEIGHBOUR: 'it returns false'. Refute it at one input. -/
def scopeAgainWrong : ChangeSpec := { name := "scopeAgain", fn := fun _ => fun
  | [d] => { results := [.lit (.bool false)], args := [d] }
  | _ => none }
def ScopeAgainWrongFalsely : Prop := scopeAgainRow.holds Tryz.pinned (OpenSpec.ofChange scopeAgainWrong)

/-- 'muntinlaw07.NullablePruned': WHATEVER THE INPUT: true; the input reads as it did. -/
def nullablePrunedSpec : ChangeSpec := { name := "nullablePruned", fn := fun _ => fun
  | [d] => { results := [.lit (.bool true)], args := [d] }
  | _ => none }
def nullablePrunedRow : OpenClaim := { program := "ytjlcoldnhbkcgaagreatdoor", sum := "a9d1f74289df06c43aa10227d56b53b3d6a7bf3e9537a6e7103a94b28d375cfe", func := "muntin/muntinlaw07.NullablePruned", spec := "nullablePruned", inPlace := ["internal/bytealg.IndexByteString", "internal/abi.NoEscape", "internal/reflectlite.ValueOf", "(internal/reflectlite.Value).Type", "(internal/reflectlite.Value).IsNil", "internal/reflectlite.TypeOf", "(internal/reflectlite.Value).Elem", "(internal/reflectlite.Value).Set"], unfollowed := true, recurses := true, named := ["errors.errorType"], loops := true, apart := false, laid := [("errors.errorType", laid_errors_errorType)] }
def NullablePrunedSaid : Prop := nullablePrunedRow.holds Tryz.pinned (OpenSpec.ofChange nullablePrunedSpec)

/-- ITS FALSE NEIGHBOUR: 'it returns false'. Refute it at one input. -/
def nullablePrunedWrong : ChangeSpec := { name := "nullablePruned", fn := fun _ => fun
  | [d] => { results := [.lit (.bool false)], args := [d] }
  | _ => none }
def NullablePrunedWrongFalsely : Prop := nullablePrunedRow.holds Tryz.pinned (OpenSpec.ofChange nullablePrunedWrong)

/- THE SECOND FORM. 'bulk': how many values and letters a reading holds, each counted each time it is reached (what is shared counts as often as it is met; a slice's spare places count too). A statement '..UptoSaid' is the law's where the arguments, and the package variables that the reading takes, are together of bulk at most 1048576: NARROWER than '..Said'. Prove '..Said' where nothing that the law and all that it calls make is longer than what came in: it says more and counts as full. Else prove '..UptoSaid'. A law counts once. -/
mutual
def uptoBulk {H : Type} : DataW H → Nat
  | .lit (.string bytes) => bytes.length + 1
  | .lit _ => 1
  | .nil => 1
  | .ptr d => uptoBulk d + 1
  | .slice elems spare => uptoBulkAll elems + uptoBulkAll spare + 1
  | .agg parts => uptoBulkAll parts + 1
  | .iface _ d => uptoBulk d + 1
  | .map entries => uptoBulkEntries entries + 1
  | .held _ => 1
def uptoBulkAll {H : Type} : List (DataW H) → Nat
  | [] => 0
  | d :: r => uptoBulk d + uptoBulkAll r
def uptoBulkEntries {H : Type} : List (Lit × DataW H) → Nat
  | [] => 0
  | x :: r => uptoBulkEntry x + uptoBulkEntries r
def uptoBulkEntry {H : Type} : Lit × DataW H → Nat
  | (.string bytes, d) => bytes.length + uptoBulk d + 1
  | (_, d) => uptoBulk d + 1
 end
def uptoSmall : (H : Type) → List (DataW H) → Bool := fun _ ds => decide (uptoBulkAll ds ≤ 1048576)
def OpenSpec.upto (s : _root_.Go.ChangeSpec) : _root_.Go.OpenSpec := { _root_.Go.OpenSpec.ofChange s with cond := some uptoSmall }

/-- 'muntinlaw07.NullableRefs', WHERE WHAT IT READS IS OF BULK AT MOST 1048576: true; the input reads as it did. -/
def nullableRefsUptoRow : OpenClaim := { program := "ytjlcoldnhbkcgaagreatdoor", sum := "a9d1f74289df06c43aa10227d56b53b3d6a7bf3e9537a6e7103a94b28d375cfe", func := "muntin/muntinlaw07.NullableRefs", spec := "nullableRefs", inPlace := ["internal/bytealg.IndexByteString", "internal/abi.NoEscape", "internal/reflectlite.ValueOf", "(internal/reflectlite.Value).Type", "(internal/reflectlite.Value).IsNil", "internal/reflectlite.TypeOf", "(internal/reflectlite.Value).Elem", "(internal/reflectlite.Value).Set"], unfollowed := true, recurses := true, named := ["errors.errorType"], loops := true, apart := false, laid := [("errors.errorType", laid_errors_errorType)], narrowed := true }
def NullableRefsUptoSaid : Prop := nullableRefsUptoRow.holds Tryz.pinned (OpenSpec.upto nullableRefsSpec)

/-- 'muntinlaw07.NullableRows', WHERE WHAT IT READS IS OF BULK AT MOST 1048576: true; the input reads as it did. -/
def nullableRowsUptoRow : OpenClaim := { program := "ytjlcoldnhbkcgaagreatdoor", sum := "a9d1f74289df06c43aa10227d56b53b3d6a7bf3e9537a6e7103a94b28d375cfe", func := "muntin/muntinlaw07.NullableRows", spec := "nullableRows", inPlace := ["internal/bytealg.IndexByteString", "internal/abi.NoEscape", "internal/reflectlite.ValueOf", "(internal/reflectlite.Value).Type", "(internal/reflectlite.Value).IsNil", "internal/reflectlite.TypeOf", "(internal/reflectlite.Value).Elem", "(internal/reflectlite.Value).Set"], unfollowed := true, recurses := true, named := ["errors.errorType"], loops := true, apart := false, laid := [("errors.errorType", laid_errors_errorType)], narrowed := true }
def NullableRowsUptoSaid : Prop := nullableRowsUptoRow.holds Tryz.pinned (OpenSpec.upto nullableRowsSpec)

/-- 'muntinlaw07.NullableLooks', WHERE WHAT IT READS IS OF BULK AT MOST 1048576: true; the input reads as it did. -/
def nullableLooksUptoRow : OpenClaim := { program := "ytjlcoldnhbkcgaagreatdoor", sum := "a9d1f74289df06c43aa10227d56b53b3d6a7bf3e9537a6e7103a94b28d375cfe", func := "muntin/muntinlaw07.NullableLooks", spec := "nullableLooks", inPlace := ["internal/bytealg.IndexByteString", "internal/abi.NoEscape", "internal/reflectlite.ValueOf", "(internal/reflectlite.Value).Type", "(internal/reflectlite.Value).IsNil", "internal/reflectlite.TypeOf", "(internal/reflectlite.Value).Elem", "(internal/reflectlite.Value).Set"], unfollowed := true, recurses := true, named := ["errors.errorType"], loops := true, apart := false, laid := [("errors.errorType", laid_errors_errorType)], narrowed := true }
def NullableLooksUptoSaid : Prop := nullableLooksUptoRow.holds Tryz.pinned (OpenSpec.upto nullableLooksSpec)

/-- 'muntinlaw06.ScopeClosed', WHERE WHAT IT READS IS OF BULK AT MOST 1048576: true; the input reads as it did. -/
def scopeClosedUptoRow : OpenClaim := { program := "ytjlcoldnhbkcgaagreatdoor", sum := "a9d1f74289df06c43aa10227d56b53b3d6a7bf3e9537a6e7103a94b28d375cfe", func := "muntin/muntinlaw06.ScopeClosed", spec := "scopeClosed", inPlace := ["internal/bytealg.IndexByteString", "internal/abi.NoEscape", "internal/reflectlite.ValueOf", "(internal/reflectlite.Value).Type", "(internal/reflectlite.Value).IsNil", "internal/reflectlite.TypeOf", "(internal/reflectlite.Value).Elem", "(internal/reflectlite.Value).Set"], unfollowed := true, recurses := true, named := ["errors.errorType"], loops := true, apart := false, laid := [("errors.errorType", laid_errors_errorType)], narrowed := true }
def ScopeClosedUptoSaid : Prop := scopeClosedUptoRow.holds Tryz.pinned (OpenSpec.upto scopeClosedSpec)

/-- 'muntinlaw06.ScopeMore', WHERE WHAT IT READS IS OF BULK AT MOST 1048576: true; the input reads as it did. -/
def scopeMoreUptoRow : OpenClaim := { program := "ytjlcoldnhbkcgaagreatdoor", sum := "a9d1f74289df06c43aa10227d56b53b3d6a7bf3e9537a6e7103a94b28d375cfe", func := "muntin/muntinlaw06.ScopeMore", spec := "scopeMore", inPlace := ["internal/bytealg.IndexByteString", "internal/abi.NoEscape", "internal/reflectlite.ValueOf", "(internal/reflectlite.Value).Type", "(internal/reflectlite.Value).IsNil", "internal/reflectlite.TypeOf", "(internal/reflectlite.Value).Elem", "(internal/reflectlite.Value).Set"], unfollowed := true, recurses := true, named := ["errors.errorType"], loops := true, apart := false, laid := [("errors.errorType", laid_errors_errorType)], narrowed := true }
def ScopeMoreUptoSaid : Prop := scopeMoreUptoRow.holds Tryz.pinned (OpenSpec.upto scopeMoreSpec)

/-- 'muntinlaw06.ScopeFinds', WHERE WHAT IT READS IS OF BULK AT MOST 1048576: true; the input reads as it did. -/
def scopeFindsUptoRow : OpenClaim := { program := "ytjlcoldnhbkcgaagreatdoor", sum := "a9d1f74289df06c43aa10227d56b53b3d6a7bf3e9537a6e7103a94b28d375cfe", func := "muntin/muntinlaw06.ScopeFinds", spec := "scopeFinds", inPlace := ["internal/bytealg.IndexByteString", "internal/abi.NoEscape", "internal/reflectlite.ValueOf", "(internal/reflectlite.Value).Type", "(internal/reflectlite.Value).IsNil", "internal/reflectlite.TypeOf", "(internal/reflectlite.Value).Elem", "(internal/reflectlite.Value).Set"], unfollowed := true, recurses := true, named := ["errors.errorType"], loops := true, apart := false, laid := [("errors.errorType", laid_errors_errorType)], narrowed := true }
def ScopeFindsUptoSaid : Prop := scopeFindsUptoRow.holds Tryz.pinned (OpenSpec.upto scopeFindsSpec)

/-- 'muntinlaw06.ScopeAgain', WHERE WHAT IT READS IS OF BULK AT MOST 1048576: true; the input reads as it did. -/
def scopeAgainUptoRow : OpenClaim := { program := "ytjlcoldnhbkcgaagreatdoor", sum := "a9d1f74289df06c43aa10227d56b53b3d6a7bf3e9537a6e7103a94b28d375cfe", func := "muntin/muntinlaw06.ScopeAgain", spec := "scopeAgain", inPlace := ["internal/bytealg.IndexByteString", "internal/abi.NoEscape", "internal/reflectlite.ValueOf", "(internal/reflectlite.Value).Type", "(internal/reflectlite.Value).IsNil", "internal/reflectlite.TypeOf", "(internal/reflectlite.Value).Elem", "(internal/reflectlite.Value).Set"], unfollowed := true, recurses := true, named := ["errors.errorType"], loops := true, apart := false, laid := [("errors.errorType", laid_errors_errorType)], narrowed := true }
def ScopeAgainUptoSaid : Prop := scopeAgainUptoRow.holds Tryz.pinned (OpenSpec.upto scopeAgainSpec)

/-- 'muntinlaw07.NullablePruned', WHERE WHAT IT READS IS OF BULK AT MOST 1048576: true; the input reads as it did. -/
def nullablePrunedUptoRow : OpenClaim := { program := "ytjlcoldnhbkcgaagreatdoor", sum := "a9d1f74289df06c43aa10227d56b53b3d6a7bf3e9537a6e7103a94b28d375cfe", func := "muntin/muntinlaw07.NullablePruned", spec := "nullablePruned", inPlace := ["internal/bytealg.IndexByteString", "internal/abi.NoEscape", "internal/reflectlite.ValueOf", "(internal/reflectlite.Value).Type", "(internal/reflectlite.Value).IsNil", "internal/reflectlite.TypeOf", "(internal/reflectlite.Value).Elem", "(internal/reflectlite.Value).Set"], unfollowed := true, recurses := true, named := ["errors.errorType"], loops := true, apart := false, laid := [("errors.errorType", laid_errors_errorType)], narrowed := true }
def NullablePrunedUptoSaid : Prop := nullablePrunedUptoRow.holds Tryz.pinned (OpenSpec.upto nullablePrunedSpec)

end Rows
end Go.Proofs.YtjlcoldnhbkcgaaGreatDoor
