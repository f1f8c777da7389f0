/-
  No cell of these rows narrows 'for every input' (looked for: loops, veiled, ifaces, maps, wideKeys, modest, calm, conditions, laid).
  DERIVED. THE GIVEN ROWS OF THIS SEAT. 6 by the template 'for every input the law returns true; each argument reads behind the call as it read before'; 0 by the template 'total and deterministic' (their statements: YtfnbdpigpeonmaaTotals.lean).
  GIVEN WITH THE SEED: the statements are not yours to turn. If you find one false, say at which input.
  Laid BY PROGRAM, IN A SANDBOX (cutbox-rows.mjs): the forced cells as the released guide's own fill.sh prints them over the translation efdd363d29bc56e4… (all of the seat's roots in one cut). By AI agents, Wed Nov 11 2026. No macro, syntax, notation, axiom, sorry.
-/
import Derived.Test.YtfnbdpigpeonmaaChecked
import GoSem.Claim
import GoSem.ClaimJoined
import GoSem.ClaimMapViews
import Derived.JoinedTies
import Derived.KernelRfl
namespace Go.Proofs.Ytfnbdpigpeonmaa
/- THE CELL 'sum', in the pinned program and in every row, IS THE sha256 OF THE DUMP (.gsa) THAT YtfnbdpigpeonmaaProg.lean LOADS. Nothing in Lean hashes anything: it is a label: what it is worth is what the hold of that sum in a sandbox is worth. -/
noncomputable def Try.pinned : Pinned := { name := "ytfnbdpigpeonmaa", sum := "efdd363d29bc56e4b1b29b2558dff684a45944263eac1801ee0f3a156f12184b", checked := Try.checked }
namespace Rows
def none {H : Type} : Left H := { results := [], args := [] }

/-- 'muntinlaw02.ClassWithin': WHATEVER THE INPUT: true; the input reads as it did. -/
def classWithinSpec : ChangeSpec := { name := "classWithin", fn := fun _ => fun
  | [d1, d2, d3] => { results := [.lit (.bool true)], args := [d1, d2, d3] }
  | _ => none }
def classWithinRow : OpenClaim := { program := "ytfnbdpigpeonmaa", sum := "efdd363d29bc56e4b1b29b2558dff684a45944263eac1801ee0f3a156f12184b", func := "muntin/muntinlaw02.ClassWithin", spec := "classWithin", apart := false }
def ClassWithinSaid : Prop := classWithinRow.holds Try.pinned (OpenSpec.ofChange classWithinSpec)

/-- ITS FALSE NEIGHBOUR: 'it returns false'. Refute it at one input. -/
def classWithinWrong : ChangeSpec := { name := "classWithin", fn := fun _ => fun
  | [d1, d2, d3] => { results := [.lit (.bool false)], args := [d1, d2, d3] }
  | _ => none }
def ClassWithinWrongFalsely : Prop := classWithinRow.holds Try.pinned (OpenSpec.ofChange classWithinWrong)

/-- 'muntinlaw02.ClassRules': WHATEVER THE INPUT: true; the input reads as it did. -/
def classRulesSpec : ChangeSpec := { name := "classRules", fn := fun _ => fun
  | [d1, d2, d3] => { results := [.lit (.bool true)], args := [d1, d2, d3] }
  | _ => none }
def classRulesRow : OpenClaim := { program := "ytfnbdpigpeonmaa", sum := "efdd363d29bc56e4b1b29b2558dff684a45944263eac1801ee0f3a156f12184b", func := "muntin/muntinlaw02.ClassRules", spec := "classRules", apart := false }
def ClassRulesSaid : Prop := classRulesRow.holds Try.pinned (OpenSpec.ofChange classRulesSpec)

/-- ITS FALSE NEIGHBOUR: 'it returns false'. Refute it at one input. -/
def classRulesWrong : ChangeSpec := { name := "classRules", fn := fun _ => fun
  | [d1, d2, d3] => { results := [.lit (.bool false)], args := [d1, d2, d3] }
  | _ => none }
def ClassRulesWrongFalsely : Prop := classRulesRow.holds Try.pinned (OpenSpec.ofChange classRulesWrong)

/-- 'muntinlaw02.ClassSpans': WHATEVER THE INPUT: true; the input reads as it did. -/
def classSpansSpec : ChangeSpec := { name := "classSpans", fn := fun _ => fun
  | [d] => { results := [.lit (.bool true)], args := [d] }
  | _ => none }
def classSpansRow : OpenClaim := { program := "ytfnbdpigpeonmaa", sum := "efdd363d29bc56e4b1b29b2558dff684a45944263eac1801ee0f3a156f12184b", func := "muntin/muntinlaw02.ClassSpans", spec := "classSpans", apart := false }
def ClassSpansSaid : Prop := classSpansRow.holds Try.pinned (OpenSpec.ofChange classSpansSpec)

/-- ITS FALSE NEIGHBOUR: 'it returns false'. Refute it at one input. -/
def classSpansWrong : ChangeSpec := { name := "classSpans", fn := fun _ => fun
  | [d] => { results := [.lit (.bool false)], args := [d] }
  | _ => none }
def ClassSpansWrongFalsely : Prop := classSpansRow.holds Try.pinned (OpenSpec.ofChange classSpansWrong)

/-- 'muntinlaw02.ClassRuns': WHATEVER THE INPUT: true; the input reads as it did. -/
def classRunsSpec : ChangeSpec := { name := "classRuns", fn := fun _ => fun
  | [d] => { results := [.lit (.bool true)], args := [d] }
  | _ => none }
def classRunsRow : OpenClaim := { program := "ytfnbdpigpeonmaa", sum := "efdd363d29bc56e4b1b29b2558dff684a45944263eac1801ee0f3a156f12184b", func := "muntin/muntinlaw02.ClassRuns", spec := "classRuns", inPlace := ["internal/abi.NoEscape", "internal/bytealg.IndexByteString"], apart := false }
def ClassRunsSaid : Prop := classRunsRow.holds Try.pinned (OpenSpec.ofChange classRunsSpec)

/-- ITS FALSE NEIGHBOUR: 'it returns false'. Refute it at one input. -/
def classRunsWrong : ChangeSpec := { name := "classRuns", fn := fun _ => fun
  | [d] => { results := [.lit (.bool false)], args := [d] }
  | _ => none }
def ClassRunsWrongFalsely : Prop := classRunsRow.holds Try.pinned (OpenSpec.ofChange classRunsWrong)

/-- 'muntinlaw02.ClassBack': WHATEVER THE INPUT: true; the input reads as it did. -/
def classBackSpec : ChangeSpec := { name := "classBack", fn := fun _ => fun
  | [d1, d2] => { results := [.lit (.bool true)], args := [d1, d2] }
  | _ => none }
def classBackRow : OpenClaim := { program := "ytfnbdpigpeonmaa", sum := "efdd363d29bc56e4b1b29b2558dff684a45944263eac1801ee0f3a156f12184b", func := "muntin/muntinlaw02.ClassBack", spec := "classBack", inPlace := ["internal/abi.NoEscape", "internal/bytealg.IndexByteString"], apart := false }
def ClassBackSaid : Prop := classBackRow.holds Try.pinned (OpenSpec.ofChange classBackSpec)

/-- ITS FALSE NEIGHBOUR: 'it returns false'. Refute it at one input. -/
def classBackWrong : ChangeSpec := { name := "classBack", fn := fun _ => fun
  | [d1, d2] => { results := [.lit (.bool false)], args := [d1, d2] }
  | _ => none }
def ClassBackWrongFalsely : Prop := classBackRow.holds Try.pinned (OpenSpec.ofChange classBackWrong)

/-- 'muntinlaw02.ClassNegs': WHATEVER THE INPUT: true; the input reads as it did. -/
def classNegsSpec : ChangeSpec := { name := "classNegs", fn := fun _ => fun
  | [d] => { results := [.lit (.bool true)], args := [d] }
  | _ => none }
def classNegsRow : OpenClaim := { program := "ytfnbdpigpeonmaa", sum := "efdd363d29bc56e4b1b29b2558dff684a45944263eac1801ee0f3a156f12184b", func := "muntin/muntinlaw02.ClassNegs", spec := "classNegs", inPlace := ["internal/abi.NoEscape", "internal/bytealg.IndexByteString"], apart := false }
def ClassNegsSaid : Prop := classNegsRow.holds Try.pinned (OpenSpec.ofChange classNegsSpec)

/-- ITS FALSE NEIGHBOUR: 'it returns false'. Refute it at one input. -/
def classNegsWrong : ChangeSpec := { name := "classNegs", fn := fun _ => fun
  | [d] => { results := [.lit (.bool false)], args := [d] }
  | _ => none }
def ClassNegsWrongFalsely : Prop := classNegsRow.holds Try.pinned (OpenSpec.ofChange classNegsWrong)

/- THE SECOND FORM. 'bulk': how many values and letters a reading holds, each counted each time it is reached (what is shared counts as often as it is met; a slice's spare places count too). A statement '..UptoSaid' is the law's where the arguments, and the package variables that the reading takes, are together of bulk at most 1048576: NARROWER than '..Said'. Prove '..Said' where nothing that the law and all that it calls make is longer than what came in: it says more and counts as full. Else prove '..UptoSaid'. A law counts once. -/
mutual
def uptoBulk {H : Type} : DataW H → Nat
  | .lit (.string bytes) => bytes.length + 1
  | .lit _ => 1
  | .nil => 1
  | .ptr d => uptoBulk d + 1
  | .slice elems spare => uptoBulkAll elems + uptoBulkAll spare + 1
  | .agg parts => uptoBulkAll parts + 1
  | .iface _ d => uptoBulk d + 1
  | .map entries => uptoBulkEntries entries + 1
  | .held _ => 1
def uptoBulkAll {H : Type} : List (DataW H) → Nat
  | [] => 0
  | d :: r => uptoBulk d + uptoBulkAll r
def uptoBulkEntries {H : Type} : List (Lit × DataW H) → Nat
  | [] => 0
  | x :: r => uptoBulkEntry x + uptoBulkEntries r
def uptoBulkEntry {H : Type} : Lit × DataW H → Nat
  | (.string bytes, d) => bytes.length + uptoBulk d + 1
  | (_, d) => uptoBulk d + 1
 end
def uptoSmall : (H : Type) → List (DataW H) → Bool := fun _ ds => decide (uptoBulkAll ds ≤ 1048576)
def OpenSpec.upto (s : _root_.Go.ChangeSpec) : _root_.Go.OpenSpec := { _root_.Go.OpenSpec.ofChange s with cond := some uptoSmall }

/-- 'muntinlaw02.ClassWithin', WHERE WHAT IT READS IS OF BULK AT MOST 1048576: true; the input reads as it did. -/
def classWithinUptoRow : OpenClaim := { program := "ytfnbdpigpeonmaa", sum := "efdd363d29bc56e4b1b29b2558dff684a45944263eac1801ee0f3a156f12184b", func := "muntin/muntinlaw02.ClassWithin", spec := "classWithin", apart := false, narrowed := true }
def ClassWithinUptoSaid : Prop := classWithinUptoRow.holds Try.pinned (OpenSpec.upto classWithinSpec)

/-- 'muntinlaw02.ClassRules', WHERE WHAT IT READS IS OF BULK AT MOST 1048576: true; the input reads as it did. -/
def classRulesUptoRow : OpenClaim := { program := "ytfnbdpigpeonmaa", sum := "efdd363d29bc56e4b1b29b2558dff684a45944263eac1801ee0f3a156f12184b", func := "muntin/muntinlaw02.ClassRules", spec := "classRules", apart := false, narrowed := true }
def ClassRulesUptoSaid : Prop := classRulesUptoRow.holds Try.pinned (OpenSpec.upto classRulesSpec)

/-- 'muntinlaw02.ClassSpans', WHERE WHAT IT READS IS OF BULK AT MOST 1048576: true; the input reads as it did. -/
def classSpansUptoRow : OpenClaim := { program := "ytfnbdpigpeonmaa", sum := "efdd363d29bc56e4b1b29b2558dff684a45944263eac1801ee0f3a156f12184b", func := "muntin/muntinlaw02.ClassSpans", spec := "classSpans", apart := false, narrowed := true }
def ClassSpansUptoSaid : Prop := classSpansUptoRow.holds Try.pinned (OpenSpec.upto classSpansSpec)

/-- 'muntinlaw02.ClassRuns', WHERE WHAT IT READS IS OF BULK AT MOST 1048576: true; the input reads as it did. -/
def classRunsUptoRow : OpenClaim := { program := "ytfnbdpigpeonmaa", sum := "efdd363d29bc56e4b1b29b2558dff684a45944263eac1801ee0f3a156f12184b", func := "muntin/muntinlaw02.ClassRuns", spec := "classRuns", inPlace := ["internal/abi.NoEscape", "internal/bytealg.IndexByteString"], apart := false, narrowed := true }
def ClassRunsUptoSaid : Prop := classRunsUptoRow.holds Try.pinned (OpenSpec.upto classRunsSpec)

/-- 'muntinlaw02.ClassBack', WHERE WHAT IT READS IS OF BULK AT MOST 1048576: true; the input reads as it did. -/
def classBackUptoRow : OpenClaim := { program := "ytfnbdpigpeonmaa", sum := "efdd363d29bc56e4b1b29b2558dff684a45944263eac1801ee0f3a156f12184b", func := "muntin/muntinlaw02.ClassBack", spec := "classBack", inPlace := ["internal/abi.NoEscape", "internal/bytealg.IndexByteString"], apart := false, narrowed := true }
def ClassBackUptoSaid : Prop := classBackUptoRow.holds Try.pinned (OpenSpec.upto classBackSpec)

/-- 'muntinlaw02.ClassNegs', WHERE WHAT IT READS IS OF BULK AT MOST 1048576: true; the input reads as it did. -/
def classNegsUptoRow : OpenClaim := { program := "ytfnbdpigpeonmaa", sum := "efdd363d29bc56e4b1b29b2558dff684a45944263eac1801ee0f3a156f12184b", func := "muntin/muntinlaw02.ClassNegs", spec := "classNegs", inPlace := ["internal/abi.NoEscape", "internal/bytealg.IndexByteString"], apart := false, narrowed := true }
def ClassNegsUptoSaid : Prop := classNegsUptoRow.holds Try.pinned (OpenSpec.upto classNegsSpec)

end Rows
end Go.Proofs.Ytfnbdpigpeonmaa
