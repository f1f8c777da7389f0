/-
  DERIVED. GIVEN WITH THE SEED: THE CARDS: each row of YtjlcoldnhbkcgaaGreatDoorRows.lean that lists a variable, with what it lists TIED to the program's text (the seventh form; the later family's looks); each row that meets fmt, with fmt's text TOLD by the authors' own Lean function (tested against real Go, not proved from fmt's source: count such statements apart). THE CARD IS WHAT COUNTS. Prove the row's statement (the work); the ties are given (YtjlcoldnhbkcgaaGreatDoorTie.lean); close each card by the builder's one call (the guide's Derived/Test/ToyasCard.lean, 'card_holds'). Laid BY PROGRAM, IN A SANDBOX (cutbox-door.mjs). By AI agents, Wed Nov 11 2026. No macro, syntax, notation, axiom, sorry.
-/
import Derived.Test.YtjlcoldnhbkcgaaGreatDoorRows
import GoSem.ClaimSeven
namespace Go.Proofs.YtjlcoldnhbkcgaaGreatDoor
namespace Rows

/-- THE TIED CARD OF 'muntinlaw07.NullableRefs'. -/
def nullableRefsCard : Claim7 := { stood := { row := nullableRefsRow, standIns := [], harness := (true, "bd9f9e7bbedf707c03b4beb9008a15100d5514a4b58e6496c7d69940586d0ad0"), looks := true }, kinds := [], alts := [], laidByText := true, laidKinds := [.handle], laidTests := true, laidLooks := .later }
def NullableRefsCardSaid : Prop := Claim7.holds Tryz.pinned (.plain (OpenSpec.ofChange nullableRefsSpec)) nullableRefsCard

/-- THE TIED CARD OF 'muntinlaw07.NullableRows'. -/
def nullableRowsCard : Claim7 := { stood := { row := nullableRowsRow, standIns := [], harness := (true, "bd9f9e7bbedf707c03b4beb9008a15100d5514a4b58e6496c7d69940586d0ad0"), looks := true }, kinds := [], alts := [], laidByText := true, laidKinds := [.handle], laidTests := true, laidLooks := .later }
def NullableRowsCardSaid : Prop := Claim7.holds Tryz.pinned (.plain (OpenSpec.ofChange nullableRowsSpec)) nullableRowsCard

/-- THE TIED CARD OF 'muntinlaw07.NullableLooks'. -/
def nullableLooksCard : Claim7 := { stood := { row := nullableLooksRow, standIns := [], harness := (true, "bd9f9e7bbedf707c03b4beb9008a15100d5514a4b58e6496c7d69940586d0ad0"), looks := true }, kinds := [], alts := [], laidByText := true, laidKinds := [.handle], laidTests := true, laidLooks := .later }
def NullableLooksCardSaid : Prop := Claim7.holds Tryz.pinned (.plain (OpenSpec.ofChange nullableLooksSpec)) nullableLooksCard

/-- THE TIED CARD OF 'muntinlaw06.ScopeClosed'. -/
def scopeClosedCard : Claim7 := { stood := { row := scopeClosedRow, standIns := [], harness := (true, "bd9f9e7bbedf707c03b4beb9008a15100d5514a4b58e6496c7d69940586d0ad0"), looks := true }, kinds := [], alts := [], laidByText := true, laidKinds := [.handle], laidTests := true, laidLooks := .later }
def ScopeClosedCardSaid : Prop := Claim7.holds Tryz.pinned (.plain (OpenSpec.ofChange scopeClosedSpec)) scopeClosedCard

/-- THE TIED CARD OF 'muntinlaw06.ScopeMore'. -/
def scopeMoreCard : Claim7 := { stood := { row := scopeMoreRow, standIns := [], harness := (true, "bd9f9e7bbedf707c03b4beb9008a15100d5514a4b58e6496c7d69940586d0ad0"), looks := true }, kinds := [], alts := [], laidByText := true, laidKinds := [.handle], laidTests := true, laidLooks := .later }
def ScopeMoreCardSaid : Prop := Claim7.holds Tryz.pinned (.plain (OpenSpec.ofChange scopeMoreSpec)) scopeMoreCard

/-- THE TIED CARD OF 'muntinlaw06.ScopeFinds'. -/
def scopeFindsCard : Claim7 := { stood := { row := scopeFindsRow, standIns := [], harness := (true, "bd9f9e7bbedf707c03b4beb9008a15100d5514a4b58e6496c7d69940586d0ad0"), looks := true }, kinds := [], alts := [], laidByText := true, laidKinds := [.handle], laidTests := true, laidLooks := .later }
def ScopeFindsCardSaid : Prop := Claim7.holds Tryz.pinned (.plain (OpenSpec.ofChange scopeFindsSpec)) scopeFindsCard

/-- THE TIED CARD OF 'muntinlaw06.ScopeAgain'. -/
def scopeAgainCard : Claim7 := { stood := { row := scopeAgainRow, standIns := [], harness := (true, "bd9f9e7bbedf707c03b4beb9008a15100d5514a4b58e6496c7d69940586d0ad0"), looks := true }, kinds := [], alts := [], laidByText := true, laidKinds := [.handle], laidTests := true, laidLooks := .later }
def ScopeAgainCardSaid : Prop := Claim7.holds Tryz.pinned (.plain (OpenSpec.ofChange scopeAgainSpec)) scopeAgainCard

/-- THE TIED CARD OF 'muntinlaw07.NullablePruned'. -/
def nullablePrunedCard : Claim7 := { stood := { row := nullablePrunedRow, standIns := [], harness := (true, "bd9f9e7bbedf707c03b4beb9008a15100d5514a4b58e6496c7d69940586d0ad0"), looks := true }, kinds := [], alts := [], laidByText := true, laidKinds := [.handle], laidTests := true, laidLooks := .later }
def NullablePrunedCardSaid : Prop := Claim7.holds Tryz.pinned (.plain (OpenSpec.ofChange nullablePrunedSpec)) nullablePrunedCard

/-- THE SECOND FORM's CARD OF 'muntinlaw07.NullableRefs'. -/
def nullableRefsUptoCard : Claim7 := { stood := { row := nullableRefsUptoRow, standIns := [], harness := (true, "bd9f9e7bbedf707c03b4beb9008a15100d5514a4b58e6496c7d69940586d0ad0"), looks := true }, kinds := [], alts := [], laidByText := true, laidKinds := [.handle], laidTests := true, laidLooks := .later }
def NullableRefsUptoCardSaid : Prop := Claim7.holds Tryz.pinned (.plain (OpenSpec.upto nullableRefsSpec)) nullableRefsUptoCard

/-- THE SECOND FORM's CARD OF 'muntinlaw07.NullableRows'. -/
def nullableRowsUptoCard : Claim7 := { stood := { row := nullableRowsUptoRow, standIns := [], harness := (true, "bd9f9e7bbedf707c03b4beb9008a15100d5514a4b58e6496c7d69940586d0ad0"), looks := true }, kinds := [], alts := [], laidByText := true, laidKinds := [.handle], laidTests := true, laidLooks := .later }
def NullableRowsUptoCardSaid : Prop := Claim7.holds Tryz.pinned (.plain (OpenSpec.upto nullableRowsSpec)) nullableRowsUptoCard

/-- THE SECOND FORM's CARD OF 'muntinlaw07.NullableLooks'. -/
def nullableLooksUptoCard : Claim7 := { stood := { row := nullableLooksUptoRow, standIns := [], harness := (true, "bd9f9e7bbedf707c03b4beb9008a15100d5514a4b58e6496c7d69940586d0ad0"), looks := true }, kinds := [], alts := [], laidByText := true, laidKinds := [.handle], laidTests := true, laidLooks := .later }
def NullableLooksUptoCardSaid : Prop := Claim7.holds Tryz.pinned (.plain (OpenSpec.upto nullableLooksSpec)) nullableLooksUptoCard

/-- THE SECOND FORM's CARD OF 'muntinlaw06.ScopeClosed'. -/
def scopeClosedUptoCard : Claim7 := { stood := { row := scopeClosedUptoRow, standIns := [], harness := (true, "bd9f9e7bbedf707c03b4beb9008a15100d5514a4b58e6496c7d69940586d0ad0"), looks := true }, kinds := [], alts := [], laidByText := true, laidKinds := [.handle], laidTests := true, laidLooks := .later }
def ScopeClosedUptoCardSaid : Prop := Claim7.holds Tryz.pinned (.plain (OpenSpec.upto scopeClosedSpec)) scopeClosedUptoCard

/-- THE SECOND FORM's CARD OF 'muntinlaw06.ScopeMore'. -/
def scopeMoreUptoCard : Claim7 := { stood := { row := scopeMoreUptoRow, standIns := [], harness := (true, "bd9f9e7bbedf707c03b4beb9008a15100d5514a4b58e6496c7d69940586d0ad0"), looks := true }, kinds := [], alts := [], laidByText := true, laidKinds := [.handle], laidTests := true, laidLooks := .later }
def ScopeMoreUptoCardSaid : Prop := Claim7.holds Tryz.pinned (.plain (OpenSpec.upto scopeMoreSpec)) scopeMoreUptoCard

/-- THE SECOND FORM's CARD OF 'muntinlaw06.ScopeFinds'. -/
def scopeFindsUptoCard : Claim7 := { stood := { row := scopeFindsUptoRow, standIns := [], harness := (true, "bd9f9e7bbedf707c03b4beb9008a15100d5514a4b58e6496c7d69940586d0ad0"), looks := true }, kinds := [], alts := [], laidByText := true, laidKinds := [.handle], laidTests := true, laidLooks := .later }
def ScopeFindsUptoCardSaid : Prop := Claim7.holds Tryz.pinned (.plain (OpenSpec.upto scopeFindsSpec)) scopeFindsUptoCard

/-- THE SECOND FORM's CARD OF 'muntinlaw06.ScopeAgain'. -/
def scopeAgainUptoCard : Claim7 := { stood := { row := scopeAgainUptoRow, standIns := [], harness := (true, "bd9f9e7bbedf707c03b4beb9008a15100d5514a4b58e6496c7d69940586d0ad0"), looks := true }, kinds := [], alts := [], laidByText := true, laidKinds := [.handle], laidTests := true, laidLooks := .later }
def ScopeAgainUptoCardSaid : Prop := Claim7.holds Tryz.pinned (.plain (OpenSpec.upto scopeAgainSpec)) scopeAgainUptoCard

/-- THE SECOND FORM's CARD OF 'muntinlaw07.NullablePruned'. -/
def nullablePrunedUptoCard : Claim7 := { stood := { row := nullablePrunedUptoRow, standIns := [], harness := (true, "bd9f9e7bbedf707c03b4beb9008a15100d5514a4b58e6496c7d69940586d0ad0"), looks := true }, kinds := [], alts := [], laidByText := true, laidKinds := [.handle], laidTests := true, laidLooks := .later }
def NullablePrunedUptoCardSaid : Prop := Claim7.holds Tryz.pinned (.plain (OpenSpec.upto nullablePrunedSpec)) nullablePrunedUptoCard
end Rows
end Go.Proofs.YtjlcoldnhbkcgaaGreatDoor
