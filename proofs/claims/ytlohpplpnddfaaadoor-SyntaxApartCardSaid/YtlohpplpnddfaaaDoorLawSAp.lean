/- SyntaxApart answers true. No condition but the row's own; the one variable that the row lists is tied to the program's text. -/
import Derived.Test.YtlohpplpnddfaaaDoorG34
import Derived.Test.YtlohpplpnddfaaaDoorG21
import Derived.Test.YtlohpplpnddfaaaDoorTie
import Derived.Test.YtlohpplpnddfaaaDoorCards
import Derived.SevenTiedAt
import Derived.ProofKit
import Derived.OpenShut
import Derived.ShutString
import Derived.ChangeOld
import Derived.SizedLaws
namespace Go.Proofs.YtlohpplpnddfaaaDoor.syntaxApart
open Go.ChangeShapes Go.WideShapes Go.ChangeAt Go.RowKit
open Go.ChangeMaps (open_string shut_string)
set_option maxRecDepth 100000 in
theorem lifted (os : Os) (started : os.Started) (H : Type) (enc : TypeId × Value → H) :
    ReturnsInHanded {} Tryd.checked os 18 .any (fun w args => (Rows.syntaxApartSpec.pre enc Tryd.prog Tryd.f18 [] false w args ∧ laidMetH Tryd.prog laidL w) ∧ sizedMet enc Tryd.prog Tryd.f18 (OpenSpec.ofChange Rows.syntaxApartSpec) false w args) (Rows.syntaxApartSpec.post enc Tryd.prog Tryd.f18 false true false false) := by
  refine returnsInHanded_of_change_and (C := Tryd.checked) (X := fun w _ => laidMetH Tryd.prog laidL w) (fun _ _ _ hh h => h.of_heap hh) own started (by kernel_rfl) Tryd.func18
    (ChangeSpec.witness_at (enc := enc) (C := Tryd.checked) (os := os) (X := fun w _ => laidMetH Tryd.prog laidL w) false (laidWorld os) #[.string ByteArray.empty, .slice none 0 0] 8 rfl (by kernel_rfl) (by kernel_rfl) (by kernel_rfl) (by kernel_rfl) (by kernel_rfl) (laidWorld_met os _)) ?_
  intro W base args ds gs before hval0 hW _ hsz0 hL _
  have hsz : (DataW.weightsEach Tryd.prog (Tryd.f18.params.toList ++ Rows.syntaxApartSpec.plain.varTypes Tryd.prog) (ds ++ gs)).all (· ≤ reachBytes) = true := hsz0
  have hval : ∀ (j : Nat) t v, Tryd.f18.params[j]? = some t → args[j]? = some v → Value.okWide Tryd.prog W .any base t v := hval0
  have hW' := hW
  obtain ⟨p, q, hA0, hV, rfl, hfz, hnd⟩ := hW
  have hA : DataW.TrodAll enc Tryd.prog W 0 (fun _ => true) true Tryd.f18.params.toList args.toList ds p := hA0
  rw [Tryd.params18] at hA hval hsz
  obtain ⟨v0, vs0, d0, ds0, p0, q0, hargs, rfl, rfl, h0, r0⟩ := trodAll_cons hA
  obtain ⟨v1, vs1, d1, ds1, p1, q1, rfl, rfl, rfl, h1, r1⟩ := trodAll_cons r0
  obtain ⟨rfl, rfl, rfl⟩ := trodAll_nil r1
  obtain rfl : args = #[v0, v1] := by cases args; simp_all
  obtain ⟨rfl, rfl⟩ := trodVars_none hV
  have hg := handle_of_laid hL
  obtain ⟨a0, rfl, rfl, rfl, y0⟩ := open_string Tryd.underlying9 (hval 0 9 v0 rfl rfl) h0
  have w0 : a0.size ≤ 140737488351232 := by
    have z := sized_string hsz (j := 0) (t := 9) rfl rfl
    rw [Array.length_toList] at z
    exact z
  have k1 := h1
  have lt1 : ∀ x ∈ p1, x.block < W.heap.size := by obtain ⟨m, hm⟩ := k1; exact DataW.trod_lt m _ _ _ hm
  obtain ⟨a1, w1⟩ := open_row Tryd.underlying73 Tryd.underlying3 (by kernel_rfl) (okWide_slice Tryd.underlying73 (hval 1 73 v1 rfl rfl)) h1
  clear hA0 hval0 hsz0 hsz
  refine ((fun S v zs W hg w0 w1 => sapart_any S v zs W hg w0 w1) a0 v1 a1 W hg w0 w1).mono fun e W' ⟨he, bel⟩ => ?_
  subst he
  exact ⟨_, rfl, _, _, _, [], _, [], hW', trodAll_mk1 (shut_bool Tryd.underlying4 _), (trodAll_cons_mk (shut_string Tryd.underlying9 y0) (trodAll_cons_mk (Below.trod laidOut (by kernel_rfl) (of_decide_eq_true (by kernel_rfl)) k1 bel lt1) trodAll_mk0)), rfl, bel.frame _, fun h => by cases h⟩
theorem over : Rows.syntaxApartRow.holds Tryd.pinned (OpenSpec.ofChange Rows.syntaxApartSpec) :=
  OpenClaim.holds_of_wide 18 Tryd.f18 rfl rfl rfl rfl rfl rfl rfl ⟨rfl, rfl, rfl, rfl, rfl⟩ rfl rfl rfl rfl rfl (by kernel_rfl) Tryd.func18 (by kernel_rfl)
    (of_decide_eq_true (by kernel_rfl)) (by unfold Func.isWrapper; rw [if_neg (of_decide_eq_false (by kernel_rfl))]; exact ⟨rfl, rfl⟩)
    (fun os started H enc _ => lifted os started H enc)
theorem card : Rows.SyntaxApartCardSaid :=
  Claim7.holds_tied_plain_at .later [] [.handle] true Rows.syntaxApartCard.stood.harness true
    over (fun _ h => by cases h) (by kernel_rfl) (fun _ h => by cases h) syntaxApart_row_tie rfl ⟨rfl, rfl⟩ (by kernel_rfl) rfl
    (fun f fn hf hfn => by
      obtain rfl : f = 18 := Option.some.inj ((show Tryd.prog.funcNamed "muntin/muntinlaw04.SyntaxApart" = some 18 by kernel_rfl).symm.trans hf) |>.symm
      obtain rfl : fn = Tryd.f18 := (Option.some.inj (Tryd.func18.symm.trans hfn)).symm
      exact ⟨by kernel_rfl, fun j t ht => by
        rw [Tryd.params18] at ht
        have h3 : t = 9 ∨ t = 73 := by
          rcases j with _ | j
          · exact .inl (by simpa using ht.symm)
          rcases j with _ | j
          · exact .inr ((by simpa using ht.symm))
          simp at ht
        rcases h3 with rfl | rfl
        · exact (show Tryd.prog.wantsStandIn 9 = false by kernel_rfl)
        · exact (show Tryd.prog.wantsStandIn 73 = false by kernel_rfl)⟩)
    (by kernel_rfl)
end Go.Proofs.YtlohpplpnddfaaaDoor.syntaxApart
namespace Go.Proofs.YtlohpplpnddfaaaDoor
/-- The card. -/
theorem syntaxApart_holds : Rows.SyntaxApartCardSaid := syntaxApart.card
#print axioms syntaxApart_holds
end Go.Proofs.YtlohpplpnddfaaaDoor
