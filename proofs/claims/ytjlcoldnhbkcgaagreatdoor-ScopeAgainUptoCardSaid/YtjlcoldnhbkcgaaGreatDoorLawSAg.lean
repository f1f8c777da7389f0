/- ScopeAgain answers true, upto the bulk. No condition but the row's own; the one variable that the row lists is tied to the program's text. -/
import Derived.Test.YtjlcoldnhbkcgaaGreatDoorSagW
import Derived.Test.YtjlcoldnhbkcgaaGreatDoorG38
import Derived.Test.YtjlcoldnhbkcgaaGreatDoorTie
import Derived.Test.YtjlcoldnhbkcgaaGreatDoorCards
import Derived.SevenTiedAt
import Derived.ProofKit
import Derived.OpenShut
import Derived.ShutString
import Derived.ChangeOld
import Derived.SizedLaws
import Derived.Carry
import Derived.Deep.DeepHandedRow
import Derived.Lib.LaidTab
namespace Go.Proofs.YtjlcoldnhbkcgaaGreatDoor.scopeAgain
open Go.ChangeShapes Go.WideShapes Go.ChangeAt Go.RowKit
open Go.ChangeMaps (open_string shut_string)
set_option maxRecDepth 100000 in
theorem reads (os : Os) {H : Type} (enc : TypeId × Value → H) : ∃ places, DataW.whole enc Tryz.prog ((laidWorld os).forCall (fun _ _ => 0) ⟨#[], #[.agg #[.slice none 0 0]], []⟩).memory Tryz.f9.params.toList Rows.scopeAgainSpec.vars false #[(Value.agg #[.slice none 0 0])].toList 8 = some ([.agg [.nil]], [], places) :=
  ⟨[], by kernel_rfl⟩
set_option maxRecDepth 100000 in
theorem lifted (os : Os) (started : os.Started) (H : Type) (enc : TypeId × Value → H) (F : Stop.Interp) :
    ReturnsInHanded {} Tryz.checked os 9 .any ((Rows.OpenSpec.upto Rows.scopeAgainSpec).preRow enc Tryz.prog Tryz.f9 Rows.scopeAgainUptoRow.domain false Rows.scopeAgainUptoRow.laid) (((Rows.OpenSpec.upto Rows.scopeAgainSpec).at F).post enc Tryz.prog Tryz.f9 false true false false) := by
  obtain ⟨places, hx⟩ := reads os enc
  refine returnsInHanded_of_row (C := Tryz.checked) (s := Rows.OpenSpec.upto Rows.scopeAgainSpec) own started (by kernel_rfl) Tryz.func9
    (witness_row_at (enc := enc) (C := Tryz.checked) false (laidWorld os) #[.agg #[.slice none 0 0]] rfl (by kernel_rfl) (by kernel_rfl) (by kernel_rfl)
      (OpenSpec.preRow_of_cond 8 hx (by kernel_rfl) (fun k hk => by cases hk; kernel_rfl) (by kernel_rfl) (laidWorld_met os _))) ?_
  intro W base args ds gs before hval0 hW _ hcond hsz0 hL _ _
  have hbulk := of_decide_eq_true (hcond _ rfl)
  have hsz : (DataW.weightsEach Tryz.prog (Tryz.f9.params.toList ++ Rows.scopeAgainSpec.plain.varTypes Tryz.prog) (ds ++ gs)).all (· ≤ reachBytes) = true := hsz0
  have hval : ∀ (j : Nat) t v, Tryz.f9.params[j]? = some t → args[j]? = some v → Value.okWide Tryz.prog W .any base t v := hval0
  have hW' := hW
  obtain ⟨p, q, hA0, hV, rfl, hfz, hnd⟩ := hW
  have hA : DataW.TrodAll enc Tryz.prog W 0 (fun _ => true) true Tryz.f9.params.toList args.toList ds p := hA0
  rw [Tryz.params9] at hA hval hsz
  obtain ⟨v0, vs0, d0, ds0, p0, q0, hargs, rfl, rfl, h0, r0⟩ := trodAll_cons hA
  obtain ⟨rfl, rfl, rfl⟩ := trodAll_nil r0
  obtain rfl : args = #[v0] := by cases args; simp_all
  obtain ⟨rfl, rfl⟩ := trodVars_none hV
  have hg := handle_of_laid hL
  have y0 := h0
  obtain ⟨g0, s0, rfl, hr0, hb0⟩ := open_gram (hval 0 24 v0 rfl rfl) h0
  simp only [List.cons_append, List.nil_append, Rows.uptoBulkAll] at hbulk
  have u0 : Rr.bulks g0 ≤ 1048576 := by omega
  clear hA0 hval0 hsz0 hsz hbulk hcond
  refine (sagain_any W hg hr0 (fun _ h => h) u0).mono fun e W' ⟨he, bel⟩ => ?_
  subst he
  have hlt := hW'.lt
  exact ⟨_, rfl, _, _, _, [], _, [], hW', trodAll_mk1 (shut_bool Tryz.underlying4 _), (trodAll_cons_mk (Below.trod (by kernel_rfl) (by kernel_rfl) (of_decide_eq_true (by kernel_rfl)) y0 bel (fun x hx => hlt x (by simp [hx]))) trodAll_mk0), rfl, bel.frame _, fun h => by cases h⟩
theorem over : Rows.scopeAgainUptoRow.holds Tryz.pinned (Rows.OpenSpec.upto Rows.scopeAgainSpec) :=
  OpenClaim.holds_of_cond 9 Tryz.f9 rfl rfl rfl rfl rfl rfl rfl ⟨rfl, rfl, rfl, rfl, rfl⟩ rfl rfl rfl rfl rfl (by kernel_rfl) Tryz.func9 (by kernel_rfl)
    (of_decide_eq_true (by kernel_rfl)) (by unfold Func.isWrapper; rw [if_neg (of_decide_eq_false (by kernel_rfl))]; exact ⟨rfl, rfl⟩)
    (fun os started H enc _ F => by rw [OpenClaim.pre_eq_preRow]; exact lifted os started H enc F)
theorem card : Rows.ScopeAgainUptoCardSaid :=
  Claim7.holds_tied_plain_at .later [] [.handle] true Rows.scopeAgainUptoCard.stood.harness true
    over (fun _ h => by cases h) (by kernel_rfl) (fun _ h => by cases h) scopeAgainUpto_row_tie rfl ⟨rfl, rfl⟩ (by kernel_rfl) rfl
    (fun f fn hf hfn => by
      obtain rfl : f = 9 := Option.some.inj ((show Tryz.prog.funcNamed "muntin/muntinlaw06.ScopeAgain" = some 9 by kernel_rfl).symm.trans hf) |>.symm
      obtain rfl : fn = Tryz.f9 := (Option.some.inj (Tryz.func9.symm.trans hfn)).symm
      exact ⟨by kernel_rfl, fun j t ht => by
        rw [Tryz.params9] at ht
        rcases j with _ | j
        · obtain rfl : t = 24 := by simpa using ht.symm
          exact (show Tryz.prog.wantsStandIn 24 = false by kernel_rfl)
        simp at ht⟩)
    (by kernel_rfl)
end Go.Proofs.YtjlcoldnhbkcgaaGreatDoor.scopeAgain
namespace Go.Proofs.YtjlcoldnhbkcgaaGreatDoor
/-- The card. -/
theorem scopeAgainUpto_holds : Rows.ScopeAgainUptoCardSaid := scopeAgain.card
#print axioms scopeAgainUpto_holds
end Go.Proofs.YtjlcoldnhbkcgaaGreatDoor
