/- NullableRows answers true, upto the bulk. No condition but the row's own; the one variable that the row lists is tied to the program's text. -/
import Derived.Test.YtjlcoldnhbkcgaaGreatDoorNrwW
import Derived.Test.YtjlcoldnhbkcgaaGreatDoorG38
import Derived.Test.YtjlcoldnhbkcgaaGreatDoorTie
import Derived.Test.YtjlcoldnhbkcgaaGreatDoorCards
import Derived.SevenTiedAt
import Derived.ProofKit
import Derived.OpenShut
import Derived.ShutString
import Derived.ChangeOld
import Derived.SizedLaws
import Derived.Carry
import Derived.Deep.DeepHandedRow
import Derived.Lib.LaidTab
namespace Go.Proofs.YtjlcoldnhbkcgaaGreatDoor.nullableRows
open Go.ChangeShapes Go.WideShapes Go.ChangeAt Go.RowKit
open Go.ChangeMaps (open_string shut_string)
set_option maxRecDepth 100000 in
theorem reads (os : Os) {H : Type} (enc : TypeId × Value → H) : ∃ places, DataW.whole enc Tryz.prog ((laidWorld os).forCall (fun _ _ => 0) ⟨#[], #[.agg #[.slice none 0 0], .agg #[.int .i64 0, .string ByteArray.empty, .int .u64 0, .int .u64 0, .int .u64 0, .int .u64 0, .slice none 0 0, .int .i64 0], .agg #[.int .i64 0, .string ByteArray.empty, .int .u64 0, .int .u64 0, .int .u64 0, .int .u64 0, .slice none 0 0, .int .i64 0]], []⟩).memory Tryz.f4.params.toList Rows.nullableRowsSpec.vars false #[(Value.agg #[.slice none 0 0]), (Value.agg #[.int .i64 0, .string ByteArray.empty, .int .u64 0, .int .u64 0, .int .u64 0, .int .u64 0, .slice none 0 0, .int .i64 0]), (Value.agg #[.int .i64 0, .string ByteArray.empty, .int .u64 0, .int .u64 0, .int .u64 0, .int .u64 0, .slice none 0 0, .int .i64 0])].toList 8 = some ([.agg [.nil], .agg [.lit (.int .i64 0), .lit (.string []), .agg [.lit (.int .u64 0), .lit (.int .u64 0), .lit (.int .u64 0), .lit (.int .u64 0)], .nil, .lit (.int .i64 0)], .agg [.lit (.int .i64 0), .lit (.string []), .agg [.lit (.int .u64 0), .lit (.int .u64 0), .lit (.int .u64 0), .lit (.int .u64 0)], .nil, .lit (.int .i64 0)]], [], places) :=
  ⟨[], by kernel_rfl⟩
set_option maxRecDepth 100000 in
theorem lifted (os : Os) (started : os.Started) (H : Type) (enc : TypeId × Value → H) (F : Stop.Interp) :
    ReturnsInHanded {} Tryz.checked os 4 .any ((Rows.OpenSpec.upto Rows.nullableRowsSpec).preRow enc Tryz.prog Tryz.f4 Rows.nullableRowsUptoRow.domain false Rows.nullableRowsUptoRow.laid) (((Rows.OpenSpec.upto Rows.nullableRowsSpec).at F).post enc Tryz.prog Tryz.f4 false true false false) := by
  obtain ⟨places, hx⟩ := reads os enc
  refine returnsInHanded_of_row (C := Tryz.checked) (s := Rows.OpenSpec.upto Rows.nullableRowsSpec) own started (by kernel_rfl) Tryz.func4
    (witness_row_at (enc := enc) (C := Tryz.checked) false (laidWorld os) #[.agg #[.slice none 0 0], .agg #[.int .i64 0, .string ByteArray.empty, .int .u64 0, .int .u64 0, .int .u64 0, .int .u64 0, .slice none 0 0, .int .i64 0], .agg #[.int .i64 0, .string ByteArray.empty, .int .u64 0, .int .u64 0, .int .u64 0, .int .u64 0, .slice none 0 0, .int .i64 0]] rfl (by kernel_rfl) (by kernel_rfl) (by kernel_rfl)
      (OpenSpec.preRow_of_cond 8 hx (by kernel_rfl) (fun k hk => by cases hk; kernel_rfl) (by kernel_rfl) (laidWorld_met os _))) ?_
  intro W base args ds gs before hval0 hW _ hcond hsz0 hL _ _
  have hbulk := of_decide_eq_true (hcond _ rfl)
  have hsz : (DataW.weightsEach Tryz.prog (Tryz.f4.params.toList ++ Rows.nullableRowsSpec.plain.varTypes Tryz.prog) (ds ++ gs)).all (· ≤ reachBytes) = true := hsz0
  have hval : ∀ (j : Nat) t v, Tryz.f4.params[j]? = some t → args[j]? = some v → Value.okWide Tryz.prog W .any base t v := hval0
  have hW' := hW
  obtain ⟨p, q, hA0, hV, rfl, hfz, hnd⟩ := hW
  have hA : DataW.TrodAll enc Tryz.prog W 0 (fun _ => true) true Tryz.f4.params.toList args.toList ds p := hA0
  rw [Tryz.params4] at hA hval hsz
  obtain ⟨v0, vs0, d0, ds0, p0, q0, hargs, rfl, rfl, h0, r0⟩ := trodAll_cons hA
  obtain ⟨v1, vs1, d1, ds1, p1, q1, rfl, rfl, rfl, h1, r1⟩ := trodAll_cons r0
  obtain ⟨v2, vs2, d2, ds2, p2, q2, rfl, rfl, rfl, h2, r2⟩ := trodAll_cons r1
  obtain ⟨rfl, rfl, rfl⟩ := trodAll_nil r2
  obtain rfl : args = #[v0, v1, v2] := by cases args; simp_all
  obtain ⟨rfl, rfl⟩ := trodVars_none hV
  have hg := handle_of_laid hL
  have y0 := h0
  obtain ⟨g0, s0, rfl, hr0, hb0⟩ := open_gram (hval 0 24 v0 rfl rfl) h0
  have y1 := h1
  obtain ⟨g1, s1, rfl, hr1, hb1⟩ := open_node (hval 1 40 v1 rfl rfl) h1
  have y2 := h2
  obtain ⟨g2, s2, rfl, hr2, hb2⟩ := open_node (hval 2 40 v2 rfl rfl) h2
  simp only [List.cons_append, List.nil_append, Rows.uptoBulkAll] at hbulk
  have u0 : Rr.bulks g0 ≤ 1048576 := by omega
  have u1 : g1.bulk ≤ 1048576 := by omega
  have u2 : g2.bulk ≤ 1048576 := by omega
  clear hA0 hval0 hsz0 hsz hbulk hcond
  refine (nrows_any W hg hr0 (fun _ h => h) u0 hr1 (fun _ h => h) u1 hr2 (fun _ h => h) u2).mono fun e W' ⟨he, bel⟩ => ?_
  subst he
  have hlt := hW'.lt
  exact ⟨_, rfl, _, _, _, [], _, [], hW', trodAll_mk1 (shut_bool Tryz.underlying4 _), (trodAll_cons_mk (Below.trod (by kernel_rfl) (by kernel_rfl) (of_decide_eq_true (by kernel_rfl)) y0 bel (fun x hx => hlt x (by simp [hx]))) (trodAll_cons_mk (Below.trod (by kernel_rfl) (by kernel_rfl) (of_decide_eq_true (by kernel_rfl)) y1 bel (fun x hx => hlt x (by simp [hx]))) (trodAll_cons_mk (Below.trod (by kernel_rfl) (by kernel_rfl) (of_decide_eq_true (by kernel_rfl)) y2 bel (fun x hx => hlt x (by simp [hx]))) trodAll_mk0))), rfl, bel.frame _, fun h => by cases h⟩
theorem over : Rows.nullableRowsUptoRow.holds Tryz.pinned (Rows.OpenSpec.upto Rows.nullableRowsSpec) :=
  OpenClaim.holds_of_cond 4 Tryz.f4 rfl rfl rfl rfl rfl rfl rfl ⟨rfl, rfl, rfl, rfl, rfl⟩ rfl rfl rfl rfl rfl (by kernel_rfl) Tryz.func4 (by kernel_rfl)
    (of_decide_eq_true (by kernel_rfl)) (by unfold Func.isWrapper; rw [if_neg (of_decide_eq_false (by kernel_rfl))]; exact ⟨rfl, rfl⟩)
    (fun os started H enc _ F => by rw [OpenClaim.pre_eq_preRow]; exact lifted os started H enc F)
theorem card : Rows.NullableRowsUptoCardSaid :=
  Claim7.holds_tied_plain_at .later [] [.handle] true Rows.nullableRowsUptoCard.stood.harness true
    over (fun _ h => by cases h) (by kernel_rfl) (fun _ h => by cases h) nullableRowsUpto_row_tie rfl ⟨rfl, rfl⟩ (by kernel_rfl) rfl
    (fun f fn hf hfn => by
      obtain rfl : f = 4 := Option.some.inj ((show Tryz.prog.funcNamed "muntin/muntinlaw07.NullableRows" = some 4 by kernel_rfl).symm.trans hf) |>.symm
      obtain rfl : fn = Tryz.f4 := (Option.some.inj (Tryz.func4.symm.trans hfn)).symm
      exact ⟨by kernel_rfl, fun j t ht => by
        rw [Tryz.params4] at ht
        rcases j with _ | j
        · obtain rfl : t = 24 := by simpa using ht.symm
          exact (show Tryz.prog.wantsStandIn 24 = false by kernel_rfl)
        rcases j with _ | j
        · obtain rfl : t = 40 := by simpa using ht.symm
          exact (show Tryz.prog.wantsStandIn 40 = false by kernel_rfl)
        rcases j with _ | j
        · obtain rfl : t = 40 := by simpa using ht.symm
          exact (show Tryz.prog.wantsStandIn 40 = false by kernel_rfl)
        simp at ht⟩)
    (by kernel_rfl)
end Go.Proofs.YtjlcoldnhbkcgaaGreatDoor.nullableRows
namespace Go.Proofs.YtjlcoldnhbkcgaaGreatDoor
/-- The card. -/
theorem nullableRowsUpto_holds : Rows.NullableRowsUptoCardSaid := nullableRows.card
#print axioms nullableRowsUpto_holds
end Go.Proofs.YtjlcoldnhbkcgaaGreatDoor
