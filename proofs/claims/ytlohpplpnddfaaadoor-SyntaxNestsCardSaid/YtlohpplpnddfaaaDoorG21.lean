/- The walk of SyntaxBrackets. | A class among the arguments of a row: it is some class. | What the door's rows have in common: the variable's cell out of 'laid', a world that meets it (after the guide's worked text ToyasProofs). -/
import Derived.Test.YtlohpplpnddfaaaDoorG20
import Derived.Test.YtlohpplpnddfaaaDoorG19
import Derived.Test.YtlohpplpnddfaaaDoorRows
import Derived.Test.YtlohpplpnddfaaaDoorG0
import Derived.ProofKit
import Derived.OpenShut
import Derived.Lib.SmallJoins
import Derived.Test.YtlohpplpnddfaaaDoorG8
import Derived.ChangeSame
import Derived.ChangeVars
import Derived.JoinedOf
import Derived.RowKit
import Derived.RowKitTokens
import Derived.LaidLaws
import Derived.LaidHandle
import Derived.Stop.Joined
namespace Go.Proofs.YtlohpplpnddfaaaDoor
open Go.RowKit Go.Sort

theorem bl_app (A B : ByteArray) : bl (A ++ B) = bl A ++ bl B := by simp [bl, ByteArray.data_append]
theorem GRep.on {w w' : World} {W : World} {gs : List Ru} {v : Value} (h : GRep w (Fresh W w) gs v) (hb : Below w.heap.size w w') : GRep w' (Fresh W w) gs v := h.mono (fun b hb' => hb.block b hb'.hi) (fun _ h => h)
/-- A grammar's length. -/
theorem GRep.len {w : World} {P : Nat → Prop} {gs : List Ru} {v : Value} (h : GRep w P gs v) : ∃ a cap, v = .slice a gs.length cap := by
  rcases h with ⟨rfl, rfl⟩ | ⟨b, cap, cur, cs, rfl, _⟩
  · exact ⟨none, 0, rfl⟩
  · exact ⟨_, _, rfl⟩
theorem ieq' (a k : Nat) : ((a : Int) == (k : Int)) = decide (a = k) := by
  by_cases h : a = k
  · subst h; simp
  · rw [decide_eq_false h, beq_eq_false_iff_ne]; omega
theorem ine' (a k : Nat) : ((a : Int) != (k : Int)) = !decide (a = k) := by rw [bne, ieq']
set_option maxRecDepth 100000 in
set_option maxHeartbeats 6400000 in
theorem brk_any (S : ByteArray) (w : World) (hg : Laid w) (hs : S.size ≤ 140737488351232) : Calls Tryd.prog 14 #[.string S] w (Ans (.bool true) w) := by
  have HL := Lib.hid hg
  have HL1 := Lib.hid (fun (W : World) (h : Below w.heap.size w W) => hg.below h hg.pos)
  have hm1 := cell_alloc_lt
  clear hg
  by_cases hbig : 8192 < S.size
  · have d1 : decide ((8192 : Int) < S.size) = true := by simp; omega
    go_enter Tryd.func14, Tryd.ntmps14
    repeat (first | go_values | go_skip | go_guarded | go_step | go_upon)
    refine (small4_any _ HL.out).mono ?_
    rintro e w1 ⟨rfl, hb1⟩
    obtain ⟨hc1, hf1⟩ := bcell hb1
    have hz1 := hb1.size
    try simp at hz1
    dsimp only
    repeat (first | go_values | go_skip | go_guarded | go_step | go_upon)
    go_ret
    exact ⟨rfl, (by repeat (first | exact Below.refl _ _ | assumption | refine bal ?_ _ | refine bdr ?_ | refine bdrn ?_ _ | (refine bset ?_ (by first | exact Nat.le_refl _ | (simp; done) | (simp; omega) | omega) _) | refine bstep ?_ (by assumption)))⟩
  · have d1 : decide ((8192 : Int) < S.size) = false := by simp; omega
    have h8 : S.size ≤ 8192 := by omega
    have hz1 : ((⟨#[114, 117, 108, 101, 32, 60, 45, 32]⟩ : ByteArray) ++ S ++ ⟨#[10]⟩).size ≤ 140737488355328 := by
      rw [← bl_length, bl_app, bl_app, List.length_append, List.length_append, bl_length S, show bl ⟨#[114, 117, 108, 101, 32, 60, 45, 32]⟩ = ruleL from rfl, show bl ⟨#[10]⟩ = [10] from rfl, show ruleL.length = 8 from rfl]
      simp
      omega
    have hz2 : ((⟨#[114, 117, 108, 101, 32, 60, 45, 32, 40]⟩ : ByteArray) ++ S ++ ⟨#[10, 41]⟩).size ≤ 140737488355328 := by
      rw [← bl_length, bl_app, bl_app, List.length_append, List.length_append, bl_length S, show bl ⟨#[114, 117, 108, 101, 32, 60, 45, 32, 40]⟩ = ruleL ++ [40] from rfl, show bl ⟨#[10, 41]⟩ = [10, 41] from rfl, show (ruleL ++ [(40 : UInt8)]).length = 9 from rfl]
      simp
      omega
    have HZ1 := Lib.hid hz1
    have HZ2 := Lib.hid hz2
    have E1 := Lib.hid (show bl ((⟨#[114, 117, 108, 101, 32, 60, 45, 32]⟩ : ByteArray) ++ S ++ ⟨#[10]⟩) = ruleL ++ (bl S ++ [10]) by rw [bl_app, bl_app, List.append_assoc]; rfl)
    have E2 := Lib.hid (show bl ((⟨#[114, 117, 108, 101, 32, 60, 45, 32, 40]⟩ : ByteArray) ++ S ++ ⟨#[10, 41]⟩) = ruleL ++ [40] ++ (bl S ++ [10] ++ [41]) by rw [bl_app, bl_app, show bl ⟨#[114, 117, 108, 101, 32, 60, 45, 32, 40]⟩ = ruleL ++ [40] from rfl, show bl ⟨#[10, 41]⟩ = [10] ++ [41] from rfl]; simp only [List.append_assoc])
    clear hz1 hz2 hbig
    go_enter Tryd.func14, Tryd.ntmps14
    repeat (first | go_values | go_skip | go_guarded | go_step | go_upon)
    refine (small4_any _ HL.out).mono ?_
    rintro e w1 ⟨rfl, hb1⟩
    obtain ⟨hc1, hf1⟩ := bcell hb1
    have hz1 := hb1.size
    try simp at hz1
    dsimp only
    repeat (first | go_values | go_skip | go_guarded | go_step | go_upon)
    refine (syn_any _ _ (HL1.out _ (by repeat (first | exact Below.refl _ _ | assumption | refine bal ?_ _ | refine bdr ?_ | refine bdrn ?_ _ | (refine bset ?_ (by first | exact Nat.le_refl _ | (simp; done) | (simp; omega) | omega) _) | refine bstep ?_ (by assumption)))) HZ1.out).mono ?_
    rintro e w2 ⟨hb2, r1, hr1, hp1⟩
    obtain ⟨hc2, hf2⟩ := bcell hb2
    have hz2 := hb2.size
    rw [E1.out] at hr1
    have HR1 := Lib.hid hr1
    clear hr1
    cases r1 with
    | inl er =>
      obtain ⟨c, x⟩ := er
      obtain ⟨p, rfl, _, _⟩ := hp1
      dsimp only
      repeat (first | go_values | go_skip | go_guarded | go_step | go_upon)
      refine (syn_any _ _ (HL1.out _ (by repeat (first | exact Below.refl _ _ | assumption | refine bal ?_ _ | refine bdr ?_ | refine bdrn ?_ _ | (refine bset ?_ (by first | exact Nat.le_refl _ | (simp; done) | (simp; omega) | omega) _) | refine bstep ?_ (by assumption)))) HZ2.out).mono ?_
      rintro e w3 ⟨hb3, r2, hr2, hp2⟩
      obtain ⟨hc3, hf3⟩ := bcell hb3
      have hz3 := hb3.size
      clear hr2
      cases r2 with
      | inl er =>
        obtain ⟨c2, x2⟩ := er
        obtain ⟨p2, rfl, _, _⟩ := hp2
        dsimp only
        repeat (first | go_values | go_skip | go_guarded | go_step | go_upon)
        go_ret
        exact ⟨rfl, (by repeat (first | exact Below.refl _ _ | assumption | refine bal ?_ _ | refine bdr ?_ | refine bdrn ?_ _ | (refine bset ?_ (by first | exact Nat.le_refl _ | (simp; done) | (simp; omega) | omega) _) | refine bstep ?_ (by assumption)))⟩
      | inr b =>
        obtain ⟨v2, rfl, hG2⟩ := hp2
        obtain ⟨vb, bcap, rfl⟩ := hG2.len
        clear hG2
        dsimp only
        repeat (first | go_values | go_skip | go_guarded | go_step | go_upon)
        go_ret
        exact ⟨rfl, (by repeat (first | exact Below.refl _ _ | assumption | refine bal ?_ _ | refine bdr ?_ | refine bdrn ?_ _ | (refine bset ?_ (by first | exact Nat.le_refl _ | (simp; done) | (simp; omega) | omega) _) | refine bstep ?_ (by assumption)))⟩
    | inr a =>
      obtain ⟨v, rfl, hG⟩ := hp1
      obtain ⟨va, vcap, rfl⟩ := hG.len
      have HG := Lib.hid hG
      clear hG
      dsimp only
      repeat (first | go_values | go_skip | go_guarded | go_step | go_upon)
      refine (syn_any _ _ (HL1.out _ (by repeat (first | exact Below.refl _ _ | assumption | refine bal ?_ _ | refine bdr ?_ | refine bdrn ?_ _ | (refine bset ?_ (by first | exact Nat.le_refl _ | (simp; done) | (simp; omega) | omega) _) | refine bstep ?_ (by assumption)))) HZ2.out).mono ?_
      rintro e w3 ⟨hb3, r2, hr2, hp2⟩
      obtain ⟨hc3, hf3⟩ := bcell hb3
      have hz3 := hb3.size
      simp only [World.size_alloc] at hz3
      rw [E2.out] at hr2
      have HR2 := Lib.hid hr2
      clear hr2
      cases r2 with
      | inl er =>
        obtain ⟨c2, x2⟩ := er
        obtain ⟨p2, rfl, _, _⟩ := hp2
        dsimp only
        repeat (first | go_values | go_skip | go_guarded | go_step | go_upon)
        go_ret
        exact ⟨rfl, (by repeat (first | exact Below.refl _ _ | assumption | refine bal ?_ _ | refine bdr ?_ | refine bdrn ?_ _ | (refine bset ?_ (by first | exact Nat.le_refl _ | (simp; done) | (simp; omega) | omega) _) | refine bstep ?_ (by assumption)))⟩
      | inr b =>
        obtain ⟨v2, rfl, hG2⟩ := hp2
        obtain ⟨vb, bcap, rfl⟩ := hG2.len
        have HG2 := Lib.hid hG2
        clear hG2
        have y4 : w3.cell? ⟨w2.heap.size, 0, none⟩ = some (.slice va a.length vcap) := (hc3 _ _ (by simp)).trans (by simp)
        have q4 : w2.heap.size < w3.heap.size := by omega
        by_cases h1 : a.length = 1
        · have k1 : ((a.length : Int) != 1) = false := (ine' a.length 1).trans (by rw [decide_eq_true h1]; rfl)
          have HS := Lib.hid (brk_same HR1.out HR2.out h1)
          have hbb : Below w2.heap.size w2 w3 := (bal (Below.refl _ w2) _).trans (hb3.mono (by simp))
          have HSC := Lib.hid (same_G false (w3.alloc (.cells #[.slice vb b.length bcap] 61)) HS.out ((HG.out.on hbb).mono (w' := w3.alloc (.cells #[.slice vb b.length bcap] 61)) (fun b' hb' => RowKit.Below.heap_alloc _ _ _ (by have := hb'.hi; omega)) (fun _ h => h)) (HG2.out.mono (w' := w3.alloc (.cells #[.slice vb b.length bcap] 61)) (fun b' hb' => RowKit.Below.heap_alloc _ _ _ hb'.hi) (fun _ h => h)) (fun b' hb' => by have := hb'.hi; simp; omega) (fun b' hb' => by have := hb'.hi; simp; omega))
          clear h1 hbb
          dsimp only
          repeat (first | go_values | go_skip | go_guarded | go_step | go_upon)
          refine HSC.out.mono ?_
          rintro e w4 ⟨rfl, hb4⟩
          dsimp only
          repeat (first | go_values | go_skip | go_guarded | go_step | go_upon)
          go_ret
          exact ⟨rfl, (by repeat (first | exact Below.refl _ _ | assumption | refine bal ?_ _ | refine bdr ?_ | refine bdrn ?_ _ | (refine bset ?_ (by first | exact Nat.le_refl _ | (simp; done) | (simp; omega) | omega) _) | refine bstep ?_ (by assumption)))⟩
        · have k1 : ((a.length : Int) != 1) = true := (ine' a.length 1).trans (by rw [decide_eq_false h1]; rfl)
          clear h1
          dsimp only
          repeat (first | go_values | go_skip | go_guarded | go_step | go_upon)
          go_ret
          exact ⟨rfl, (by repeat (first | exact Below.refl _ _ | assumption | refine bal ?_ _ | refine bdr ?_ | refine bdrn ?_ _ | (refine bset ?_ (by first | exact Nat.le_refl _ | (simp; done) | (simp; omega) | omega) _) | refine bstep ?_ (by assumption)))⟩
end Go.Proofs.YtlohpplpnddfaaaDoor
namespace Go.Proofs.YtlohpplpnddfaaaDoor
open Go.ChangeShapes Go.WideShapes Go.RowKit Go.Joins
theorem own : ownKnob Tryd.prog.godebug = none := by kernel_rfl
theorem laidOut : laidOutB Tryd.prog = true := by kernel_rfl
theorem cells_word : Tryd.prog.cellsOf 22 = 1 := by kernel_rfl
set_option maxRecDepth 100000 in
theorem open_cls {H : Type} {enc : TypeId × Value → H} {w : World} {r : Reach} {b0 base : Nat} {spare : Nat → Bool} {held : Bool} {v : Value} {d : DataW H} {p : List MemPlace} (hv : Value.okWide Tryd.prog w r b0 24 v) (h : DataW.Trod enc Tryd.prog w base spare held 24 v d p) :
    ∃ c : BitVec 256, v = .agg #[.int .u64 (wd c 0), .int .u64 (wd c 1), .int .u64 (wd c 2), .int .u64 (wd c 3)] := by
  obtain ⟨cs, rfl, hsz⟩ : ∃ cs, v = .agg cs ∧ cs.size = 4 := by
    simp only [Value.okWide, Tryd.underlying24] at hv
    obtain ⟨cs, h1, h2, _⟩ := hv
    exact ⟨cs, h1, h2.trans (by kernel_rfl)⟩
  obtain ⟨c0, c1, c2, c3, rfl⟩ := array4 hsz
  obtain ⟨fuel, hf⟩ := h
  obtain ⟨xs, m, _, _, _, hl, hg⟩ := DataW.trod_array Tryd.underlying24 hf
  rw [cells_word] at hg
  have one : ∀ (i : Nat) (ci : Value), i < 4 → (((Value.agg #[c0, c1, c2, c3]).cells.toList.drop (i * 1)).take 1) = [ci] → ∃ n : Int, ci = .int .u64 n ∧ 0 ≤ n ∧ n < 18446744073709551616 := by
    intro i ci hi hc
    have h1 := hg i hi
    rw [hc] at h1
    obtain ⟨x, hx⟩ : ∃ x, xs[i]? = some x := ⟨xs[i]'(by omega), List.getElem?_eq_getElem (by omega)⟩
    rw [hx] at h1
    obtain ⟨n, e1, _, hw⟩ := DataW.trod_int Tryd.underlying22 h1
    injection e1 with e1 _
    refine ⟨n, e1, ?_⟩
    have := bounds_u64 hw
    omega
  obtain ⟨n0, rfl, a0, b0⟩ := one 0 c0 (by decide) rfl
  obtain ⟨n1, rfl, a1, b1⟩ := one 1 c1 (by decide) rfl
  obtain ⟨n2, rfl, a2, b2⟩ := one 2 c2 (by decide) rfl
  obtain ⟨n3, rfl, a3, b3⟩ := one 3 c3 (by decide) rfl
  obtain ⟨x, e0, e1, e2, e3⟩ := cl_of ⟨a0, b0⟩ ⟨a1, b1⟩ ⟨a2, b2⟩ ⟨a3, b3⟩
  exact ⟨x, by rw [e0, e1, e2, e3]⟩
end Go.Proofs.YtlohpplpnddfaaaDoor
namespace Go.Proofs.YtlohpplpnddfaaaDoor
open Go.ChangeShapes Go.WideShapes Go.RowKit
def laidL : List (String × DataW Unit) := [("errors.errorType", Rows.laid_errors_errorType)]
theorem door_et : Tryd.prog.globalNamed "errors.errorType" = some 0 := by kernel_rfl
theorem door_rt : (Tryd.prog.cutTypes.find? (·.1 == "internal/reflectlite.rtype")).map (·.2) = some 143 := by kernel_rfl
theorem door_row : ((List.range 193).filter fun t => Tryd.prog.rowNamed t [101, 114, 114, 111, 114]) = [26] := by kernel_rfl
theorem door_size : Tryd.prog.types.size = 193 := by kernel_rfl
theorem handle_of_laid {W : World} (h : laidMetH Tryd.prog laidL W) : Laid W := by
  have h' : laidMet Tryd.prog [] W ∧ handlesMet Tryd.prog laidL W := h
  obtain ⟨name, u, ty, e1, e2, e3, e4, e5⟩ := h'.2 _ (List.mem_singleton.2 rfl)
  have en : name = [101, 114, 114, 111, 114] := (Option.some.inj e1).symm
  subst en
  obtain rfl := Option.some.inj (door_rt.symm.trans e2)
  have hm : ty ∈ (List.range 193).filter fun t => Tryd.prog.rowNamed t [101, 114, 114, 111, 114] := List.mem_filter.2 ⟨List.mem_range.2 (by rw [← door_size]; exact e3), e4⟩
  rw [door_row] at hm
  obtain rfl := List.mem_singleton.1 hm
  have hh : typeHandle Tryd.prog 26 = .pointer (some ⟨2, 26, none⟩) := by kernel_rfl
  rw [hh] at e5
  unfold Laid
  simpa using World.var?_cell door_et e5 0
noncomputable def laidWorld (os : Os) : World :=
  let w0 := World.holding Tryd.prog os ⟨#[], #[], []⟩
  { w0 with heap := w0.heap.modify 0 fun
      | .cells _ t frozen => .cells #[.iface 143 (.agg #[.pointer (some ⟨2, 26, none⟩)])] t frozen
      | o => o }
theorem laidWorld_met (os : Os) (args : Array Value) : laidMetH Tryd.prog laidL ((laidWorld os).forCall (fun _ _ => 0) ⟨#[], args, []⟩).memory :=
  laidMetH_of_parts (laidMet_nil _ _) (by kernel_rfl)
end Go.Proofs.YtlohpplpnddfaaaDoor
