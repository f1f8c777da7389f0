/- The walk of SyntaxApart. | A row of integers among the arguments. -/
import Derived.Test.YtlohpplpnddfaaaDoorG23
import Derived.Test.YtlohpplpnddfaaaDoorG30
import Derived.Test.YtlohpplpnddfaaaDoorG21
import Derived.ChangeSlices
import Derived.WideShapes
import Derived.ProofKit
import Derived.OpenShut
import Derived.ChangeOld
import Derived.Laws.World
namespace Go.Proofs.YtlohpplpnddfaaaDoor
open Go.RowKit Go.Sort

/-- What stands between two tokens. -/
def sepN : Nat → List UInt8
  | 0 => [10, 32]
  | 1 => [10, 9]
  | 2 => [10, 35, 120, 39, 10]
  | _ => [10, 10]
def idxZ (zs : List Int) (i : Nat) : Nat := match zs[i]? with
  | some z => (bits .and .i64 z 3).toNat
  | none => 0
def sepZ (zs : List Int) (i : Nat) : List UInt8 := sepN (idxZ zs i)
theorem sepN_ok (m : Nat) : Sep (sepN m) := by
  match m with
  | 0 => exact ⟨[32], rfl, by decide⟩
  | 1 => exact ⟨[9], rfl, by decide⟩
  | 2 => exact ⟨[35, 120, 39, 10], rfl, by decide⟩
  | _ + 3 => exact ⟨[10], rfl, by decide⟩
theorem sepN_len (m : Nat) : (sepN m).length ≤ 5 := by
  match m with
  | 0 => decide
  | 1 => decide
  | 2 => decide
  | _ + 3 => simp [sepN]
theorem and3 (x : Int) : ∃ k : Nat, k ≤ 3 ∧ bits .and .i64 x 3 = (k : Int) := by
  have h := Nat.and_le_right (n := (BitVec.ofInt 64 x).toNat) (m := 3)
  refine ⟨_, h, ?_⟩
  show IntKind.i64.wrap ((BitVec.ofInt 64 x &&& BitVec.ofInt 64 3).toNat : Int) = _
  rw [BitVec.toNat_and, show (BitVec.ofInt 64 3).toNat = 3 from rfl]
  rw [IntKind.wrap_i64]
  omega
set_option maxRecDepth 100000 in
set_option maxHeartbeats 12800000 in
theorem sapart_any (S : ByteArray) (v : Value) (zs : List Int) (w : World) (hg : Laid w) (hs : S.size ≤ 140737488351232)
    (hv : ∃ ao cap, v = .slice ao zs.length cap ∧ zs.length ≤ maxLen ∧ ∀ i z, zs[i]? = some z → ∃ a : Addr, ao = some a ∧ a.block < w.heap.size ∧ w.cell? (a.add i) = some (.int .i64 z)) : Calls Tryd.prog 18 #[.string S, v] w (Ans (.bool true) w) := by
  have hls := bl_length S
  have HL := Lib.hid hg
  have HL1 := Lib.hid (fun (W : World) (h : Below w.heap.size w W) => HL.out.below h HL.out.pos)
  have hm1 := cell_alloc_lt
  obtain ⟨ao, vcap, rfl, hzm, hz⟩ := hv
  have HZ := Lib.hid hz
  clear hg hz
  have hs2 : S.size ≤ 140737488355328 := by omega
  cases hA : lexed (bl S) with
  | inl ea =>
    obtain ⟨c, x⟩ := ea
    have HA := Lib.hid hA
    have hc0 := lexed_code hA
    have d1 : ((c : Int) != 0) = true := by simp; omega
    clear hA
    go_enter Tryd.func18, Tryd.ntmps18
    repeat (first | go_values | go_skip | go_guarded | go_step | go_upon)
    refine (small4_any _ HL.out).mono ?_
    rintro e w1 ⟨rfl, hb1⟩
    obtain ⟨hc1, hf1⟩ := bcell hb1
    have hz1 := hb1.size
    try simp at hz1
    dsimp only
    repeat (first | go_values | go_skip | go_guarded | go_step | go_upon)
    refine (rlexed_no S _ HA.out).mono ?_
    rintro e w2 ⟨rfl, hb2⟩
    obtain ⟨hc2, hf2⟩ := bcell hb2
    have hz2 := hb2.size
    try simp at hz2
    dsimp only
    repeat (first | go_values | go_skip | go_guarded | go_step | go_upon)
    go_ret
    exact ⟨rfl, (by repeat (first | exact Below.refl _ _ | assumption | refine bal ?_ _ | refine bdr ?_ | refine bdrn ?_ _ | (refine bset ?_ (by first | exact Nat.le_refl _ | (simp; done) | (simp; omega) | omega) _) | refine bstep ?_ (by assumption)))⟩
  | inr la =>
    obtain ⟨b0, nt, ts, hb0, hsk, hc, rfl⟩ := lexed_cuts hA
    have HA := Lib.hid hA
    have lA := lexed_len hA
    simp only [List.length_append, List.length_cons, List.length_nil] at lA
    have hgl := glue_len (sep := sepZ zs) (c := 5) (fun i => sepN_len _) hc 0
    have HC := Lib.hid hc
    have hle : ts.length ≤ 8192 := by omega
    have hgs : (glue (bl S) (sepZ zs) 0 ts).length ≤ 49152 := by omega
    generalize hG : glue (bl S) (sepZ zs) 0 ts = G at *
    clear hA hc hsk hgl
    go_enter Tryd.func18, Tryd.ntmps18
    repeat (first | go_values | go_skip | go_guarded | go_step | go_upon)
    refine (small4_any _ HL.out).mono ?_
    rintro e w1 ⟨rfl, hb1⟩
    obtain ⟨hc1, hf1⟩ := bcell hb1
    have hz1 := hb1.size
    try simp at hz1
    dsimp only
    repeat (first | go_values | go_skip | go_guarded | go_step | go_upon)
    refine (rlexed_ok S _ HA.out).mono ?_
    rintro e w2 ⟨v, rfl, hownA, hb2⟩
    rw [show (ts ++ [(⟨6, [], 0, (bl S).length⟩ : Tok)]).length = ts.length + 1 by simp] at hownA
    obtain ⟨ga, ca, hv, _⟩ := hownA.form (by omega)
    subst hv
    have k1 := @wrap_len
    have hb02 : Below w.heap.size w w2 := (by repeat (first | exact Below.refl _ _ | assumption | refine bal ?_ _ | refine bdr ?_ | refine bdrn ?_ _ | (refine bset ?_ (by first | exact Nat.le_refl _ | (simp; done) | (simp; omega) | omega) _) | refine bstep ?_ (by assumption)))
    dsimp only
    repeat (first | go_values | go_skip | go_guarded | go_step | go_upon)
    go_loopw [9, 10] (fun v t wr => ∃ (k : Nat) (T : ByteArray), t = .int .i64 (k : Int) ∧ v = .string T ∧ k ≤ ts.length ∧ T.size ≤ 49152 ∧ Hid (bl T ++ glue (bl S) (sepZ zs) k (ts.drop k) = G) ∧ Below w2.heap.size w2 wr) (fun _ t _ => ts.length - (intOf t).toNat)
    case atStart => exact ⟨0, ⟨#[]⟩, rfl, rfl, Nat.zero_le _, Nat.zero_le _, Lib.hid (by rw [← hG]; rfl), Below.refl _ _⟩
    case round =>
      obtain ⟨k, T, rfl, rfl, hk, hT, hg, hb⟩ := hrel
      have oA := owns_below hownA hb
      rcases Nat.lt_or_ge k ts.length with hlt | hge
      · obtain ⟨p, hp⟩ : ∃ p, ts[k]? = some p := ⟨ts[k], List.getElem?_eq_getElem hlt⟩
        obtain ⟨q, hq, hqp⟩ := next_tok (s := bl S) (l := ts) (k := k + 1) (by omega)
        have hpq := HC.out.at hp
        rw [← hqp] at hpq
        have hp2 : (ts ++ [⟨6, [], 0, (bl S).length⟩])[k]? = some p := by rw [List.getElem?_append_left hlt]; exact hp
        have c1 := (tok_at oA (by simp) hp2).2.2.2.2.2.2
        have c2 := (tok_at oA (by simp) hq).2.2.2.2.2.2
        have hst := glue_step (s := bl S) (sep := sepZ zs) hp
        rw [← hqp, ← bl_cut] at hst
        have HX := Lib.hid (fun (B : ByteArray) (hB : bl B = sepZ zs k) => (show bl (T ++ S.extract p.pos q.pos ++ B) ++ glue (bl S) (sepZ zs) (k + 1) (ts.drop (k + 1)) = G by
          rw [← hg.out, hst, bl_add, bl_add, hB]; simp))
        have HTl := Lib.hid (fun (B : ByteArray) (hB : bl B = sepZ zs k) => (show (T ++ S.extract p.pos q.pos ++ B).size ≤ 49152 by
          have := congrArg List.length (HX.out B hB)
          rw [List.length_append, bl_length] at this
          omega))
        have z1 : decide ((p.pos : Int) < 0) = false := by simp
        have z2 : decide (q.pos ≤ p.pos) = false := by simp; omega
        have z3 : decide (S.size < q.pos) = false := by simp; omega
        have z4 : p.pos ≤ q.pos := by omega
        have z5 : q.pos ≤ S.size := by omega
        have k5 : IntKind.i64.wrap ((k : Int) + 1) = (k : Int) + 1 := by rw [IntKind.wrap_i64]; omega
        have qg : ga < wr.heap.size := (oA.lt ga rfl).2
        clear hp hq hqp hp2 hst hownA oA hg
        by_cases hzk : k < zs.length
        · obtain ⟨z, hkz⟩ : ∃ z, zs[k]? = some z := ⟨zs[k], List.getElem?_eq_getElem hzk⟩
          obtain ⟨a, rfl, hab, hca⟩ := HZ.out k z hkz
          obtain ⟨m, hm3, hm⟩ := and3 z
          have hid : sepZ zs k = sepN m := by rw [sepZ, idxZ, hkz]; simp only; rw [hm]; rfl
          have hbr : Below w.heap.size w wr := bstep hb02 hb
          have hcr : wr.cell? (a.add k) = some (.int .i64 z) := (hbr.cell (p := a.add k) (by unfold Addr.add; split <;> exact hab)).trans hca
          have y1 : decide ((k : Int) < (zs.length : Int)) = true := by simp; omega
          clear hca hkz
          rw [hid] at HX HTl
          repeat (first | go_values | go_skip | go_guarded | go_step | go_upon)
          clear hcr hm hid y1 hab hbr
          rcases (show m = 0 ∨ m = 1 ∨ m = 2 ∨ m = 3 by omega) with rfl | rfl | rfl | rfl
          · go_region
            repeat (first | go_values | go_skip | go_guarded | go_step | go_upon)
            exact ⟨⟨k + 1, _, by go_num, rfl, by omega, HTl.out _ rfl, Lib.hid (HX.out _ rfl), (by repeat (first | exact Below.refl _ _ | assumption | refine bal ?_ _ | refine bdr ?_ | refine bdrn ?_ _ | (refine bset ?_ (by first | exact Nat.le_refl _ | (simp; done) | (simp; omega) | omega) _) | refine bstep ?_ (by assumption)))⟩, by simp [intOf]; omega⟩
          · go_region
            repeat (first | go_values | go_skip | go_guarded | go_step | go_upon)
            exact ⟨⟨k + 1, _, by go_num, rfl, by omega, HTl.out _ rfl, Lib.hid (HX.out _ rfl), (by repeat (first | exact Below.refl _ _ | assumption | refine bal ?_ _ | refine bdr ?_ | refine bdrn ?_ _ | (refine bset ?_ (by first | exact Nat.le_refl _ | (simp; done) | (simp; omega) | omega) _) | refine bstep ?_ (by assumption)))⟩, by simp [intOf]; omega⟩
          · go_region
            repeat (first | go_values | go_skip | go_guarded | go_step | go_upon)
            exact ⟨⟨k + 1, _, by go_num, rfl, by omega, HTl.out _ rfl, Lib.hid (HX.out _ rfl), (by repeat (first | exact Below.refl _ _ | assumption | refine bal ?_ _ | refine bdr ?_ | refine bdrn ?_ _ | (refine bset ?_ (by first | exact Nat.le_refl _ | (simp; done) | (simp; omega) | omega) _) | refine bstep ?_ (by assumption)))⟩, by simp [intOf]; omega⟩
          · go_region
            repeat (first | go_values | go_skip | go_guarded | go_step | go_upon)
            exact ⟨⟨k + 1, _, by go_num, rfl, by omega, HTl.out _ rfl, Lib.hid (HX.out _ rfl), (by repeat (first | exact Below.refl _ _ | assumption | refine bal ?_ _ | refine bdr ?_ | refine bdrn ?_ _ | (refine bset ?_ (by first | exact Nat.le_refl _ | (simp; done) | (simp; omega) | omega) _) | refine bstep ?_ (by assumption)))⟩, by simp [intOf]; omega⟩
        · have y1 : decide ((k : Int) < (zs.length : Int)) = false := by simp; omega
          have hid : sepZ zs k = sepN 0 := by rw [sepZ, idxZ, List.getElem?_eq_none (by omega)]
          rw [hid] at HX HTl
          repeat (first | go_values | go_skip | go_guarded | go_step | go_upon)
          clear hid y1
          go_region
          repeat (first | go_values | go_skip | go_guarded | go_step | go_upon)
          exact ⟨⟨k + 1, _, by go_num, rfl, by omega, HTl.out _ rfl, Lib.hid (HX.out _ rfl), (by repeat (first | exact Below.refl _ _ | assumption | refine bal ?_ _ | refine bdr ?_ | refine bdrn ?_ _ | (refine bset ?_ (by first | exact Nat.le_refl _ | (simp; done) | (simp; omega) | omega) _) | refine bstep ?_ (by assumption)))⟩, by simp [intOf]; omega⟩
      · obtain rfl : k = ts.length := by omega
        have hTG : bl T = G := by
          have := hg.out
          rw [List.drop_length, glue, List.append_nil] at this
          exact this
        have HTG := Lib.hid hTG
        have hTz : T.size ≤ 140737488355328 := by omega
        have hTgl : T.size = G.length := by rw [← bl_length, HTG.out]
        have hbw : Below w.heap.size w wr := bstep hb02 hb
        clear hTG hownA oA hg
        by_cases h8 : 8192 < T.size
        · have d9 : decide ((8192 : Int) < T.size) = true := by simp; omega
          repeat (first | go_values | go_skip | go_guarded | go_step | go_upon)
          go_ret
          exact ⟨rfl, (by repeat (first | exact Below.refl _ _ | assumption | refine bal ?_ _ | refine bdr ?_ | refine bdrn ?_ _ | (refine bset ?_ (by first | exact Nat.le_refl _ | (simp; done) | (simp; omega) | omega) _) | refine bstep ?_ (by assumption)))⟩
        · obtain ⟨r, hr, hrc⟩ := glue_lexed (fun i => sepN_ok (idxZ zs i)) HC.out (show (glue (bl S) (sepZ zs) 0 ts).length ≤ 8192 by rw [hG]; omega)
          have hr2 : lexed (bl T) = .inr (r ++ [⟨6, [], 0, G.length⟩]) := by rw [HTG.out, ← hG]; exact hr
          have HT := Lib.hid hr2
          have d9 : decide ((8192 : Int) < T.size) = false := by simp; omega
          have HRC := Lib.hid (show (ts ++ [(⟨6, [], 0, (bl S).length⟩ : Tok)]).map bareT = (r ++ [(⟨6, [], 0, G.length⟩ : Tok)]).map bareT by
            rw [List.map_append, List.map_append]; exact congrArg (· ++ [bareT ⟨6, [], 0, 0⟩]) hrc.symm)
          clear hr hrc hr2
          repeat (first | go_values | go_skip | go_guarded | go_step | go_upon)
          refine (syn_any S _ (HL1.out _ (by repeat (first | exact Below.refl _ _ | assumption | refine bal ?_ _ | refine bdr ?_ | refine bdrn ?_ _ | (refine bset ?_ (by first | exact Nat.le_refl _ | (simp; done) | (simp; omega) | omega) _) | refine bstep ?_ (by assumption)))) hs2).mono ?_
          rintro e w3 ⟨hb3, r1, hr1, hp1⟩
          obtain ⟨hc3, hf3⟩ := bcell hb3
          have hz3 := hb3.size
          have HR1 := Lib.hid hr1
          clear hr1
          cases r1 with
          | inl er =>
            obtain ⟨c, x⟩ := er
            obtain ⟨p, rfl, hp, hl⟩ := hp1
            have HF := Lib.hid hp
            clear hp
            dsimp only
            repeat (first | go_values | go_skip | go_guarded | go_step | go_upon)
            refine (syn_any T _ (HL1.out _ (by repeat (first | exact Below.refl _ _ | assumption | refine bal ?_ _ | refine bdr ?_ | refine bdrn ?_ _ | (refine bset ?_ (by first | exact Nat.le_refl _ | (simp; done) | (simp; omega) | omega) _) | refine bstep ?_ (by assumption)))) hTz).mono ?_
            rintro e w4 ⟨hb4, r2, hr2, hp2⟩
            obtain ⟨hc4, hf4⟩ := bcell hb4
            have hz4 := hb4.size
            simp only [World.size_alloc] at hz4
            rcases reads_nat HA.out HT.out HRC.out HR1.out hr2 with ⟨c', x', y', e1, rfl⟩ | ⟨g, g', e1, _⟩
            · cases e1
              obtain ⟨p2, rfl, hq, hl2⟩ := hp2
              have HF2 := Lib.hid hq
              clear hq hr2
              have y4 : w4.cell? ⟨w3.heap.size, 0, none⟩ = some (.slice none 0 0) := (hc4 _ _ (by simp)).trans (by simp)
              have q4 : w3.heap.size < w4.heap.size := by omega
              have hb34 : Below w3.heap.size w3 w4 := (bal (Below.refl _ w3) _).trans (hb4.mono (by simp))
              have HFF := Lib.hid (HF.out.below hb34)
              clear hb34
              dsimp only
              repeat (first | go_values | go_skip | go_guarded | go_step | go_upon)
              refine (same_nil false _).mono ?_
              rintro e w5 ⟨rfl, hb5⟩
              dsimp only
              have HW := Lib.hid (fun (W : World) (h : Below w4.heap.size w4 W) => HFF.out.below h)
              have HW2 := Lib.hid (fun (W : World) (h : Below w4.heap.size w4 W) => HF2.out.below h)
              repeat (first | go_values | go_skip | go_guarded | go_step | go_upon)
              refine (code_I (HL1.out _ (by repeat (first | exact Below.refl _ _ | assumption | refine bal ?_ _ | refine bdr ?_ | refine bdrn ?_ _ | (refine bset ?_ (by first | exact Nat.le_refl _ | (simp; done) | (simp; omega) | omega) _) | refine bstep ?_ (by assumption)))) (HW.out _ (by repeat (first | exact Below.refl _ _ | assumption | refine bal ?_ _ | refine bdr ?_ | refine bdrn ?_ _ | (refine bset ?_ (by first | exact Nat.le_refl _ | (simp; done) | (simp; omega) | omega) _) | refine bstep ?_ (by assumption)))) rfl).mono ?_
              rintro e w6 ⟨rfl, hb6⟩
              obtain ⟨hc6, hf6⟩ := bcell hb6
              have hz6 := hb6.size
              try simp at hz6
              dsimp only
              repeat (first | go_values | go_skip | go_guarded | go_step | go_upon)
              refine (code_I (HL1.out _ (by repeat (first | exact Below.refl _ _ | assumption | refine bal ?_ _ | refine bdr ?_ | refine bdrn ?_ _ | (refine bset ?_ (by first | exact Nat.le_refl _ | (simp; done) | (simp; omega) | omega) _) | refine bstep ?_ (by assumption)))) (HW2.out _ (by repeat (first | exact Below.refl _ _ | assumption | refine bal ?_ _ | refine bdr ?_ | refine bdrn ?_ _ | (refine bset ?_ (by first | exact Nat.le_refl _ | (simp; done) | (simp; omega) | omega) _) | refine bstep ?_ (by assumption)))) rfl).mono ?_
              rintro e w7 ⟨rfl, hb7⟩
              obtain ⟨hc7, hf7⟩ := bcell hb7
              have hz7 := hb7.size
              try simp at hz7
              dsimp only
              repeat (first | go_values | go_skip | go_guarded | go_step | go_upon)
              go_ret
              exact ⟨rfl, (by repeat (first | exact Below.refl _ _ | assumption | refine bal ?_ _ | refine bdr ?_ | refine bdrn ?_ _ | (refine bset ?_ (by first | exact Nat.le_refl _ | (simp; done) | (simp; omega) | omega) _) | refine bstep ?_ (by assumption)))⟩
            · cases e1
          | inr a =>
            obtain ⟨v, rfl, hG1⟩ := hp1
            obtain ⟨va, vcap, rfl⟩ := hG1.len
            have HG := Lib.hid hG1
            clear hG1
            dsimp only
            repeat (first | go_values | go_skip | go_guarded | go_step | go_upon)
            refine (syn_any T _ (HL1.out _ (by repeat (first | exact Below.refl _ _ | assumption | refine bal ?_ _ | refine bdr ?_ | refine bdrn ?_ _ | (refine bset ?_ (by first | exact Nat.le_refl _ | (simp; done) | (simp; omega) | omega) _) | refine bstep ?_ (by assumption)))) hTz).mono ?_
            rintro e w4 ⟨hb4, r2, hr2, hp2⟩
            obtain ⟨hc4, hf4⟩ := bcell hb4
            have hz4 := hb4.size
            simp only [World.size_alloc] at hz4
            rcases reads_nat HA.out HT.out HRC.out HR1.out hr2 with ⟨c', x', y', e1, _⟩ | ⟨g, g', e1, rfl, hs⟩
            · cases e1
            · cases e1
              obtain ⟨v2, rfl, hG2⟩ := hp2
              obtain ⟨vb, bcap, rfl⟩ := hG2.len
              have HG2 := Lib.hid hG2
              clear hG2 hr2
              have HS := Lib.hid hs
              clear hs
              have y4 : w4.cell? ⟨w3.heap.size, 0, none⟩ = some (.slice va a.length vcap) := (hc4 _ _ (by simp)).trans (by simp)
              have q4 : w3.heap.size < w4.heap.size := by omega
              have hbb : Below w3.heap.size w3 w4 := (bal (Below.refl _ w3) _).trans (hb4.mono (by simp))
              have HSC := Lib.hid (same_G false (w4.alloc (.cells #[.slice vb g'.length bcap] 61)) HS.out ((HG.out.on hbb).mono (w' := w4.alloc (.cells #[.slice vb g'.length bcap] 61)) (fun b' hb' => RowKit.Below.heap_alloc _ _ _ (by have := hb'.hi; omega)) (fun _ h => h)) (HG2.out.mono (w' := w4.alloc (.cells #[.slice vb g'.length bcap] 61)) (fun b' hb' => RowKit.Below.heap_alloc _ _ _ hb'.hi) (fun _ h => h)) (fun b' hb' => by have := hb'.hi; simp; omega) (fun b' hb' => by have := hb'.hi; simp; omega))
              clear hbb
              dsimp only
              repeat (first | go_values | go_skip | go_guarded | go_step | go_upon)
              refine HSC.out.mono ?_
              rintro e w5 ⟨rfl, hb5⟩
              dsimp only
              repeat (first | go_values | go_skip | go_guarded | go_step | go_upon)
              refine (code_nil _).mono ?_
              rintro e w6 ⟨rfl, hb6⟩
              obtain ⟨hc6, hf6⟩ := bcell hb6
              have hz6 := hb6.size
              try simp at hz6
              dsimp only
              repeat (first | go_values | go_skip | go_guarded | go_step | go_upon)
              refine (code_nil _).mono ?_
              rintro e w7 ⟨rfl, hb7⟩
              obtain ⟨hc7, hf7⟩ := bcell hb7
              have hz7 := hb7.size
              try simp at hz7
              dsimp only
              repeat (first | go_values | go_skip | go_guarded | go_step | go_upon)
              go_ret
              exact ⟨rfl, (by repeat (first | exact Below.refl _ _ | assumption | refine bal ?_ _ | refine bdr ?_ | refine bdrn ?_ _ | (refine bset ?_ (by first | exact Nat.le_refl _ | (simp; done) | (simp; omega) | omega) _) | refine bstep ?_ (by assumption)))⟩
end Go.Proofs.YtlohpplpnddfaaaDoor
namespace Go.Proofs.YtlohpplpnddfaaaDoor
open Go.ChangeShapes Go.WideShapes Go.ChangeAt

theorem open_row {H : Type} {enc : TypeId × Value → H} {w : World} {t e : TypeId} {v : Value} {d : DataW H} {p : List MemPlace} (ht : Tryd.prog.underlying t = some (.slice e)) (he : Tryd.prog.underlying e = some (.int .i64)) (hc : Tryd.prog.cellsOf e = 1)
    (hv : ∃ a len cap, v = .slice a len cap) (h : DataW.Trod enc Tryd.prog w 0 (fun _ => true) true t v d p) :
    ∃ zs : List Int, ∃ ao cap, v = .slice ao zs.length cap ∧ zs.length ≤ maxLen ∧ ∀ i z, zs[i]? = some z → ∃ a : Addr, ao = some a ∧ a.block < w.heap.size ∧ w.cell? (a.add i) = some (.int .i64 z) := by
  obtain ⟨a0, len, cap, rfl⟩ := hv
  obtain ⟨fuel, hf⟩ := h
  rcases open_ints ht he hc hf with ⟨hcs, _⟩ | ⟨a, len', cap', zs, hcs, _, hl, hm, hz, _, hcell, _⟩
  · simp [Value.cells] at hcs
    obtain ⟨rfl, rfl, rfl⟩ := hcs
    exact ⟨[], none, 0, rfl, Nat.zero_le _, fun i z h => by simp at h⟩
  · simp [Value.cells] at hcs
    obtain ⟨rfl, rfl, rfl⟩ := hcs
    simp only [if_true] at hz
    refine ⟨zs.take len, some a, cap, ?_, ?_, fun i z hi => ⟨a, rfl, ?_, ?_⟩⟩
    · rw [List.length_take, Nat.min_eq_left (by omega)]
    · rw [List.length_take]; omega
    all_goals
      have h1 : i < zs.length := by
        have := (List.getElem?_eq_some_iff.1 hi).1
        rw [List.length_take] at this
        omega
      have h2 : i < len := by
        have := (List.getElem?_eq_some_iff.1 hi).1
        rw [List.length_take] at this
        omega
      have h3 : w.cell? (a.add i) = some (.int .i64 z) := by
        rw [hcell i h1]
        rw [List.getElem?_take, if_pos h2] at hi
        simp [List.getD, hi]
    · have := World.block_lt_of_cell? _ _ h3
      rwa [block_add] at this
    · exact h3
end Go.Proofs.YtlohpplpnddfaaaDoor
