/- The walk of Text. | The walk of lex.cutter's method literal. | The walk of class.Parse. | The walk of class.Parse behind '[^', and all of it. | errors.As at the two targets of package api, at what the program's errors are (after the guide's worked text ToyasAs). -/
import Derived.Test.YtlohpplpnddfaaaDoorG3
import Derived.Test.YtlohpplpnddfaaaDoorG1
import Derived.Test.YtlohpplpnddfaaaDoorG4
import Derived.Outline
import Derived.Deep.RegionHeld3
import Derived.Test.YtlohpplpnddfaaaDoorProg
import Derived.Test.YtlohpplpnddfaaaDoorG0
import Derived.LaidEql
import Derived.Stop.Asserts
import Derived.RowKitTokens
namespace Go.Proofs.YtlohpplpnddfaaaDoor
open Go.RowKit Go.Sort

theorem bld_below {B b : Nat} {bs : List Value} {w w' : World} (h : Bld B b bs w) (hb : Below w.heap.size w w') : Bld B b bs w' := by
  have key : ∀ p, Lib.BuilderAtF 97 5 B b p bs w → Lib.BuilderAtF 97 5 B b p bs w' := by
    rintro p ⟨hB, v, hbk, hown, hne⟩
    have hlt : b < w.heap.size := (Array.getElem?_eq_some_iff.1 hbk).1
    exact ⟨hB, v, (hb.block _ hlt).trans hbk, hown.kept (row := none) ⟨hb.os, hb.tape, hb.output, hb.size, fun k hk _ => hb.block k hk⟩ (by cases v.ownBlock <;> simp), hne⟩
  exact h.elim (fun h => .inl (key _ h)) (fun h => .inr (key _ h))
theorem bld_new (w : World) : Bld w.heap.size w.heap.size [] (w.alloc (.cells #[.pointer none, .slice none 0 0] 97)) :=
  .inl ⟨Nat.le_refl _, _, heap_alloc_new _ _, World.ownsRowF_nil _ _ _ _, by simp [Value.ownBlock]⟩
theorem own_oth {B b : Nat} {v : Value} {n : Nat} {xs : List Value} {w w' : World} (h : w.ownsRow B 101 2 v n xs) (ho : Oth b w w') (hne : b < B) : w'.ownsRow B 101 2 v n xs := by
  refine ⟨h.1, ?_⟩
  rcases h.2 with h | ⟨g, cap, cur, rfl, hg, hc, h4⟩
  · exact .inl h
  · exact .inr ⟨g, cap, cur, rfl, hg, ho g _ hc (by intro e; injection e with e; omega) (by intro c fz e; injection e with _ e; exact absurd e (by decide)), h4⟩
theorem strCells_txt (A : List UInt8) : Lib.strCells ⟨A.toArray⟩ = Lib.byteCells A := rfl
theorem bld_lt {B b : Nat} {bs : List Value} {w : World} (h : Bld B b bs w) : b < w.heap.size := by
  rcases h with ⟨_, v, hbk, _⟩ | ⟨_, v, hbk, _⟩ <;> exact (Array.getElem?_eq_some_iff.1 hbk).1
theorem wb_txt (b : Nat) (A : List UInt8) (c : UInt8) (x : Int) (w : World) (hx : x = c.toNat) (h : Bld b b (Lib.byteCells A) w) (hl : A.length ≤ 100000) :
    Calls Tryd.prog 57 #[.pointer (some ⟨b, 0, none⟩), .int .u8 x] w fun e w' => e = .returned .nilIface ∧ Bld b b (Lib.byteCells (A ++ [c])) w' ∧ Below b w w' ∧ Oth b w w' := by
  subst hx
  refine (writeByte_any b b _ _ w h (by rw [Lib.byteCells_length]; omega) (Nat.le_of_lt (bld_lt h))).mono ?_
  rintro e w' ⟨h1, h2, h3, h4⟩
  exact ⟨h1, by rw [Lib.byteCells_append]; exact h2, h3, h4⟩
theorem ws_txt (b : Nat) (A S : List UInt8) (w : World) (h : Bld b b (Lib.byteCells A) w) (hl : A.length + S.length ≤ 100000) :
    Calls Tryd.prog 59 #[.pointer (some ⟨b, 0, none⟩), .string ⟨S.toArray⟩] w fun e w' => e = .returned (.tuple #[.int .i64 (S.length : Nat), .nilIface]) ∧ Bld b b (Lib.byteCells (A ++ S)) w' ∧ Below b w w' ∧ Oth b w w' := by
  have hs : (⟨S.toArray⟩ : ByteArray).size = S.length := by simp [ByteArray.size]
  refine (writeString_any b b _ _ w h (by rw [Lib.byteCells_length, hs]; omega) (Nat.le_of_lt (bld_lt h))).mono ?_
  rintro e w' ⟨h1, h2, h3, h4⟩
  exact ⟨by rw [h1, hs], by rw [Lib.byteCells_append, ← strCells_txt S]; exact h2, h3, h4⟩
set_option maxRecDepth 100000 in
set_option maxHeartbeats 3200000 in
theorem text_any (c : BitVec 256) (w : World) : Calls Tryd.prog 35 #[.agg #[.int .u64 (wd c 0), .int .u64 (wd c 1), .int .u64 (wd c 2), .int .u64 (wd c 3)]] w (Ans (.string ⟨(txt c).toArray⟩) w) := by
  have hbd : ∀ p ∈ runs c, p.1 ≤ p.2 ∧ p.2 ≤ 255 := fun p hp => runs_bd hp
  have hlen : (runs c).length ≤ 257 := runs_len c 257 _
  have ht : Hid (txt c = txK (runs c) (runs c).length ++ [93]) := Lib.hid rfl
  generalize hl : runs c = l at *
  have hL := Lib.hid hl
  clear hl
  have HN := Lib.hid (bld_new (w.alloc (.cells #[.int .u64 (wd c 0), .int .u64 (wd c 1), .int .u64 (wd c 2), .int .u64 (wd c 3)] 24)))
  go_enter Tryd.func35, Tryd.ntmps35
  repeat (first | go_values | go_skip | go_guarded | go_step | go_upon)
  refine (wb_txt (w.heap.size + 1) [] 91 _ _ rfl (by simpa [Lib.byteCells] using HN.out) (by simp)).mono ?_
  rintro e w1 ⟨rfl, hB1, hb1, ho1⟩
  have cC : ∀ j, w1.cell? ⟨w.heap.size, j, none⟩ = (#[.int .u64 (wd c 0), .int .u64 (wd c 1), .int .u64 (wd c 2), .int .u64 (wd c 3)] : Array Value)[j]? := fun j => (hb1.cell (p := ⟨w.heap.size, j, none⟩) (by simp <;> omega)).trans (by go_simp)
  have q1 : w.heap.size + 1 < w1.heap.size := bld_lt hB1
  dsimp only
  repeat (first | go_values | go_skip | go_guarded | go_step | go_upon)
  refine (runs_any _ _).mono ?_
  rintro e w2 ⟨v, rfl, hown, hb2⟩
  rw [hL.out] at hown
  have hB2 := bld_below hB1 hb2
  have hT2 := hb1.trans (hb2.mono (by omega))
  have hz2 := hb2.size
  dsimp only
  generalize hn : l.length = n at *
  rcases owns_form2 hown with ⟨hn0, hv⟩ | ⟨g, cap, hv⟩
  · subst hv
    subst hn0
    repeat (first | go_values | go_skip | go_guarded | go_step | go_upon)
    refine wp_loop_rounds 1 ?_
    rw [rounds_succ]
    repeat (first | go_values | go_skip | go_guarded | go_step | go_upon)
    refine (wb_txt (w.heap.size + 1) [91] 93 _ _ rfl hB2 (by simp)).mono ?_
    rintro e w3 ⟨rfl, hB3, hb3, ho3⟩
    dsimp only
    repeat (first | go_values | go_skip | go_guarded | go_step | go_upon)
    refine (Tryd.Builder_String_any_k (w.heap.size + 1) (w.heap.size + 1) _ _ hB3 (Nat.le_of_lt (bld_lt hB3))).mono ?_
    rintro e w4 ⟨rfl, hB4, hb4, ho4⟩
    dsimp only
    repeat (first | go_values | go_skip | go_guarded | go_step | go_upon)
    go_ret
    refine ⟨?_, ?_⟩
    · rw [ht.out]; rfl
    · exact ((((Below.refl _ _).alloc (Nat.le_refl _) _).alloc (by simp) _).trans ((hT2.trans (hb3.trans hb4)).mono (by omega)))
  · subst hv
    repeat (first | go_values | go_skip | go_guarded | go_step | go_upon)
    go_loopw [10] (fun t wr => ∃ k : Nat, k ≤ n ∧ t = .int .i64 k ∧ Bld (w.heap.size + 1) (w.heap.size + 1) (Lib.byteCells (txK l k)) wr ∧ wr.ownsRow w1.heap.size 101 2 (.slice (some ⟨g, 0, none⟩) n cap) n (pairs l) ∧ Below (w.heap.size + 1) ((w.alloc (.cells #[.int .u64 (wd c 0), .int .u64 (wd c 1), .int .u64 (wd c 2), .int .u64 (wd c 3)] 24)).alloc (.cells #[.pointer none, .slice none 0 0] 97)) wr) (fun t _ => n - (intOf t).toNat)
    case atStart => exact ⟨0, Nat.zero_le _, rfl, hB2, hown, hT2⟩
    case round =>
      obtain ⟨k, hk, rfl, hB, hor, hbr⟩ := hrel
      by_cases hlt : k < n
      · obtain ⟨p, hp⟩ : ∃ p, l[k]? = some p := ⟨l[k], List.getElem?_eq_getElem (by omega)⟩
        have hpm := List.mem_of_getElem? hp
        have hp2 := hbd p hpm
        have hg := pairs_get l k p hp
        have c0 : wr.cell? ⟨g, k * 2, none⟩ = some (.int .i64 (p.1 : Int)) := by rw [hor.cellAt _ (by omega)]; exact hg.1
        have c1 : wr.cell? ⟨g, k * 2 + 1, none⟩ = some (.int .i64 (p.2 : Int)) := by rw [hor.cellAt _ (by omega)]; exact hg.2
        have gl : g < wr.heap.size := (hor.lt g rfl).2
        have hsu := Lib.hid (txK_succ hp)
        have hk9 := txK_len l k
        have s1 := sgn_len p.1
        have s2 := sgn_len p.2
        clear hbd hg hpm hp hown
        have hkk : p.2 = p.1 ∨ p.2 = p.1 + 1 ∨ p.1 + 1 < p.2 := by omega
        have q0 : w.heap.size + 1 < wr.heap.size := bld_lt hB
        have nb : some wr.heap.size ≠ some (w.heap.size + 1) := by intro e; injection e with e; omega
        have nt : ∀ (cs : Array Value), ∀ c fz, Obj.cells cs 101 (0, 0) ≠ .cells c 5 fz := by intro cs c fz e; injection e with _ e; exact absurd e (by decide)
        rcases hkk with hkk | hkk | hkk
        all_goals
          have HK := Lib.hid hkk
          clear hkk
          repeat (first | go_values | go_skip | go_guarded | go_step | go_upon)
          refine (sign_any p.1 _ (by omega)).mono ?_
          rintro e w4 ⟨rfl, hb4⟩
          obtain ⟨hc4, hf4⟩ := bcell hb4
          have hz4 := hb4.size
          try simp at hz4
          have q4_0 : g < w4.heap.size := by omega
          dsimp only
          repeat (first | go_values | go_skip | go_guarded | go_step | go_upon)
          have hS4 : Below wr.heap.size wr w4 := (by repeat (first | exact Below.refl _ _ | assumption | refine bal ?_ _ | refine bdr ?_ | refine bdrn ?_ _ | (refine bset ?_ (by first | exact Nat.le_refl _ | (simp; done) | (simp; omega) | omega) _) | refine bstep ?_ (by assumption)))
          have hB4 := bld_below hB hS4
          have hor4 := owns_below hor hS4
          have hbx4 : w4.heap[wr.heap.size]? = some (.cells #[.int .i64 (p.1 : Int), .int .i64 (p.2 : Int)] 101 (0, 0)) := (hb4.block _ (by simp)).trans (heap_alloc_new _ _)
          refine (ws_txt (w.heap.size + 1) (txK l k) (sgn p.1) _ hB4 (by omega)).mono ?_
          rintro e w5 ⟨rfl, hB5, hb5, ho5⟩
          dsimp only
          have hor5 := own_oth hor4 ho5 (by omega)
          have hbx5 := ho5 _ _ hbx4 nb (nt _)
          obtain ⟨cb5, fb5, zb5⟩ := cells_at hbx5
          have hT5 := (hbr.trans (hS4.mono (by omega))).trans hb5
        · have hkk := HK.out
          have e1 : ((p.2 : Int) - p.1 == 1) = false := by simp; omega
          have e0 : ((p.2 : Int) - p.1 == 0) = true := by simp; omega
          have hx := Lib.hid (show rowT p = sgn p.1 by rw [rowT, if_neg (by omega), if_neg (by omega)]; simp)
          clear hkk
          repeat (first | go_values | go_skip | go_guarded | go_step | go_upon)
          refine ⟨⟨k + 1, by omega, by go_num, ?_, hor5, hT5⟩, by simp [intOf]; omega⟩
          rw [hsu.out, hx.out]
          exact hB5
        · have hkk := HK.out
          have e1 : ((p.2 : Int) - p.1 == 1) = true := by simp; omega
          have hx := Lib.hid (show rowT p = sgn p.1 ++ sgn p.2 by rw [rowT, if_neg (by omega), if_pos (by omega)]; simp)
          clear hkk
          repeat (first | go_values | go_skip | go_guarded | go_step | go_upon)
          refine (sign_any p.2 _ (by omega)).mono ?_
          rintro e w6 ⟨rfl, hb6⟩
          obtain ⟨hc6, hf6⟩ := bcell hb6
          have hz6 := hb6.size
          try simp at hz6
          have q6_0 : wr.heap.size < w6.heap.size := by omega
          dsimp only
          repeat (first | go_values | go_skip | go_guarded | go_step | go_upon)
          have hB6 := bld_below hB5 hb6
          have hor6 := owns_below hor5 hb6
          refine (ws_txt (w.heap.size + 1) (txK l k ++ sgn p.1) (sgn p.2) _ hB6 (by simp; omega)).mono ?_
          rintro e w7 ⟨rfl, hB7, hb7, ho7⟩
          dsimp only
          have hor7 := own_oth hor6 ho7 (by omega)
          have hT7 := (hT5.trans (hb6.mono (by omega))).trans hb7
          repeat (first | go_values | go_skip | go_guarded | go_step | go_upon)
          refine ⟨⟨k + 1, by omega, by go_num, ?_, hor7, hT7⟩, by simp [intOf]; omega⟩
          rw [hsu.out, hx.out, ← List.append_assoc]
          exact hB7
        · have hkk := HK.out
          have e1 : ((p.2 : Int) - p.1 == 1) = false := by simp; omega
          have e0 : ((p.2 : Int) - p.1 == 0) = false := by simp; omega
          have hx := Lib.hid (show rowT p = sgn p.1 ++ ([45] ++ sgn p.2) by rw [rowT, if_pos hkk, if_pos (by omega)])
          clear hkk
          repeat (first | go_values | go_skip | go_guarded | go_step | go_upon)
          refine (wb_txt (w.heap.size + 1) (txK l k ++ sgn p.1) 45 _ _ rfl hB5 (by simp; omega)).mono ?_
          rintro e w6 ⟨rfl, hB6, hb6, ho6⟩
          dsimp only
          have hor6 := own_oth hor5 ho6 (by omega)
          have hbx6 := ho6 _ _ hbx5 nb (nt _)
          clear cb5 fb5 zb5
          obtain ⟨cb6, fb6, zb6⟩ := cells_at hbx6
          repeat (first | go_values | go_skip | go_guarded | go_step | go_upon)
          refine (sign_any p.2 _ (by omega)).mono ?_
          rintro e w7 ⟨rfl, hb7⟩
          obtain ⟨hc7, hf7⟩ := bcell hb7
          have hz7 := hb7.size
          try simp at hz7
          have q7_0 : wr.heap.size < w7.heap.size := by omega
          dsimp only
          repeat (first | go_values | go_skip | go_guarded | go_step | go_upon)
          have hB7 := bld_below hB6 hb7
          have hor7 := owns_below hor6 hb7
          refine (ws_txt (w.heap.size + 1) (txK l k ++ sgn p.1 ++ [45]) (sgn p.2) _ hB7 (by simp; omega)).mono ?_
          rintro e w8 ⟨rfl, hB8, hb8, ho8⟩
          dsimp only
          have hor8 := own_oth hor7 ho8 (by omega)
          have hT8 := ((hT5.trans hb6).trans (hb7.mono (by omega))).trans hb8
          repeat (first | go_values | go_skip | go_guarded | go_step | go_upon)
          refine ⟨⟨k + 1, by omega, by go_num, ?_, hor8, hT8⟩, by simp [intOf]; omega⟩
          rw [hsu.out, hx.out, ← List.append_assoc, ← List.append_assoc]
          exact hB8
      · have hkn := Lib.hid (show k = n by omega)
        have hk9 := txK_len l k
        repeat (first | go_values | go_skip | go_guarded | go_step | go_upon)
        refine (wb_txt (w.heap.size + 1) (txK l k) 93 _ _ rfl hB (by omega)).mono ?_
        rintro e w3 ⟨rfl, hB3, hb3, ho3⟩
        dsimp only
        repeat (first | go_values | go_skip | go_guarded | go_step | go_upon)
        refine (Tryd.Builder_String_any_k (w.heap.size + 1) (w.heap.size + 1) _ _ hB3 (Nat.le_of_lt (bld_lt hB3))).mono ?_
        rintro e w4 ⟨rfl, hB4, hb4, ho4⟩
        dsimp only
        repeat (first | go_values | go_skip | go_guarded | go_step | go_upon)
        go_ret
        refine ⟨?_, ?_⟩
        · rw [ht.out, ← hkn.out]; rfl
        · exact ((((Below.refl _ _).alloc (Nat.le_refl _) _).alloc (by simp) _).trans ((hbr.trans (hb3.trans hb4)).mono (by omega)))
end Go.Proofs.YtlohpplpnddfaaaDoor
namespace Go.Proofs.YtlohpplpnddfaaaDoor
open Go.RowKit Go.Sort

/-- The cutter has one more token, or what is wrong. -/
def CutP (C : Nat) (S : ByteArray) (l : List Tok) (w : World) (g : Got Tok) (e : Ending) (w' : World) : Prop :=
  match g with
  | .inr (t, n) => e = .returned .nilIface ∧ CU C S n (l ++ [t]) w' ∧ Below C w w'
  | .inl er => AnsFault er w id e w' ∧ Below C w w'
theorem CutP.no {C : Nat} {S : ByteArray} {l : List Tok} {w w' : World} {g : Got Tok} {er : Nat × Nat} {e : Ending} {p : Nat} (hg : g = .inl er) (he : e = .returned (.iface 90 (.pointer (some ⟨p, 0, none⟩)))) (hp : FaultAt p er w') (hl : w.heap.size ≤ p) (h : Below C w w') :
    CutP C S l w g e w' := by
  subst hg; exact ⟨⟨p, he, hp, hl⟩, h⟩
theorem CutP.ok {C : Nat} {S : ByteArray} {l : List Tok} {w w' : World} {g : Got Tok} {e : Ending} {t : Tok} {n : Nat} (hg : g = .inr (t, n)) (he : e = .returned .nilIface) (hc : CU C S n (l ++ [t]) w') (h : Below C w w') : CutP C S l w g e w' := by
  subst hg; exact ⟨he, hc, h⟩
/-- What a literal comes to. -/
def litTok (a : Nat) (g : Got (List UInt8)) : Got Tok := match g with
  | .inl e => .inl e
  | .inr (l, n) => .inr (⟨3, l, 0, a⟩, n)
theorem lit_out {s : List UInt8} {q st f k : Nat} {l : List UInt8} (h : s.length ≤ k) : litGo s q st (f + 1) k l = .inl (3, s.length) := by rw [litGo, if_pos h]
theorem lit_end {s : List UInt8} {q st f k : Nat} {l : List UInt8} (h : k < s.length) (hq : byteAt s k = q) : litGo s q st (f + 1) k l = .inr (l, k + 1) := by rw [litGo, if_neg (by omega), if_pos hq]
theorem lit_bad {s : List UInt8} {q st f k : Nat} {l : List UInt8} {er : Nat × Nat} (h : k < s.length) (hq : byteAt s k ≠ q) (hc : lchAt s k = .inl er) : litGo s q st (f + 1) k l = .inl er := by rw [litGo, if_neg (by omega), if_neg hq, hc]
theorem lit_long {s : List UInt8} {q st f k c n : Nat} {l : List UInt8} (h : k < s.length) (hq : byteAt s k ≠ q) (hc : lchAt s k = .inr (c, n)) (hl : l.length = 255) : litGo s q st (f + 1) k l = .inl (2, st) := by
  rw [litGo, if_neg (by omega), if_neg hq, hc]; simp only; rw [if_pos hl]
theorem lit_on {s : List UInt8} {q st f k c n : Nat} {l : List UInt8} (h : k < s.length) (hq : byteAt s k ≠ q) (hc : lchAt s k = .inr (c, n)) (hl : l.length ≠ 255) : litGo s q st (f + 1) k l = litGo s q st f n (l ++ [c.toUInt8]) := by
  rw [litGo, if_neg (by omega), if_neg hq, hc]; simp only; rw [if_neg hl]
theorem add_as (C : Nat) (S : ByteArray) (a : Nat) (l : List Tok) (k : Nat) (x : List UInt8) (e : Int) (n : Nat) (w : World) (h : CU C S a l w) (hx : e = n) (hl : l.length ≤ 100000) :
    Calls Tryd.prog 65 #[.pointer (some ⟨C, 0, none⟩), .agg #[.int .i64 (k : Int), .string ⟨x.toArray⟩, .int .u64 0, .int .u64 0, .int .u64 0, .int .u64 0, .int .i64 0], .int .i64 e] w fun e w' => e = .returned (.tuple #[]) ∧ CU C S n (l ++ [⟨k, x, 0, a⟩]) w' ∧ Below C w w' := by
  have := add_any C S a l ⟨k, x, 0#256, a⟩ 0 e n w h hx rfl hl
  simp only [wd_zero, mkS] at this
  exact this
theorem wb_nat (b : Nat) (A : List UInt8) (c : Nat) (w : World) (hc : c < 256) (h : Bld b b (Lib.byteCells A) w) (hl : A.length ≤ 100000) :
    Calls Tryd.prog 57 #[.pointer (some ⟨b, 0, none⟩), .int .u8 (c : Int)] w fun e w' => e = .returned .nilIface ∧ Bld b b (Lib.byteCells (A ++ [c.toUInt8])) w' ∧ Below b w w' ∧ Oth b w w' :=
  wb_txt b A c.toUInt8 c w (by simp; omega) h hl
theorem len_bld (b : Nat) (A : List UInt8) (w : World) (h : Bld b b (Lib.byteCells A) w) : Calls Tryd.prog 110 #[.pointer (some ⟨b, 0, none⟩)] w fun e w' => e = .returned (.int .i64 (A.length : Int)) ∧ w = w' := by
  refine (Tryd.Builder_Len_f b b _ w h).mono ?_
  rintro e w' ⟨rfl, rfl⟩
  exact ⟨by rw [Lib.byteCells_length], rfl⟩
set_option maxRecDepth 100000 in
set_option maxHeartbeats 6400000 in
theorem literal_any (C : Nat) (S : ByteArray) (a : Nat) (l : List Tok) (w : World) (h : CU C S a l w) (hs : S.size ≤ 100000) (ha : a < S.size) (hll : l.length ≤ 100000) (_ : S[a].toNat = 39 ∨ S[a].toNat = 34) :
    Calls Tryd.prog 88 #[.pointer (some ⟨C, 0, none⟩)] w (CutP C S l w (litTok a (litGo (bl S) S[a].toNat a ((bl S).length + 1) (a + 1) []))) := by
  have hlen := bl_length S
  have hs2 : S.size ≤ 140737488355328 := by omega
  have HC := Lib.hid h
  have hlt := h.lt
  obtain ⟨c0, c1⟩ := h.cells
  have HB := Lib.hid (bld_below (bld_new w) (drew_below _))
  clear h
  generalize hG : litGo (bl S) S[a].toNat a ((bl S).length + 1) (a + 1) [] = G
  have HG := Lib.hid hG
  clear hG
  go_enter Tryd.func88, Tryd.ntmps88
  repeat (first | go_values | go_skip | go_guarded | go_step | go_upon)
  go_region
  repeat (first | go_values | go_skip | go_guarded | go_step | go_upon)
  go_loopw [5] (fun t wr => ∃ (f k : Nat) (acc : List UInt8), t = .int .i64 (k : Int) ∧ Bld w.heap.size w.heap.size (Lib.byteCells acc) wr ∧ Below w.heap.size w wr ∧ Hid (litGo (bl S) S[a].toNat a f k acc = G) ∧ (bl S).length < f + k ∧ acc.length ≤ 255 ∧ k ≤ S.size) (fun t _ => S.size + 1 - (intOf t).toNat)
  case atStart => exact ⟨_, a + 1, [], by go_num, HB.out, ((Below.refl _ _).alloc (Nat.le_refl _) _).drew, HG, by omega, by simp, by omega⟩
  case round =>
    obtain ⟨f, k, acc, rfl, hB, hb, hG, hf, hacc, hk⟩ := hrel
    obtain ⟨f, rfl⟩ : ∃ g, f = g + 1 := ⟨f - 1, by omega⟩
    have u := HC.out.below hb
    obtain ⟨d0, d1⟩ := u.cells
    have qB := bld_lt hB
    rcases Nat.lt_or_ge k S.size with hlk | hge
    · have hv := byteAt_ba hlk
      have h256 := UInt8.toNat_lt S[k]
      have k1 : decide (S.size ≤ k) = false := by simp; omega
      by_cases hx : S[k].toNat = S[a].toNat
      · have HX := Lib.hid (show G = .inr (acc, k + 1) by rw [← hG.out, lit_end (by omega) (by rw [hv]; exact hx)])
        have m1 : ((S[k].toNat : Int) == (S[a].toNat : Int)) = true := by simp; omega
        clear hx hv
        repeat (first | go_values | go_skip | go_guarded | go_step | go_upon)
        refine (Tryd.Builder_String_any_k w.heap.size w.heap.size acc _ hB (Nat.le_of_lt qB)).mono ?_
        rintro e w4 ⟨rfl, hB4, hb4, ho4⟩
        have u4 := HC.out.below (hb.trans hb4)
        dsimp only
        repeat (first | go_values | go_skip | go_guarded | go_step | go_upon)
        refine (add_as C S a l 3 acc _ (k + 1) _ u4 (by omega) hll).mono ?_
        rintro e w5 ⟨rfl, u5, hb5⟩
        dsimp only
        repeat (first | go_values | go_skip | go_guarded | go_step | go_upon)
        go_ret
        exact CutP.ok (by rw [HX.out]; rfl) rfl u5 (((hb.trans hb4).mono (Nat.le_of_lt hlt)).trans hb5)
      · have m1 : ((S[k].toNat : Int) == (S[a].toNat : Int)) = false := by simp; omega
        by_cases h92 : S[k].toNat = 92
        · have m2 : ((S[k].toNat : Int) == 92) = true := by simp; omega
          have hlc : lchAt (bl S) k = lescAt (bl S) (k + 1) := by rw [lchAt, hv, if_pos h92]
          cases he : lescAt (bl S) (k + 1) with
          | inl er =>
            have HX := Lib.hid (show G = .inl er by rw [← hG.out, lit_bad (by omega) (by rw [hv]; exact hx) (hlc.trans he)])
            have HE := Lib.hid he
            clear hx hv he hlc h92
            repeat (first | go_values | go_skip | go_guarded | go_step | go_upon)
            refine (escape_no C S a l k _ u hs2 (by omega) HE.out).mono ?_
            rintro e w5 ⟨⟨p, rfl, hp, hl⟩, hb5⟩
            dsimp only
            repeat (first | go_values | go_skip | go_guarded | go_step | go_upon)
            go_ret
            exact CutP.no (by rw [HX.out]; rfl) rfl hp (Nat.le_trans hb.size hl) ((hb.mono (Nat.le_of_lt hlt)).trans (hb5.mono (by have := hb.size; omega)))
          | inr q =>
            obtain ⟨c, n⟩ := q
            have bd := lescAt_bd he
            have HE := Lib.hid he
            have d3 : decide ((S[k].toNat : Int) < 32) = false := by simp; omega
            have d4 : decide ((126 : Int) < S[k].toNat) = false := by simp; omega
            by_cases h255 : acc.length = 255
            · have HX := Lib.hid (show G = .inl (2, a) by rw [← hG.out, lit_long (by omega) (by rw [hv]; exact hx) (hlc.trans he) h255])
              have d5 : ((acc.length : Int) == 255) = true := by simp; omega
              clear hx hv he hlc h92 h255
              repeat (first | go_values | go_skip | go_guarded | go_step | go_upon)
              refine (escape_ok C S a l k _ u hs2 (by omega) HE.out).mono ?_
              rintro e w5 ⟨rfl, hb5⟩
              have u5 := u.below hb5
              obtain ⟨e0, e1⟩ := u5.cells
              have hB5 := bld_below hB hb5
              have hbb := bstep hb hb5
              dsimp only
              repeat (first | go_values | go_skip | go_guarded | go_step | go_upon)
              refine (len_bld w.heap.size acc _ hB5).mono ?_
              rintro e w6 ⟨rfl, rfl⟩
              dsimp only
              repeat (first | go_values | go_skip | go_guarded | go_step | go_upon)
              refine (fault_any _ _ (2, a) _ rfl rfl).mono ?_
              rintro e w9 ⟨⟨p, rfl, hp, hl⟩, hb9⟩
              dsimp only [id]
              repeat (first | go_values | go_skip | go_guarded | go_step | go_upon)
              go_ret
              exact CutP.no (by rw [HX.out]; rfl) rfl hp (Nat.le_trans hbb.size hl) ((hbb.mono (Nat.le_of_lt hlt)).trans (hb9.mono (by have := hbb.size; omega)))
            · have HX := Lib.hid (show litGo (bl S) S[a].toNat a f n (acc ++ [c.toUInt8]) = G by rw [← hG.out, lit_on (by omega) (by rw [hv]; exact hx) (hlc.trans he) h255])
              have d5 : ((acc.length : Int) == 255) = false := by simp; omega
              clear hx hv he hlc h92
              repeat (first | go_values | go_skip | go_guarded | go_step | go_upon)
              refine (escape_ok C S a l k _ u hs2 (by omega) HE.out).mono ?_
              rintro e w5 ⟨rfl, hb5⟩
              have u5 := u.below hb5
              obtain ⟨e0, e1⟩ := u5.cells
              have hB5 := bld_below hB hb5
              have hbb := bstep hb hb5
              dsimp only
              repeat (first | go_values | go_skip | go_guarded | go_step | go_upon)
              refine (len_bld w.heap.size acc _ hB5).mono ?_
              rintro e w6 ⟨rfl, rfl⟩
              dsimp only
              repeat (first | go_values | go_skip | go_guarded | go_step | go_upon)
              refine (wb_nat w.heap.size acc c _ bd.1 hB5 (by omega)).mono ?_
              rintro e w7 ⟨rfl, hB7, hb7, ho7⟩
              dsimp only
              repeat (first | go_values | go_skip | go_guarded | go_step | go_upon)
              exact ⟨⟨f, n, acc ++ [(c).toUInt8], by first | rfl | go_num, hB7, hbb.trans hb7, HX, by omega, by simp; omega, by omega⟩, by simp [intOf]; omega⟩
        · have m2 : ((S[k].toNat : Int) == 92) = false := by simp; omega
          by_cases hbad : S[k].toNat < 32 ∨ 126 < S[k].toNat
          · have HX := Lib.hid (show G = .inl (4, k) by rw [← hG.out, lit_bad (by omega) (by rw [hv]; exact hx) (by rw [lchAt, hv, if_neg h92, if_pos hbad])])
            have hw := wrongAt_bin hlk
            have HW := Lib.hid hw
            have hdd : (decide ((S[k].toNat : Int) < 32) = true) ∨ (decide ((S[k].toNat : Int) < 32) = false ∧ decide ((126 : Int) < S[k].toNat) = true) := by
              simp only [decide_eq_true_eq, decide_eq_false_iff_not]; omega
            clear hx hv h92 hbad hw
            rcases hdd with d3 | ⟨d3, d4⟩
            all_goals
              repeat (first | go_values | go_skip | go_guarded | go_step | go_upon)
              refine (lwrong_any C S a l _ (k) _ u (by omega) hs2).mono ?_
              rintro e w9 ⟨⟨p, rfl, hp, hl⟩, hb9⟩
              dsimp only [id]
              repeat (first | go_values | go_skip | go_guarded | go_step | go_upon)
              go_ret
              rw [HW.out] at hp
              exact CutP.no (by rw [HX.out]; rfl) rfl hp (Nat.le_trans hb.size hl) ((hb.mono (Nat.le_of_lt hlt)).trans (hb9.mono (by have := hb.size; omega)))
          · have hlc : lchAt (bl S) k = .inr (S[k].toNat, k + 1) := by rw [lchAt, hv, if_neg h92, if_neg hbad]
            have d3 : decide ((S[k].toNat : Int) < 32) = false := by simp; omega
            have d4 : decide ((126 : Int) < S[k].toNat) = false := by simp; omega
            by_cases h255 : acc.length = 255
            · have HX := Lib.hid (show G = .inl (2, a) by rw [← hG.out, lit_long (by omega) (by rw [hv]; exact hx) hlc h255])
              have d5 : ((acc.length : Int) == 255) = true := by simp; omega
              clear hx hv hlc h92 h255 hbad
              repeat (first | go_values | go_skip | go_guarded | go_step | go_upon)
              refine (len_bld w.heap.size acc _ hB).mono ?_
              rintro e w6 ⟨rfl, rfl⟩
              dsimp only
              repeat (first | go_values | go_skip | go_guarded | go_step | go_upon)
              refine (fault_any _ _ (2, a) _ rfl rfl).mono ?_
              rintro e w9 ⟨⟨p, rfl, hp, hl⟩, hb9⟩
              dsimp only [id]
              repeat (first | go_values | go_skip | go_guarded | go_step | go_upon)
              go_ret
              exact CutP.no (by rw [HX.out]; rfl) rfl hp (Nat.le_trans hb.size hl) ((hb.mono (Nat.le_of_lt hlt)).trans (hb9.mono (by have := hb.size; omega)))
            · have HX := Lib.hid (show litGo (bl S) S[a].toNat a f (k + 1) (acc ++ [S[k].toNat.toUInt8]) = G by rw [← hG.out, lit_on (by omega) (by rw [hv]; exact hx) hlc h255])
              have d5 : ((acc.length : Int) == 255) = false := by simp; omega
              clear hx hv hlc h92 hbad
              repeat (first | go_values | go_skip | go_guarded | go_step | go_upon)
              refine (len_bld w.heap.size acc _ hB).mono ?_
              rintro e w6 ⟨rfl, rfl⟩
              dsimp only
              repeat (first | go_values | go_skip | go_guarded | go_step | go_upon)
              refine (wb_nat w.heap.size acc S[k].toNat _ h256 hB (by omega)).mono ?_
              rintro e w7 ⟨rfl, hB7, hb7, ho7⟩
              dsimp only
              repeat (first | go_values | go_skip | go_guarded | go_step | go_upon)
              exact ⟨⟨f, k + 1, acc ++ [(S[k].toNat).toUInt8], by first | rfl | go_num, hB7, hb.trans hb7, HX, by omega, by simp; omega, by omega⟩, by simp [intOf]; omega⟩
    · have HX := Lib.hid (show G = .inl (3, S.size) by rw [← hG.out, lit_out (by omega), hlen])
      have HW := Lib.hid (wrongAt_bout hge)
      have k1 : decide (S.size ≤ k) = true := by simpa using hge
      repeat (first | go_values | go_skip | go_guarded | go_step | go_upon)
      refine (lwrong_any C S a l _ (k) _ u (by omega) hs2).mono ?_
      rintro e w9 ⟨⟨p, rfl, hp, hl⟩, hb9⟩
      dsimp only [id]
      repeat (first | go_values | go_skip | go_guarded | go_step | go_upon)
      go_ret
      rw [HW.out] at hp
      exact CutP.no (by rw [HX.out]; rfl) rfl hp (Nat.le_trans hb.size hl) ((hb.mono (Nat.le_of_lt hlt)).trans (hb9.mono (by have := hb.size; omega)))
end Go.Proofs.YtlohpplpnddfaaaDoor
namespace Go.Proofs.YtlohpplpnddfaaaDoor
open Go.RowKit Go.Sort

theorem rmem_ok (R : Nat) (S : ByteArray) (a : Nat) (w : World) (h : RD R S a w) (hs : S.size ≤ 140737488355328) {c : BitVec 256} {n : Nat} (hg : memAt (bl S) a = .inr (c, n)) :
    Calls Tryd.prog 55 #[.pointer (some ⟨R, 0, none⟩)] w (fun e w' => e = .returned (.tuple #[.agg #[.int .u64 (wd c 0), .int .u64 (wd c 1), .int .u64 (wd c 2), .int .u64 (wd c 3)], .nilIface]) ∧ Rto R S n w w') := by
  have := mem_any R S a w h hs
  rw [hg] at this
  exact this
theorem rmem_no (R : Nat) (S : ByteArray) (a : Nat) (w : World) (h : RD R S a w) (hs : S.size ≤ 140737488355328) {er : Nat × Nat} (hg : memAt (bl S) a = .inl er) :
    Calls Tryd.prog 55 #[.pointer (some ⟨R, 0, none⟩)] w (fun e w' => AnsFault er w (fun v => .tuple #[cls0, v]) e w' ∧ ∃ n, Rto R S n w w') := by
  have := mem_any R S a w h hs
  rw [hg] at this
  exact this
/-- A class was read, or what is wrong. -/
def ParP (w : World) (g : Got (BitVec 256)) (e : Ending) (w' : World) : Prop :=
  match g with
  | .inr (c, n) => e = .returned (.tuple #[.agg #[.int .u64 (wd c 0), .int .u64 (wd c 1), .int .u64 (wd c 2), .int .u64 (wd c 3)], .int .i64 (n : Int), .nilIface]) ∧ Below w.heap.size w w'
  | .inl er => AnsFault er w (fun v => .tuple #[cls0, .int .i64 0, v]) e w' ∧ Below w.heap.size w w'
theorem ParP.ok {w w' : World} {g : Got (BitVec 256)} {e : Ending} {c : BitVec 256} {n : Nat} (hg : g = .inr (c, n)) (he : e = .returned (.tuple #[.agg #[.int .u64 (wd c 0), .int .u64 (wd c 1), .int .u64 (wd c 2), .int .u64 (wd c 3)], .int .i64 (n : Int), .nilIface])) (h : Below w.heap.size w w') : ParP w g e w' := by
  subst hg; exact ⟨he, h⟩
theorem ParP.no {w w' : World} {g : Got (BitVec 256)} {er : Nat × Nat} {p : Nat} {e : Ending} (hg : g = .inl er) (he : e = .returned (.tuple #[cls0, .int .i64 0, .iface 90 (.pointer (some ⟨p, 0, none⟩))])) (hp : FaultAt p er w') (hl : w.heap.size ≤ p) (h : Below w.heap.size w w') :
    ParP w g e w' := by
  subst hg; exact ⟨⟨p, he, hp, hl⟩, h⟩
theorem rd_alloc {S : ByteArray} (w : World) : RD w.heap.size S 0 (w.alloc (.cells #[.string S, .int .i64 0] 84)) := heap_alloc_new _ _
theorem rd_alloc3 {S : ByteArray} (w : World) (o1 o2 : Obj) : RD (w.heap.size + 1 + 1) S 0 (((w.alloc o1).alloc o2).alloc (.cells #[.string S, .int .i64 0] 84)) := by
  have := rd_alloc (S := S) ((w.alloc o1).alloc o2)
  simpa using this
theorem set4p {w : World} {B : Nat} {a b c d a' b' c' d' : Value} {t : TypeId} (h : w.heap[B]? = some (.cells #[a, b, c, d] t (0, 0))) :
    ((((w.setCell ⟨B, 0, none⟩ a').setCell ⟨B, 1, none⟩ b').setCell ⟨B, 2, none⟩ c').setCell ⟨B, 3, none⟩ d').heap[B]? = some (.cells #[a', b', c', d'] t (0, 0)) :=
  heap_setCell_same _ B 3 _ _ _ (heap_setCell_same _ B 2 _ _ _ (heap_setCell_same _ B 1 _ _ _ (heap_setCell_same _ B 0 _ _ _ h)))
/-- The three blocks of the call: what is answered, the class so far, the reader. -/
structure Z (S : ByteArray) (c : BitVec 256) (a : Nat) (w w' : World) : Prop where
  res : w'.heap[w.heap.size]? = some (.cells #[.int .u64 0, .int .u64 0, .int .u64 0, .int .u64 0] 24 (0, 0))
  cls : w'.heap[w.heap.size + 1]? = some (.cells #[.int .u64 (wd c 0), .int .u64 (wd c 1), .int .u64 (wd c 2), .int .u64 (wd c 3)] 24 (0, 0))
  rd : RD (w.heap.size + 1 + 1) S a w'
  bel : Below w.heap.size w w'
theorem z_start (S : ByteArray) (w : World) : Z S 0#256 0 w (((w.alloc (.cells #[.int .u64 0, .int .u64 0, .int .u64 0, .int .u64 0] 24)).alloc (.cells #[.int .u64 0, .int .u64 0, .int .u64 0, .int .u64 0] 24)).alloc (.cells #[.string S, .int .i64 0] 84)) := by
  refine ⟨?_, ?_, rd_alloc3 _ _ _, (((Below.refl _ _).alloc (Nat.le_refl _) _).alloc (by simp) _).alloc (by simp; omega) _⟩
  · rw [RowKit.Below.heap_alloc _ _ _ (by simp; omega), RowKit.Below.heap_alloc _ _ _ (by simp), heap_alloc_new]
  · rw [RowKit.Below.heap_alloc _ _ _ (by simp)]
    have := heap_alloc_new (w.alloc (.cells #[.int .u64 0, .int .u64 0, .int .u64 0, .int .u64 0] 24)) (.cells #[.int .u64 0, .int .u64 0, .int .u64 0, .int .u64 0] 24)
    simp only [World.size_alloc, wd_zero] at this ⊢
    exact this
theorem Z.lt {S : ByteArray} {c : BitVec 256} {a : Nat} {w w' : World} (h : Z S c a w w') : w.heap.size + 1 + 1 < w'.heap.size := rd_lt h.rd
theorem Z.below {S : ByteArray} {c : BitVec 256} {a : Nat} {w w1 w2 : World} (h : Z S c a w w1) (hb : Below w1.heap.size w1 w2) : Z S c a w w2 :=
  ⟨(hb.block _ (by have := h.lt; omega)).trans h.res, (hb.block _ (by have := h.lt; omega)).trans h.cls, rd_below h.rd hb, below_step h.bel h.bel.size hb⟩
theorem Z.rto {S : ByteArray} {c : BitVec 256} {a b : Nat} {w w1 w2 : World} (h : Z S c a w w1) (t : Rto (w.heap.size + 1 + 1) S b w1 w2) : Z S c b w w2 :=
  ⟨(t.2.block _ (by have := h.lt; omega) (by simp; omega)).trans h.res, (t.2.block _ (by have := h.lt; omega) (by simp)).trans h.cls, t.1, h.bel.grown t.2 h.bel.size (fun k hk => by injection hk; omega)⟩
theorem Z.set {S : ByteArray} {c : BitVec 256} {a : Nat} {w w1 : World} (h : Z S c a w w1) : Z S c a w ((((w1.setCell ⟨w.heap.size, 0, none⟩ (.int .u64 0)).setCell ⟨w.heap.size, 1, none⟩ (.int .u64 0)).setCell ⟨w.heap.size, 2, none⟩ (.int .u64 0)).setCell ⟨w.heap.size, 3, none⟩ (.int .u64 0)) := by
  have o : ∀ (w2 : World) (k j : Nat) (v : Value), k ≠ w.heap.size → (w2.setCell ⟨w.heap.size, j, none⟩ v).heap[k]? = w2.heap[k]? := fun w2 k j v hk => heap_setCell_other w2 ⟨w.heap.size, j, none⟩ k v hk
  have hl := h.lt
  refine ⟨?_, ?_, ?_, (((h.bel.setCell (Nat.le_refl _) _).setCell (Nat.le_refl _) _).setCell (Nat.le_refl _) _).setCell (Nat.le_refl _) _⟩
  · exact set4p h.res
  · rw [o _ _ _ _ (by omega), o _ _ _ _ (by omega), o _ _ _ _ (by omega), o _ _ _ _ (by omega)]; exact h.cls
  · unfold RD; rw [o _ _ _ _ (by omega), o _ _ _ _ (by omega), o _ _ _ _ (by omega), o _ _ _ _ (by omega)]; exact h.rd
theorem z_cells {S : ByteArray} {a : Nat} {w w' : World} (h : Z S 0#256 a w w') : Z S 0#256 a w w' ∧ w'.cell? ⟨w.heap.size + 1, 0, none⟩ = some (.int .u64 0) ∧ w'.cell? ⟨w.heap.size + 1, 1, none⟩ = some (.int .u64 0) ∧ w'.cell? ⟨w.heap.size + 1, 2, none⟩ = some (.int .u64 0) ∧ w'.cell? ⟨w.heap.size + 1, 3, none⟩ = some (.int .u64 0) ∧ w'.cell? ⟨w.heap.size, 0, none⟩ = some (.int .u64 0) ∧ w'.cell? ⟨w.heap.size, 1, none⟩ = some (.int .u64 0) ∧ w'.cell? ⟨w.heap.size, 2, none⟩ = some (.int .u64 0) ∧ w'.cell? ⟨w.heap.size, 3, none⟩ = some (.int .u64 0) ∧ (∀ j, w'.frozen? ⟨w.heap.size, j, none⟩ = false) := by
  have c := (cells_at h.cls).1
  have d := cells_at h.res
  refine ⟨h, ?_, ?_, ?_, ?_, ?_, ?_, ?_, ?_, d.2.1⟩
  all_goals first | (rw [c]; simp [wd_zero]; done) | (rw [d.1]; simp)
set_option maxRecDepth 100000 in
set_option maxHeartbeats 3200000 in
theorem par_0 (S : ByteArray) (w : World) (hs : S.size ≤ 140737488355328) (hb : byteAt (bl S) 0 ≠ 91) :
    Calls Tryd.prog 32 #[.string S] w (ParP w (parsed (bl S))) := by
  have P1 := Lib.hid (show pk [91] (byteAt (bl S) 0) = -1 by have := pk_one 91 (by decide) _ (show byteAt (bl S) 0 < 257 by have := byteAt_le (bl S) 0; omega); rw [if_neg hb] at this; exact this)
  have HG := Lib.hid (show parsed (bl S) = .inl (wrongAt (bl S) 0) by rw [parsed, if_neg hb])
  clear hb
  have z0 := z_start S w
  go_enter Tryd.func32, Tryd.ntmps32
  repeat (first | go_values | go_skip | go_guarded | go_step | go_upon)
  refine (pick_no (w.heap.size + 1 + 1) S 0 [91] _ (rd_alloc3 _ _ _) hs P1.out).mono ?_
  rintro e w1 ⟨rfl, t1⟩
  have z1 := z0.rto t1
  obtain ⟨cB, fB, zB⟩ := cells_at z1.cls
  obtain ⟨cA, fA, zA⟩ := cells_at z1.res
  dsimp only
  repeat (first | go_values | go_skip | go_guarded | go_step | go_upon)
  have mk : ∀ w', Z S 0#256 0 w w' → (Z S 0#256 0 w w' ∧ w'.cell? ⟨w.heap.size + 1, 0, none⟩ = some (.int .u64 0) ∧ w'.cell? ⟨w.heap.size + 1, 1, none⟩ = some (.int .u64 0) ∧ w'.cell? ⟨w.heap.size + 1, 2, none⟩ = some (.int .u64 0) ∧ w'.cell? ⟨w.heap.size + 1, 3, none⟩ = some (.int .u64 0) ∧ w'.cell? ⟨w.heap.size, 0, none⟩ = some (.int .u64 0) ∧ w'.cell? ⟨w.heap.size, 1, none⟩ = some (.int .u64 0) ∧ w'.cell? ⟨w.heap.size, 2, none⟩ = some (.int .u64 0) ∧ w'.cell? ⟨w.heap.size, 3, none⟩ = some (.int .u64 0) ∧ (∀ j, w'.frozen? ⟨w.heap.size, j, none⟩ = false)) := fun w' h => z_cells h
  clear z0 t1 cA fA zA cB fB zB
  go_region_held3 (fun w' => Z S 0#256 0 w w' ∧ w'.cell? ⟨w.heap.size + 1, 0, none⟩ = some (.int .u64 0) ∧ w'.cell? ⟨w.heap.size + 1, 1, none⟩ = some (.int .u64 0) ∧ w'.cell? ⟨w.heap.size + 1, 2, none⟩ = some (.int .u64 0) ∧ w'.cell? ⟨w.heap.size + 1, 3, none⟩ = some (.int .u64 0) ∧ w'.cell? ⟨w.heap.size, 0, none⟩ = some (.int .u64 0) ∧ w'.cell? ⟨w.heap.size, 1, none⟩ = some (.int .u64 0) ∧ w'.cell? ⟨w.heap.size, 2, none⟩ = some (.int .u64 0) ∧ w'.cell? ⟨w.heap.size, 3, none⟩ = some (.int .u64 0) ∧ (∀ j, w'.frozen? ⟨w.heap.size, j, none⟩ = false)) ((go_split_ands; refine mk _ ?_; first | assumption | exact Z.below (by assumption) (by assumption) | exact Z.below (by assumption) (drew_below _) | exact Z.set (by assumption))) ((go_at_call 54; refine (wrong_any (w.heap.size + 1 + 1) S 0 _ (by go_split_ands; exact Z.rd (by assumption)) hs).mono ?_; rintro e w3 ⟨⟨p, rfl, hp, hl⟩, hb3⟩; go_split_ands; have z3 := z_cells (Z.below (by assumption) hb3); go_split_ands))
  go_split_ands
  have z3 : Z S 0#256 0 w w3 := by assumption
  obtain ⟨cA, fA, zA⟩ := cells_at z3.res
  repeat (first | go_values | go_skip | go_guarded | go_step | go_upon)
  refine bodyPost_ret (v := .tuple #[cls0, .int .i64 0, .iface 90 (.pointer (some ⟨p, 0, none⟩))]) (by simp [cls0, results, Tryd.results32, go_sem, cA]) rfl ?_
  have hz1 := z1.lt
  have hl2 : w.heap.size < p := by simp at hl; omega
  exact ParP.no HG.out rfl (fault_set (fault_set (fault_set (fault_set hp (by simp; omega) _) (by simp; omega) _) (by simp; omega) _) (by simp; omega) _) (Nat.le_of_lt hl2) (Z.bel (S := S) (c := 0#256) (a := 0) (by assumption))
theorem bel4 {w w1 : World} (h : Below w.heap.size w w1) (a b c d : Value) : Below w.heap.size w ((((w1.setCell ⟨w.heap.size, 0, none⟩ a).setCell ⟨w.heap.size, 1, none⟩ b).setCell ⟨w.heap.size, 2, none⟩ c).setCell ⟨w.heap.size, 3, none⟩ d) :=
  (((h.setCell (Nat.le_refl _) _).setCell (Nat.le_refl _) _).setCell (Nat.le_refl _) _).setCell (Nat.le_refl _) _
theorem mems_one {s : List UInt8} {f a : Nat} {c : BitVec 256} (h : byteAt s a = 93) : memsAt s (f + 1) a c = .inr (c, a + 1) := by rw [memsAt, if_pos h]
theorem mems_bad {s : List UInt8} {f a : Nat} {c : BitVec 256} {er : Nat × Nat} (h : byteAt s a ≠ 93) (hm : memAt s a = .inl er) : memsAt s (f + 1) a c = .inl er := by rw [memsAt, if_neg h, hm]
theorem mems_on {s : List UInt8} {f a n : Nat} {c m : BitVec 256} (h : byteAt s a ≠ 93) (hm : memAt s a = .inr (m, n)) : memsAt s (f + 1) a c = memsAt s f n (c ||| m) := by rw [memsAt, if_neg h, hm]
/-- What comes of the members. -/
def doneP (nt : Bool) (g : Got (BitVec 256)) : Got (BitVec 256) := match g with
  | .inl e => .inl e
  | .inr (c, n) => .inr (if nt then ~~~c else c, n)
theorem fault_alloc {p : Nat} {er : Nat × Nat} {w : World} (h : FaultAt p er w) (o : Obj) : FaultAt p er (w.alloc o) := fault_below h ((Below.refl _ _).alloc (Nat.le_refl _) o)
theorem Z.alloc {S : ByteArray} {c : BitVec 256} {a : Nat} {w w1 : World} (h : Z S c a w w1) (o : Obj) : Z S c a w (w1.alloc o) := h.below ((Below.refl _ _).alloc (Nat.le_refl _) o)
theorem Z.sethi {S : ByteArray} {c : BitVec 256} {a : Nat} {w w1 : World} (h : Z S c a w w1) {p : Addr} (hp : w.heap.size + 1 + 1 < p.block) (v : Value) : Z S c a w (w1.setCell p v) :=
  ⟨(heap_setCell_other w1 p _ v (fun e => by omega)).trans h.res, (heap_setCell_other w1 p _ v (fun e => by omega)).trans h.cls, (heap_setCell_other w1 p _ v (fun e => by omega)).trans h.rd, h.bel.setCell (by omega) _⟩
theorem Z.cset {S : ByteArray} {c : BitVec 256} (d : BitVec 256) {a : Nat} {w w1 : World} (h : Z S c a w w1) : Z S d a w ((((w1.setCell ⟨w.heap.size + 1, 0, none⟩ (.int .u64 (wd d 0))).setCell ⟨w.heap.size + 1, 1, none⟩ (.int .u64 (wd d 1))).setCell ⟨w.heap.size + 1, 2, none⟩ (.int .u64 (wd d 2))).setCell ⟨w.heap.size + 1, 3, none⟩ (.int .u64 (wd d 3))) := by
  have o : ∀ (w2 : World) (k j : Nat) (v : Value), k ≠ w.heap.size + 1 → (w2.setCell ⟨w.heap.size + 1, j, none⟩ v).heap[k]? = w2.heap[k]? := fun w2 k j v hk => heap_setCell_other w2 ⟨w.heap.size + 1, j, none⟩ k v hk
  refine ⟨?_, set4p h.cls, ?_, (((h.bel.setCell (by simp) _).setCell (by simp) _).setCell (by simp) _).setCell (by simp) _⟩
  · rw [o _ _ _ _ (by omega), o _ _ _ _ (by omega), o _ _ _ _ (by omega), o _ _ _ _ (by omega)]; exact h.res
  · unfold RD; rw [o _ _ _ _ (by omega), o _ _ _ _ (by omega), o _ _ _ _ (by omega), o _ _ _ _ (by omega)]; exact h.rd
set_option maxRecDepth 100000 in
set_option maxHeartbeats 3200000 in
theorem par_m (S : ByteArray) (w : World) (hs : S.size ≤ 140737488355328) (hb : byteAt (bl S) 0 = 91) (hn : byteAt (bl S) 1 ≠ 94) :
    Calls Tryd.prog 32 #[.string S] w (ParP w (parsed (bl S))) := by
  have hlen := bl_length S
  have h0 := byteAt_in (s := bl S) (a := 0) (by omega)
  have P1 := Lib.hid (show pk [91] (byteAt (bl S) 0) = (0 : Nat) by rw [hb]; decide)
  have P2 := Lib.hid (show pk [94] (byteAt (bl S) 1) = -1 by have := pk_one 94 (by decide) _ (show byteAt (bl S) 1 < 257 by have := byteAt_le (bl S) 1; omega); rw [if_neg hn] at this; exact this)
  have HG := Lib.hid (show parsed (bl S) = doneP false (memsAt (bl S) ((bl S).length + 1) 1 0) by
    rw [parsed, if_pos hb, if_neg hn]
    cases memsAt (bl S) ((bl S).length + 1) 1 0 <;> rfl)
  clear hb hn
  have z0 := z_start S w
  generalize hM : memsAt (bl S) ((bl S).length + 1) 1 0 = G at HG
  have HM := Lib.hid hM
  clear hM
  go_enter Tryd.func32, Tryd.ntmps32
  repeat (first | go_values | go_skip | go_guarded | go_step | go_upon)
  refine (pick_yes (w.heap.size + 1 + 1) S 0 [91] 0 _ (rd_alloc3 _ _ _) hs P1.out).mono ?_
  rintro e w1 ⟨rfl, t1⟩
  have z1 := z0.rto t1
  dsimp only
  repeat (first | go_values | go_skip | go_guarded | go_step | go_upon)
  refine (pick_no (w.heap.size + 1 + 1) S 1 [94] _ z1.rd hs P2.out).mono ?_
  rintro e w2 ⟨rfl, t2⟩
  have z2 := z1.rto t2
  dsimp only
  repeat (first | go_values | go_skip | go_guarded | go_step | go_upon)
  go_loopw [24] (fun _ wr => ∃ (f a : Nat) (c : BitVec 256), Z S c a w wr ∧ Hid (memsAt (bl S) f a c = G) ∧ (bl S).length < f + a ∧ a ≤ S.size) (fun _ wr => S.size - (intOf ((wr.cell? ⟨w.heap.size + 1 + 1, 1, none⟩).getD undef)).toNat)
  case atStart => exact ⟨_, 1, 0, z2, HM, by omega, by omega⟩
  case round =>
    obtain ⟨f, a, c, z, hG, hf, ha⟩ := hrel
    obtain ⟨f, rfl⟩ : ∃ g, f = g + 1 := ⟨f - 1, by omega⟩
    have hle := byteAt_le (bl S) a
    by_cases h93 : byteAt (bl S) a = 93
    · have P3 := Lib.hid (show pk [93] (byteAt (bl S) a) = (0 : Nat) by rw [h93]; decide)
      have HX := Lib.hid (show G = .inr (c, a + 1) by rw [← hG.out, mems_one h93])
      clear h93
      repeat (first | go_values | go_skip | go_guarded | go_step | go_upon)
      refine (pick_yes (w.heap.size + 1 + 1) S a [93] 0 _ z.rd hs P3.out).mono ?_
      rintro e w3 ⟨rfl, t3⟩
      have z3 := z.rto t3
      obtain ⟨cB, fB, zB⟩ := cells_at z3.cls
      obtain ⟨cA, fA, zA⟩ := cells_at z3.res
      obtain ⟨r0, r1, fr⟩ := rd_cells z3.rd
      dsimp only
      repeat (first | go_values | go_skip | go_guarded | go_step | go_upon)
      go_region
      repeat (first | go_values | go_skip | go_guarded | go_step | go_upon)
      refine bodyPost_ret (v := .tuple #[.agg #[.int .u64 (wd c 0), .int .u64 (wd c 1), .int .u64 (wd c 2), .int .u64 (wd c 3)], .int .i64 ((a + 1 : Nat) : Int), .nilIface]) (by simp [results, Tryd.results32, go_sem, cA]) rfl ?_
      exact ParP.ok (HG.out.trans (by rw [HX.out]; rfl)) rfl (bel4 z3.bel _ _ _ _).drew
    · have P3 := Lib.hid (show pk [93] (byteAt (bl S) a) = -1 by have := pk_one 93 (by decide) _ (show byteAt (bl S) a < 257 by omega); rw [if_neg h93] at this; exact this)
      cases hm : memAt (bl S) a with
      | inl er =>
        have HX := Lib.hid (show G = .inl er by rw [← hG.out, mems_bad h93 hm])
        have HE := Lib.hid hm
        clear h93 hm
        repeat (first | go_values | go_skip | go_guarded | go_step | go_upon)
        refine (pick_no (w.heap.size + 1 + 1) S a [93] _ z.rd hs P3.out).mono ?_
        rintro e w3 ⟨rfl, t3⟩
        have z3 := z.rto t3
        dsimp only
        repeat (first | go_values | go_skip | go_guarded | go_step | go_upon)
        refine (rmem_no (w.heap.size + 1 + 1) S a _ z3.rd hs HE.out).mono ?_
        rintro e w4 ⟨⟨p, rfl, hp, hl⟩, n4, t4⟩
        have z4 := z3.rto t4
        obtain ⟨cA, fA, zA⟩ := cells_at z4.res
        have hp4 := (Array.getElem?_eq_some_iff.1 hp).1
        have hl4 := z3.lt
        have hl5 := z4.lt
        dsimp only [cls0]
        repeat (first | go_values | go_skip | go_guarded | go_step | go_upon)
        refine bodyPost_ret (v := .tuple #[cls0, .int .i64 0, .iface 90 (.pointer (some ⟨p, 0, none⟩))]) (by simp [cls0, results, Tryd.results32, go_sem, cA, zA]) rfl ?_
        refine ParP.no (HG.out.trans (by rw [HX.out]; rfl)) rfl ?_ (by omega) ?_
        · repeat (first | (with_reducible exact hp) | refine fault_set ?_ (by simp; omega) _ | refine fault_alloc ?_ _)
        · repeat (first | (with_reducible exact z4.bel) | refine RowKit.Below.setCell ?_ (by first | (with_reducible exact Nat.le_refl _) | (simp; omega)) _ | refine RowKit.Below.alloc ?_ (by first | (simp; done) | (simp; omega) | omega) _)
      | inr q =>
        obtain ⟨m, n⟩ := q
        have HX := Lib.hid (show memsAt (bl S) f n (c ||| m) = G by rw [← hG.out, mems_on h93 hm])
        have HE := Lib.hid hm
        have hbd := memAt_bd hm
        clear h93 hm
        repeat (first | go_values | go_skip | go_guarded | go_step | go_upon)
        refine (pick_no (w.heap.size + 1 + 1) S a [93] _ z.rd hs P3.out).mono ?_
        rintro e w3 ⟨rfl, t3⟩
        have z3 := z.rto t3
        dsimp only
        repeat (first | go_values | go_skip | go_guarded | go_step | go_upon)
        refine (rmem_ok (w.heap.size + 1 + 1) S a _ z3.rd hs HE.out).mono ?_
        rintro e w4 ⟨rfl, t4⟩
        have z4 := z3.rto t4
        obtain ⟨cA, fA, zA⟩ := cells_at z4.res
        obtain ⟨cB, fB, zB⟩ := cells_at z4.cls
        dsimp only
        repeat (first | go_values | go_skip | go_guarded | go_step | go_upon)
        refine (either_any _ _ _).mono ?_
        rintro e w5 ⟨rfl, hb5⟩
        have hl4 := z4.lt
        have z5 : Z S c n w w5 := by
          refine Z.below ?_ hb5
          repeat (first | (with_reducible exact z4) | refine Z.sethi ?_ (by simp; omega) _ | refine Z.alloc ?_ _)
        obtain ⟨cA5, fA5, zA5⟩ := cells_at z5.res
        obtain ⟨cB5, fB5, zB5⟩ := cells_at z5.cls
        dsimp only
        repeat (first | go_values | go_skip | go_guarded | go_step | go_upon)
        have z6 := Z.cset (c ||| m) z5
        refine ⟨⟨f, n, c ||| m, z6, HX, by omega, by omega⟩, ?_⟩
        rw [(rd_cells z6.rd).2.1, (rd_cells z.rd).2.1]
        simp [intOf]
        omega
end Go.Proofs.YtlohpplpnddfaaaDoor
namespace Go.Proofs.YtlohpplpnddfaaaDoor
open Go.RowKit Go.Sort

theorem not_as {c d : BitVec 256} (h : d = ~~~c) (w : World) : Calls Tryd.prog 30 #[.agg #[.int .u64 (wd c 0), .int .u64 (wd c 1), .int .u64 (wd c 2), .int .u64 (wd c 3)]] w (Ans (.agg #[.int .u64 (wd d 0), .int .u64 (wd d 1), .int .u64 (wd d 2), .int .u64 (wd d 3)]) w) := by subst h; exact not_any c w
set_option maxRecDepth 100000 in
set_option maxHeartbeats 3200000 in
theorem par_n (S : ByteArray) (w : World) (hs : S.size ≤ 140737488355328) (hb : byteAt (bl S) 0 = 91) (hn : byteAt (bl S) 1 = 94) :
    Calls Tryd.prog 32 #[.string S] w (ParP w (parsed (bl S))) := by
  have hlen := bl_length S
  have h0 := byteAt_in (s := bl S) (a := 0) (by omega)
  have P1 := Lib.hid (show pk [91] (byteAt (bl S) 0) = (0 : Nat) by rw [hb]; decide)
  have h1 := byteAt_in (s := bl S) (a := 1) (by omega)
  have P2 := Lib.hid (show pk [94] (byteAt (bl S) 1) = (0 : Nat) by rw [hn]; decide)
  have HG := Lib.hid (show parsed (bl S) = doneP true (memsAt (bl S) ((bl S).length + 1) 2 0) by
    rw [parsed, if_pos hb, if_pos hn]
    cases memsAt (bl S) ((bl S).length + 1) 2 0 <;> rfl)
  clear hb hn
  have z0 := z_start S w
  generalize hM : memsAt (bl S) ((bl S).length + 1) 2 0 = G at HG
  have HM := Lib.hid hM
  clear hM
  go_enter Tryd.func32, Tryd.ntmps32
  repeat (first | go_values | go_skip | go_guarded | go_step | go_upon)
  refine (pick_yes (w.heap.size + 1 + 1) S 0 [91] 0 _ (rd_alloc3 _ _ _) hs P1.out).mono ?_
  rintro e w1 ⟨rfl, t1⟩
  have z1 := z0.rto t1
  dsimp only
  repeat (first | go_values | go_skip | go_guarded | go_step | go_upon)
  refine (pick_yes (w.heap.size + 1 + 1) S 1 [94] 0 _ z1.rd hs P2.out).mono ?_
  rintro e w2 ⟨rfl, t2⟩
  have z2 := z1.rto t2
  dsimp only
  repeat (first | go_values | go_skip | go_guarded | go_step | go_upon)
  go_loopw [24] (fun _ wr => ∃ (f a : Nat) (c : BitVec 256), Z S c a w wr ∧ Hid (memsAt (bl S) f a c = G) ∧ (bl S).length < f + a ∧ a ≤ S.size) (fun _ wr => S.size - (intOf ((wr.cell? ⟨w.heap.size + 1 + 1, 1, none⟩).getD undef)).toNat)
  case atStart => exact ⟨_, 2, 0, z2, HM, by omega, by omega⟩
  case round =>
    obtain ⟨f, a, c, z, hG, hf, ha⟩ := hrel
    obtain ⟨f, rfl⟩ : ∃ g, f = g + 1 := ⟨f - 1, by omega⟩
    have hle := byteAt_le (bl S) a
    by_cases h93 : byteAt (bl S) a = 93
    · have P3 := Lib.hid (show pk [93] (byteAt (bl S) a) = (0 : Nat) by rw [h93]; decide)
      have HX := Lib.hid (show G = .inr (c, a + 1) by rw [← hG.out, mems_one h93])
      clear h93
      repeat (first | go_values | go_skip | go_guarded | go_step | go_upon)
      refine (pick_yes (w.heap.size + 1 + 1) S a [93] 0 _ z.rd hs P3.out).mono ?_
      rintro e w3 ⟨rfl, t3⟩
      have z3 := z.rto t3
      obtain ⟨cB, fB, zB⟩ := cells_at z3.cls
      obtain ⟨cA, fA, zA⟩ := cells_at z3.res
      obtain ⟨r0, r1, fr⟩ := rd_cells z3.rd
      dsimp only
      repeat (first | go_values | go_skip | go_guarded | go_step | go_upon)
      obtain ⟨d, hd⟩ : ∃ d, d = ~~~c := ⟨_, rfl⟩
      have HD := Lib.hid hd
      clear hd
      refine (not_as HD.out _).mono ?_
      rintro e w4 ⟨rfl, hb4⟩
      have z4 := z3.below hb4
      clear cA fA zA cB fB zB r0 r1 fr
      obtain ⟨cB, fB, zB⟩ := cells_at z4.cls
      obtain ⟨cA, fA, zA⟩ := cells_at z4.res
      obtain ⟨r0, r1, fr⟩ := rd_cells z4.rd
      dsimp only
      repeat (first | go_values | go_skip | go_guarded | go_step | go_upon)
      go_region
      repeat (first | go_values | go_skip | go_guarded | go_step | go_upon)
      refine bodyPost_ret (v := .tuple #[.agg #[.int .u64 (wd d 0), .int .u64 (wd d 1), .int .u64 (wd d 2), .int .u64 (wd d 3)], .int .i64 ((a + 1 : Nat) : Int), .nilIface]) (by simp [results, Tryd.results32, go_sem, cA]) rfl ?_
      exact ParP.ok (HG.out.trans (by rw [HX.out, HD.out]; rfl)) rfl (bel4 (Z.cset d z4).bel _ _ _ _).drew
    · have P3 := Lib.hid (show pk [93] (byteAt (bl S) a) = -1 by have := pk_one 93 (by decide) _ (show byteAt (bl S) a < 257 by omega); rw [if_neg h93] at this; exact this)
      cases hm : memAt (bl S) a with
      | inl er =>
        have HX := Lib.hid (show G = .inl er by rw [← hG.out, mems_bad h93 hm])
        have HE := Lib.hid hm
        clear h93 hm
        repeat (first | go_values | go_skip | go_guarded | go_step | go_upon)
        refine (pick_no (w.heap.size + 1 + 1) S a [93] _ z.rd hs P3.out).mono ?_
        rintro e w3 ⟨rfl, t3⟩
        have z3 := z.rto t3
        dsimp only
        repeat (first | go_values | go_skip | go_guarded | go_step | go_upon)
        refine (rmem_no (w.heap.size + 1 + 1) S a _ z3.rd hs HE.out).mono ?_
        rintro e w4 ⟨⟨p, rfl, hp, hl⟩, n4, t4⟩
        have z4 := z3.rto t4
        obtain ⟨cA, fA, zA⟩ := cells_at z4.res
        have hp4 := (Array.getElem?_eq_some_iff.1 hp).1
        have hl4 := z3.lt
        have hl5 := z4.lt
        dsimp only [cls0]
        repeat (first | go_values | go_skip | go_guarded | go_step | go_upon)
        refine bodyPost_ret (v := .tuple #[cls0, .int .i64 0, .iface 90 (.pointer (some ⟨p, 0, none⟩))]) (by simp [cls0, results, Tryd.results32, go_sem, cA, zA]) rfl ?_
        refine ParP.no (HG.out.trans (by rw [HX.out]; rfl)) rfl ?_ (by omega) ?_
        · repeat (first | (with_reducible exact hp) | refine fault_set ?_ (by simp; omega) _ | refine fault_alloc ?_ _)
        · repeat (first | (with_reducible exact z4.bel) | refine RowKit.Below.setCell ?_ (by first | (with_reducible exact Nat.le_refl _) | (simp; omega)) _ | refine RowKit.Below.alloc ?_ (by first | (simp; done) | (simp; omega) | omega) _)
      | inr q =>
        obtain ⟨m, n⟩ := q
        have HX := Lib.hid (show memsAt (bl S) f n (c ||| m) = G by rw [← hG.out, mems_on h93 hm])
        have HE := Lib.hid hm
        have hbd := memAt_bd hm
        clear h93 hm
        repeat (first | go_values | go_skip | go_guarded | go_step | go_upon)
        refine (pick_no (w.heap.size + 1 + 1) S a [93] _ z.rd hs P3.out).mono ?_
        rintro e w3 ⟨rfl, t3⟩
        have z3 := z.rto t3
        dsimp only
        repeat (first | go_values | go_skip | go_guarded | go_step | go_upon)
        refine (rmem_ok (w.heap.size + 1 + 1) S a _ z3.rd hs HE.out).mono ?_
        rintro e w4 ⟨rfl, t4⟩
        have z4 := z3.rto t4
        obtain ⟨cA, fA, zA⟩ := cells_at z4.res
        obtain ⟨cB, fB, zB⟩ := cells_at z4.cls
        dsimp only
        repeat (first | go_values | go_skip | go_guarded | go_step | go_upon)
        refine (either_any _ _ _).mono ?_
        rintro e w5 ⟨rfl, hb5⟩
        have hl4 := z4.lt
        have z5 : Z S c n w w5 := by
          refine Z.below ?_ hb5
          repeat (first | (with_reducible exact z4) | refine Z.sethi ?_ (by simp; omega) _ | refine Z.alloc ?_ _)
        obtain ⟨cA5, fA5, zA5⟩ := cells_at z5.res
        obtain ⟨cB5, fB5, zB5⟩ := cells_at z5.cls
        dsimp only
        repeat (first | go_values | go_skip | go_guarded | go_step | go_upon)
        have z6 := Z.cset (c ||| m) z5
        refine ⟨⟨f, n, c ||| m, z6, HX, by omega, by omega⟩, ?_⟩
        rw [(rd_cells z6.rd).2.1, (rd_cells z.rd).2.1]
        simp [intOf]
        omega
theorem parse_any (S : ByteArray) (w : World) (hs : S.size ≤ 140737488355328) : Calls Tryd.prog 32 #[.string S] w (ParP w (parsed (bl S))) := by
  by_cases hb : byteAt (bl S) 0 = 91
  · by_cases hn : byteAt (bl S) 1 = 94
    · exact par_n S w hs hb hn
    · exact par_m S w hs hb hn
  · exact par_0 S w hs hb
theorem parse_ok (S : ByteArray) (w : World) (hs : S.size ≤ 140737488355328) {c : BitVec 256} {n : Nat} (hg : parsed (bl S) = .inr (c, n)) :
    Calls Tryd.prog 32 #[.string S] w (fun e w' => e = .returned (.tuple #[.agg #[.int .u64 (wd c 0), .int .u64 (wd c 1), .int .u64 (wd c 2), .int .u64 (wd c 3)], .int .i64 (n : Int), .nilIface]) ∧ Below w.heap.size w w') := by
  have := parse_any S w hs
  rw [hg] at this
  exact this
theorem parse_no (S : ByteArray) (w : World) (hs : S.size ≤ 140737488355328) {er : Nat × Nat} (hg : parsed (bl S) = .inl er) :
    Calls Tryd.prog 32 #[.string S] w (fun e w' => AnsFault er w (fun v => .tuple #[cls0, .int .i64 0, v]) e w' ∧ Below w.heap.size w w') := by
  have := parse_any S w hs
  rw [hg] at this
  exact this
end Go.Proofs.YtlohpplpnddfaaaDoor
namespace Go.Proofs.YtlohpplpnddfaaaDoor
open Go.RowKit Go.Extern.Stop Go.Stop Go.Extern

/-! ### Closed facts on the entries for internal/reflectlite: the targets *api.Errno and **api.Fault -/
theorem valueOfP (t : Addr) (w : World) : (ReflectliteValue.unpack (.iface 78 (.pointer (some t)))).run Tryd.prog w
    = .ok (.agg #[.pointer (some ⟨2, 78, none⟩), .pointer (some ⟨w.heap.size, 0, none⟩), .int .u64 150]) (w.alloc (.cells #[.pointer (some t)] 78)) := by kernel_rfl
theorem valueOfQ (t : Addr) (w : World) : (ReflectliteValue.unpack (.iface 91 (.pointer (some t)))).run Tryd.prog w
    = .ok (.agg #[.pointer (some ⟨2, 91, none⟩), .pointer (some ⟨w.heap.size, 0, none⟩), .int .u64 150]) (w.alloc (.cells #[.pointer (some t)] 91)) := by kernel_rfl
theorem typeP (a : Addr) (w : World) : (ReflectliteValue.methodAny (ReflectliteValue.valueError "reflectlite.Value.Type" 0) (fun t _ _ _ => ReflectliteType.toType t) #[.agg #[.pointer (some ⟨2, 78, none⟩), .pointer (some a), .int .u64 150]]).run Tryd.prog w
    = .ok (.iface 143 (.agg #[.pointer (some ⟨2, 78, none⟩)])) w := by kernel_rfl
theorem typeQ (a : Addr) (w : World) : (ReflectliteValue.methodAny (ReflectliteValue.valueError "reflectlite.Value.Type" 0) (fun t _ _ _ => ReflectliteType.toType t) #[.agg #[.pointer (some ⟨2, 91, none⟩), .pointer (some a), .int .u64 150]]).run Tryd.prog w
    = .ok (.iface 143 (.agg #[.pointer (some ⟨2, 91, none⟩)])) w := by kernel_rfl
theorem methodKind (h : Value) (w : World) : (Go.method 293 143 (.agg #[h]) "Kind").run Tryd.prog w = .ok (130, h) w := by kernel_rfl
theorem methodElem (h : Value) (w : World) : (Go.method 293 143 (.agg #[h]) "Elem").run Tryd.prog w = .ok (143, .agg #[h]) w := by kernel_rfl
theorem methodImplements (h : Value) (w : World) : (Go.method 293 143 (.agg #[h]) "Implements").run Tryd.prog w = .ok (144, .agg #[h]) w := by kernel_rfl
theorem methodAssignableTo (h : Value) (w : World) : (Go.method 293 143 (.agg #[h]) "AssignableTo").run Tryd.prog w = .ok (141, .agg #[h]) w := by kernel_rfl
theorem kindP (w : World) : ((ReflectliteType.abiMethod fun t => (fun a : Nat => Value.int IntKind.u8 (a : Int)) <$> Rtype.kind t) #[.pointer (some ⟨2, 78, none⟩)]).run Tryd.prog w = .ok (.int .u8 22) w := by kernel_rfl
theorem kindQ (w : World) : ((ReflectliteType.abiMethod fun t => (fun a : Nat => Value.int IntKind.u8 (a : Int)) <$> Rtype.kind t) #[.pointer (some ⟨2, 91, none⟩)]).run Tryd.prog w = .ok (.int .u8 22) w := by kernel_rfl
theorem kindE (w : World) : ((ReflectliteType.abiMethod fun t => (fun a : Nat => Value.int IntKind.u8 (a : Int)) <$> Rtype.kind t) #[.pointer (some ⟨2, 29, none⟩)]).run Tryd.prog w = .ok (.int .u8 2) w := by kernel_rfl
theorem kindF (w : World) : ((ReflectliteType.abiMethod fun t => (fun a : Nat => Value.int IntKind.u8 (a : Int)) <$> Rtype.kind t) #[.pointer (some ⟨2, 90, none⟩)]).run Tryd.prog w = .ok (.int .u8 22) w := by kernel_rfl
theorem rlm (z : Sem Value) (f : TypeId → Addr → Nat → Nat → Sem Value) (v : Value) :
    ReflectliteValue.method z f #[v] = (do match ← ReflectliteValue.parts v with | none => z | some (t, a, fl) => f t a fl (fl % 32)) := rfl
theorem partsP (a : Addr) (w : World) : (ReflectliteValue.parts (.agg #[.pointer (some ⟨2, 78, none⟩), .pointer (some a), .int .u64 150])).run Tryd.prog w = .ok (some (78, a, 150)) w := by kernel_rfl
theorem partsQ (a : Addr) (w : World) : (ReflectliteValue.parts (.agg #[.pointer (some ⟨2, 91, none⟩), .pointer (some a), .int .u64 150])).run Tryd.prog w = .ok (some (91, a, 150)) w := by kernel_rfl
theorem isNilP (a p : Addr) (W : World) (ha : W.cell? a = some (.pointer (some p))) :
    (ReflectliteValue.method (ReflectliteValue.valueError "reflectlite.Value.IsNil" 0) ReflectliteValue.isNil #[.agg #[.pointer (some ⟨2, 78, none⟩), .pointer (some a), .int .u64 150]]).run Tryd.prog W = .ok (.bool false) W := by
  rw [rlm]
  simp only [Sem.run_bind, partsP, Result.andThen]
  simp [ReflectliteValue.isNil, loadVar, isAgg, underlying, Tryd.underlying78, ha, Result.andThen]
theorem isNilQ (a p : Addr) (W : World) (ha : W.cell? a = some (.pointer (some p))) :
    (ReflectliteValue.method (ReflectliteValue.valueError "reflectlite.Value.IsNil" 0) ReflectliteValue.isNil #[.agg #[.pointer (some ⟨2, 91, none⟩), .pointer (some a), .int .u64 150]]).run Tryd.prog W = .ok (.bool false) W := by
  rw [rlm]
  simp only [Sem.run_bind, partsQ, Result.andThen]
  simp [ReflectliteValue.isNil, loadVar, isAgg, underlying, Tryd.underlying91, ha, Result.andThen]
theorem elemP (w : World) : (ReflectliteType.method ReflectliteType.elem #[.agg #[.pointer (some ⟨2, 78, none⟩)]]).run Tryd.prog w = .ok (.iface 143 (.agg #[.pointer (some ⟨2, 29, none⟩)])) w := by kernel_rfl
theorem elemQ (w : World) : (ReflectliteType.method ReflectliteType.elem #[.agg #[.pointer (some ⟨2, 91, none⟩)]]).run Tryd.prog w = .ok (.iface 143 (.agg #[.pointer (some ⟨2, 90, none⟩)])) w := by kernel_rfl
theorem implementsE (w : World) : (ReflectliteType.relation "Implements" ReflectliteType.implements_ #[.agg #[.pointer (some ⟨2, 29, none⟩)], .iface 143 (.agg #[.pointer (some ⟨2, 26, none⟩)])]).run Tryd.prog w = .ok (.bool true) w := by kernel_rfl
theorem implementsF (w : World) : (ReflectliteType.relation "Implements" ReflectliteType.implements_ #[.agg #[.pointer (some ⟨2, 90, none⟩)], .iface 143 (.agg #[.pointer (some ⟨2, 26, none⟩)])]).run Tryd.prog w = .ok (.bool true) w := by kernel_rfl
theorem typeOfE (v : Value) (w : World) : (ReflectliteType.typeOf #[.iface 29 v]).run Tryd.prog w = .ok (.iface 143 (.agg #[.pointer (some ⟨2, 29, none⟩)])) w := by kernel_rfl
theorem typeOfF (v : Value) (w : World) : (ReflectliteType.typeOf #[.iface 90 v]).run Tryd.prog w = .ok (.iface 143 (.agg #[.pointer (some ⟨2, 90, none⟩)])) w := by kernel_rfl
theorem assignableEE (w : World) : (ReflectliteType.relation "AssignableTo" ReflectliteType.assignableTo #[.agg #[.pointer (some ⟨2, 29, none⟩)], .iface 143 (.agg #[.pointer (some ⟨2, 29, none⟩)])]).run Tryd.prog w = .ok (.bool true) w := by kernel_rfl
theorem assignableFF (w : World) : (ReflectliteType.relation "AssignableTo" ReflectliteType.assignableTo #[.agg #[.pointer (some ⟨2, 90, none⟩)], .iface 143 (.agg #[.pointer (some ⟨2, 90, none⟩)])]).run Tryd.prog w = .ok (.bool true) w := by kernel_rfl
theorem assignableFE (w : World) : (ReflectliteType.relation "AssignableTo" ReflectliteType.assignableTo #[.agg #[.pointer (some ⟨2, 90, none⟩)], .iface 143 (.agg #[.pointer (some ⟨2, 29, none⟩)])]).run Tryd.prog w = .ok (.bool false) w := by kernel_rfl
theorem assignableEF (w : World) : (ReflectliteType.relation "AssignableTo" ReflectliteType.assignableTo #[.agg #[.pointer (some ⟨2, 29, none⟩)], .iface 143 (.agg #[.pointer (some ⟨2, 90, none⟩)])]).run Tryd.prog w = .ok (.bool false) w := by kernel_rfl
theorem valueOfE (n : Int) (w : World) : (ReflectliteValue.unpack (.iface 29 (.int .i64 n))).run Tryd.prog w
    = .ok (.agg #[.pointer (some ⟨2, 29, none⟩), .pointer (some ⟨w.heap.size, 0, none⟩), .int .u64 130]) (w.alloc (.cells #[.int .i64 n] 29)) := by kernel_rfl
theorem valueOfF (e : Addr) (w : World) : (ReflectliteValue.unpack (.iface 90 (.pointer (some e)))).run Tryd.prog w
    = .ok (.agg #[.pointer (some ⟨2, 90, none⟩), .pointer (some ⟨w.heap.size, 0, none⟩), .int .u64 150]) (w.alloc (.cells #[.pointer (some e)] 90)) := by kernel_rfl
theorem elemOfP (w : World) : (Rtype.elem? 78).run Tryd.prog w = .ok (some 29) w := by kernel_rfl
theorem elemOfQ (w : World) : (Rtype.elem? 91).run Tryd.prog w = .ok (some 90) w := by kernel_rfl
theorem mkE (p : Addr) (w : World) : (ReflectliteValue.mk 29 p ReflectliteValue.flagAddr).run Tryd.prog w = .ok (.agg #[.pointer (some ⟨2, 29, none⟩), .pointer (some p), .int .u64 386]) w := by kernel_rfl
theorem mkF (p : Addr) (w : World) : (ReflectliteValue.mk 90 p ReflectliteValue.flagAddr).run Tryd.prog w = .ok (.agg #[.pointer (some ⟨2, 90, none⟩), .pointer (some p), .int .u64 406]) w := by kernel_rfl
theorem elemVP (a p : Addr) (W : World) (ha : W.cell? a = some (.pointer (some p))) :
    (ReflectliteValue.method (ReflectliteValue.valueError "reflectlite.Value.Elem" 0) ReflectliteValue.elem #[.agg #[.pointer (some ⟨2, 78, none⟩), .pointer (some a), .int .u64 150]]).run Tryd.prog W
      = .ok (.agg #[.pointer (some ⟨2, 29, none⟩), .pointer (some p), .int .u64 386]) W := by
  rw [rlm]
  simp only [Sem.run_bind, partsP, Result.andThen]
  simp [ReflectliteValue.elem, loadVar, isAgg, underlying, Tryd.underlying78, ha, Result.andThen, elemOfP, mkE]
theorem elemVQ (a p : Addr) (W : World) (ha : W.cell? a = some (.pointer (some p))) :
    (ReflectliteValue.method (ReflectliteValue.valueError "reflectlite.Value.Elem" 0) ReflectliteValue.elem #[.agg #[.pointer (some ⟨2, 91, none⟩), .pointer (some a), .int .u64 150]]).run Tryd.prog W
      = .ok (.agg #[.pointer (some ⟨2, 90, none⟩), .pointer (some p), .int .u64 406]) W := by
  rw [rlm]
  simp only [Sem.run_bind, partsQ, Result.andThen]
  simp [ReflectliteValue.elem, loadVar, isAgg, underlying, Tryd.underlying91, ha, Result.andThen, elemOfQ, mkF]
theorem rls (v x : Value) : ReflectliteValue.set #[v, x] = (do
    let (some (dst, a, fl), some (src, b, _)) := (← ReflectliteValue.parts v, ← ReflectliteValue.parts x)
      | unsupported (.noEntry "extern/(internal/reflectlite.Value).Set.zeroValue")
    if fl / ReflectliteValue.flagAddr % 2 == 0 then unsupported (.noEntry "extern/(internal/reflectlite.Value).Set.unaddressable")
    let val ← loadVar src b
    if ← Rtype.directlyAssignable dst src then storeVar dst a val
    else if ← Rtype.implements dst src then
      if (← Rtype.kind src) == 20 then
        match val with
        | .nilIface => unsupported (.noEntry "extern/reflectlite: a nil value of one interface type handed on as a value of another")
        | _ => storeVar dst a val
      else storeVar dst a (.iface src val)
    else panicString ("reflectlite.Set: value of type " ++ (← Rtype.spelt src) ++ " is not assignable to type " ++ (← Rtype.spelt dst))
    pure (.tuple #[])) := rfl
theorem partsEa (a : Addr) (w : World) : (ReflectliteValue.parts (.agg #[.pointer (some ⟨2, 29, none⟩), .pointer (some a), .int .u64 386])).run Tryd.prog w = .ok (some (29, a, 386)) w := by kernel_rfl
theorem partsE (a : Addr) (w : World) : (ReflectliteValue.parts (.agg #[.pointer (some ⟨2, 29, none⟩), .pointer (some a), .int .u64 130])).run Tryd.prog w = .ok (some (29, a, 130)) w := by kernel_rfl
theorem partsFa (a : Addr) (w : World) : (ReflectliteValue.parts (.agg #[.pointer (some ⟨2, 90, none⟩), .pointer (some a), .int .u64 406])).run Tryd.prog w = .ok (some (90, a, 406)) w := by kernel_rfl
theorem partsF (a : Addr) (w : World) : (ReflectliteValue.parts (.agg #[.pointer (some ⟨2, 90, none⟩), .pointer (some a), .int .u64 150])).run Tryd.prog w = .ok (some (90, a, 150)) w := by kernel_rfl
theorem directE (w : World) : (Rtype.directlyAssignable 29 29).run Tryd.prog w = .ok true w := by kernel_rfl
theorem directF (w : World) : (Rtype.directlyAssignable 90 90).run Tryd.prog w = .ok true w := by kernel_rfl
theorem setE (ta b : Addr) (n : Int) (old : Value) (W : World) (hb : W.cell? b = some (.int .i64 n)) (ht : W.cell? ta = some old) (hf : W.frozen? ta = false) :
    (ReflectliteValue.set #[.agg #[.pointer (some ⟨2, 29, none⟩), .pointer (some ta), .int .u64 386], .agg #[.pointer (some ⟨2, 29, none⟩), .pointer (some b), .int .u64 130]]).run Tryd.prog W
      = .ok (.tuple #[]) (W.setCell ta (.int .i64 n)) := by
  rw [rls]
  simp only [Sem.run_bind, partsEa, partsE, Result.andThen]
  simp [ReflectliteValue.flagAddr, loadVar, isAgg, underlying, Tryd.underlying29, hb, Result.andThen, directE, storeVar, Value.cells, storeCells, Addr.add]
  rw [run_store Tryd.prog W ta _ _ (by rfl)]
  simp [ht, hf]
theorem setF (ta b e : Addr) (old : Value) (W : World) (hb : W.cell? b = some (.pointer (some e))) (ht : W.cell? ta = some old) (hf : W.frozen? ta = false) :
    (ReflectliteValue.set #[.agg #[.pointer (some ⟨2, 90, none⟩), .pointer (some ta), .int .u64 406], .agg #[.pointer (some ⟨2, 90, none⟩), .pointer (some b), .int .u64 150]]).run Tryd.prog W
      = .ok (.tuple #[]) (W.setCell ta (.pointer (some e))) := by
  rw [rls]
  simp only [Sem.run_bind, partsFa, partsF, Result.andThen]
  simp [ReflectliteValue.flagAddr, loadVar, isAgg, underlying, Tryd.underlying90, hb, Result.andThen, directF, storeVar, Value.cells, storeCells, Addr.add]
  rw [run_store Tryd.prog W ta _ _ (by rfl)]
  simp [ht, hf]
theorem noAsE (v : Value) (xT : TypeId) (w : World) : (Instr.typeAssert (.iface 29 v) xT 148 true).run Tryd.prog w = .ok (.tuple #[.nilIface, .bool false]) w := run_typeAssert_lacksB Tryd.underlying148 (by kernel_rfl) (by kernel_rfl) v xT w
theorem noAsF (v : Value) (xT : TypeId) (w : World) : (Instr.typeAssert (.iface 90 v) xT 148 true).run Tryd.prog w = .ok (.tuple #[.nilIface, .bool false]) w := run_typeAssert_lacksB Tryd.underlying148 (by kernel_rfl) (by kernel_rfl) v xT w
theorem noUnE (v : Value) (xT : TypeId) (w : World) : (Instr.typeAssert (.iface 29 v) xT 151 true).run Tryd.prog w = .ok (.tuple #[.nilIface, .bool false]) w := run_typeAssert_lacksB Tryd.underlying151 (by kernel_rfl) (by kernel_rfl) v xT w
theorem noUUE (v : Value) (xT : TypeId) (w : World) : (Instr.typeAssert (.iface 29 v) xT 152 true).run Tryd.prog w = .ok (.tuple #[.nilIface, .bool false]) w := run_typeAssert_lacksB Tryd.underlying152 (by kernel_rfl) (by kernel_rfl) v xT w
theorem isUnF (v : Value) (xT : TypeId) (w : World) : (Instr.typeAssert (.iface 90 v) xT 151 true).run Tryd.prog w = .ok (.tuple #[.iface 90 v, .bool true]) w := run_typeAssert_hasB Tryd.underlying151 (by kernel_rfl) v xT w
theorem methodUnwrap (a : Option Addr) (w : World) : (Go.method 293 90 (.pointer a) "Unwrap").run Tryd.prog w = .ok (135, .pointer a) w := by kernel_rfl
end Go.Proofs.YtlohpplpnddfaaaDoor
