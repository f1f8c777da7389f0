/- The walk of Text. -/
import Derived.Test.YtlohpplpnddfaaaDoorOwn
import Derived.Test.YtlohpplpnddfaaaDoorSgnW
import Derived.Test.YtlohpplpnddfaaaDoorTxtP
import Derived.Test.YtlohpplpnddfaaaDoorSpansP
import Derived.Test.YtlohpplpnddfaaaDoorBldW
namespace Go.Proofs.YtlohpplpnddfaaaDoor
open Go.RowKit Go.Sort

theorem bld_below {B b : Nat} {bs : List Value} {w w' : World} (h : Bld B b bs w) (hb : Below w.heap.size w w') : Bld B b bs w' := by
  have key : ∀ p, Lib.BuilderAtF 97 5 B b p bs w → Lib.BuilderAtF 97 5 B b p bs w' := by
    rintro p ⟨hB, v, hbk, hown, hne⟩
    have hlt : b < w.heap.size := (Array.getElem?_eq_some_iff.1 hbk).1
    exact ⟨hB, v, (hb.block _ hlt).trans hbk, hown.kept (row := none) ⟨hb.os, hb.tape, hb.output, hb.size, fun k hk _ => hb.block k hk⟩ (by cases v.ownBlock <;> simp), hne⟩
  exact h.elim (fun h => .inl (key _ h)) (fun h => .inr (key _ h))
theorem bld_new (w : World) : Bld w.heap.size w.heap.size [] (w.alloc (.cells #[.pointer none, .slice none 0 0] 97)) :=
  .inl ⟨Nat.le_refl _, _, heap_alloc_new _ _, World.ownsRowF_nil _ _ _ _, by simp [Value.ownBlock]⟩
theorem own_oth {B b : Nat} {v : Value} {n : Nat} {xs : List Value} {w w' : World} (h : w.ownsRow B 101 2 v n xs) (ho : Oth b w w') (hne : b < B) : w'.ownsRow B 101 2 v n xs := by
  refine ⟨h.1, ?_⟩
  rcases h.2 with h | ⟨g, cap, cur, rfl, hg, hc, h4⟩
  · exact .inl h
  · exact .inr ⟨g, cap, cur, rfl, hg, ho g _ hc (by intro e; injection e with e; omega) (by intro c fz e; injection e with _ e; exact absurd e (by decide)), h4⟩
theorem strCells_txt (A : List UInt8) : Lib.strCells ⟨A.toArray⟩ = Lib.byteCells A := rfl
theorem bld_lt {B b : Nat} {bs : List Value} {w : World} (h : Bld B b bs w) : b < w.heap.size := by
  rcases h with ⟨_, v, hbk, _⟩ | ⟨_, v, hbk, _⟩ <;> exact (Array.getElem?_eq_some_iff.1 hbk).1
theorem wb_txt (b : Nat) (A : List UInt8) (c : UInt8) (x : Int) (w : World) (hx : x = c.toNat) (h : Bld b b (Lib.byteCells A) w) (hl : A.length ≤ 100000) :
    Calls Tryd.prog 57 #[.pointer (some ⟨b, 0, none⟩), .int .u8 x] w fun e w' => e = .returned .nilIface ∧ Bld b b (Lib.byteCells (A ++ [c])) w' ∧ Below b w w' ∧ Oth b w w' := by
  subst hx
  refine (writeByte_any b b _ _ w h (by rw [Lib.byteCells_length]; omega) (Nat.le_of_lt (bld_lt h))).mono ?_
  rintro e w' ⟨h1, h2, h3, h4⟩
  exact ⟨h1, by rw [Lib.byteCells_append]; exact h2, h3, h4⟩
theorem ws_txt (b : Nat) (A S : List UInt8) (w : World) (h : Bld b b (Lib.byteCells A) w) (hl : A.length + S.length ≤ 100000) :
    Calls Tryd.prog 59 #[.pointer (some ⟨b, 0, none⟩), .string ⟨S.toArray⟩] w fun e w' => e = .returned (.tuple #[.int .i64 (S.length : Nat), .nilIface]) ∧ Bld b b (Lib.byteCells (A ++ S)) w' ∧ Below b w w' ∧ Oth b w w' := by
  have hs : (⟨S.toArray⟩ : ByteArray).size = S.length := by simp [ByteArray.size]
  refine (writeString_any b b _ _ w h (by rw [Lib.byteCells_length, hs]; omega) (Nat.le_of_lt (bld_lt h))).mono ?_
  rintro e w' ⟨h1, h2, h3, h4⟩
  exact ⟨by rw [h1, hs], by rw [Lib.byteCells_append, ← strCells_txt S]; exact h2, h3, h4⟩
set_option maxRecDepth 100000 in
set_option maxHeartbeats 3200000 in
theorem text_any (c : BitVec 256) (w : World) : Calls Tryd.prog 35 #[.agg #[.int .u64 (wd c 0), .int .u64 (wd c 1), .int .u64 (wd c 2), .int .u64 (wd c 3)]] w (Ans (.string ⟨(txt c).toArray⟩) w) := by
  have hbd : ∀ p ∈ runs c, p.1 ≤ p.2 ∧ p.2 ≤ 255 := fun p hp => runs_bd hp
  have hlen : (runs c).length ≤ 257 := runs_len c 257 _
  have ht : Hid (txt c = txK (runs c) (runs c).length ++ [93]) := Lib.hid rfl
  generalize hl : runs c = l at *
  have hL := Lib.hid hl
  clear hl
  have HN := Lib.hid (bld_new (w.alloc (.cells #[.int .u64 (wd c 0), .int .u64 (wd c 1), .int .u64 (wd c 2), .int .u64 (wd c 3)] 24)))
  go_enter Tryd.func35, Tryd.ntmps35
  repeat (first | go_values | go_skip | go_guarded | go_step | go_upon)
  refine (wb_txt (w.heap.size + 1) [] 91 _ _ rfl (by simpa [Lib.byteCells] using HN.out) (by simp)).mono ?_
  rintro e w1 ⟨rfl, hB1, hb1, ho1⟩
  have cC : ∀ j, w1.cell? ⟨w.heap.size, j, none⟩ = (#[.int .u64 (wd c 0), .int .u64 (wd c 1), .int .u64 (wd c 2), .int .u64 (wd c 3)] : Array Value)[j]? := fun j => (hb1.cell (p := ⟨w.heap.size, j, none⟩) (by simp <;> omega)).trans (by go_simp)
  have q1 : w.heap.size + 1 < w1.heap.size := bld_lt hB1
  dsimp only
  repeat (first | go_values | go_skip | go_guarded | go_step | go_upon)
  refine (runs_any _ _).mono ?_
  rintro e w2 ⟨v, rfl, hown, hb2⟩
  rw [hL.out] at hown
  have hB2 := bld_below hB1 hb2
  have hT2 := hb1.trans (hb2.mono (by omega))
  have hz2 := hb2.size
  dsimp only
  generalize hn : l.length = n at *
  rcases owns_form2 hown with ⟨hn0, hv⟩ | ⟨g, cap, hv⟩
  · subst hv
    subst hn0
    repeat (first | go_values | go_skip | go_guarded | go_step | go_upon)
    refine wp_loop_rounds 1 ?_
    rw [rounds_succ]
    repeat (first | go_values | go_skip | go_guarded | go_step | go_upon)
    refine (wb_txt (w.heap.size + 1) [91] 93 _ _ rfl hB2 (by simp)).mono ?_
    rintro e w3 ⟨rfl, hB3, hb3, ho3⟩
    dsimp only
    repeat (first | go_values | go_skip | go_guarded | go_step | go_upon)
    refine (Tryd.Builder_String_any_k (w.heap.size + 1) (w.heap.size + 1) _ _ hB3 (Nat.le_of_lt (bld_lt hB3))).mono ?_
    rintro e w4 ⟨rfl, hB4, hb4, ho4⟩
    dsimp only
    repeat (first | go_values | go_skip | go_guarded | go_step | go_upon)
    go_ret
    refine ⟨?_, ?_⟩
    · rw [ht.out]; rfl
    · exact ((((Below.refl _ _).alloc (Nat.le_refl _) _).alloc (by simp) _).trans ((hT2.trans (hb3.trans hb4)).mono (by omega)))
  · subst hv
    repeat (first | go_values | go_skip | go_guarded | go_step | go_upon)
    go_loopw [10] (fun t wr => ∃ k : Nat, k ≤ n ∧ t = .int .i64 k ∧ Bld (w.heap.size + 1) (w.heap.size + 1) (Lib.byteCells (txK l k)) wr ∧ wr.ownsRow w1.heap.size 101 2 (.slice (some ⟨g, 0, none⟩) n cap) n (pairs l) ∧ Below (w.heap.size + 1) ((w.alloc (.cells #[.int .u64 (wd c 0), .int .u64 (wd c 1), .int .u64 (wd c 2), .int .u64 (wd c 3)] 24)).alloc (.cells #[.pointer none, .slice none 0 0] 97)) wr) (fun t _ => n - (intOf t).toNat)
    case atStart => exact ⟨0, Nat.zero_le _, rfl, hB2, hown, hT2⟩
    case round =>
      obtain ⟨k, hk, rfl, hB, hor, hbr⟩ := hrel
      by_cases hlt : k < n
      · obtain ⟨p, hp⟩ : ∃ p, l[k]? = some p := ⟨l[k], List.getElem?_eq_getElem (by omega)⟩
        have hpm := List.mem_of_getElem? hp
        have hp2 := hbd p hpm
        have hg := pairs_get l k p hp
        have c0 : wr.cell? ⟨g, k * 2, none⟩ = some (.int .i64 (p.1 : Int)) := by rw [hor.cellAt _ (by omega)]; exact hg.1
        have c1 : wr.cell? ⟨g, k * 2 + 1, none⟩ = some (.int .i64 (p.2 : Int)) := by rw [hor.cellAt _ (by omega)]; exact hg.2
        have gl : g < wr.heap.size := (hor.lt g rfl).2
        have hsu := Lib.hid (txK_succ hp)
        have hk9 := txK_len l k
        have s1 := sgn_len p.1
        have s2 := sgn_len p.2
        clear hbd hg hpm hp hown
        have hkk : p.2 = p.1 ∨ p.2 = p.1 + 1 ∨ p.1 + 1 < p.2 := by omega
        have q0 : w.heap.size + 1 < wr.heap.size := bld_lt hB
        have nb : some wr.heap.size ≠ some (w.heap.size + 1) := by intro e; injection e with e; omega
        have nt : ∀ (cs : Array Value), ∀ c fz, Obj.cells cs 101 (0, 0) ≠ .cells c 5 fz := by intro cs c fz e; injection e with _ e; exact absurd e (by decide)
        rcases hkk with hkk | hkk | hkk
        all_goals
          have HK := Lib.hid hkk
          clear hkk
          repeat (first | go_values | go_skip | go_guarded | go_step | go_upon)
          refine (sign_any p.1 _ (by omega)).mono ?_
          rintro e w4 ⟨rfl, hb4⟩
          obtain ⟨hc4, hf4⟩ := bcell hb4
          have hz4 := hb4.size
          try simp at hz4
          have q4_0 : g < w4.heap.size := by omega
          dsimp only
          repeat (first | go_values | go_skip | go_guarded | go_step | go_upon)
          have hS4 : Below wr.heap.size wr w4 := (by repeat (first | exact Below.refl _ _ | assumption | refine bal ?_ _ | refine bdr ?_ | refine bdrn ?_ _ | (refine bset ?_ (by first | exact Nat.le_refl _ | (simp; done) | (simp; omega) | omega) _) | refine bstep ?_ (by assumption)))
          have hB4 := bld_below hB hS4
          have hor4 := owns_below hor hS4
          have hbx4 : w4.heap[wr.heap.size]? = some (.cells #[.int .i64 (p.1 : Int), .int .i64 (p.2 : Int)] 101 (0, 0)) := (hb4.block _ (by simp)).trans (heap_alloc_new _ _)
          refine (ws_txt (w.heap.size + 1) (txK l k) (sgn p.1) _ hB4 (by omega)).mono ?_
          rintro e w5 ⟨rfl, hB5, hb5, ho5⟩
          dsimp only
          have hor5 := own_oth hor4 ho5 (by omega)
          have hbx5 := ho5 _ _ hbx4 nb (nt _)
          obtain ⟨cb5, fb5, zb5⟩ := cells_at hbx5
          have hT5 := (hbr.trans (hS4.mono (by omega))).trans hb5
        · have hkk := HK.out
          have e1 : ((p.2 : Int) - p.1 == 1) = false := by simp; omega
          have e0 : ((p.2 : Int) - p.1 == 0) = true := by simp; omega
          have hx := Lib.hid (show rowT p = sgn p.1 by rw [rowT, if_neg (by omega), if_neg (by omega)]; simp)
          clear hkk
          repeat (first | go_values | go_skip | go_guarded | go_step | go_upon)
          refine ⟨⟨k + 1, by omega, by go_num, ?_, hor5, hT5⟩, by simp [intOf]; omega⟩
          rw [hsu.out, hx.out]
          exact hB5
        · have hkk := HK.out
          have e1 : ((p.2 : Int) - p.1 == 1) = true := by simp; omega
          have hx := Lib.hid (show rowT p = sgn p.1 ++ sgn p.2 by rw [rowT, if_neg (by omega), if_pos (by omega)]; simp)
          clear hkk
          repeat (first | go_values | go_skip | go_guarded | go_step | go_upon)
          refine (sign_any p.2 _ (by omega)).mono ?_
          rintro e w6 ⟨rfl, hb6⟩
          obtain ⟨hc6, hf6⟩ := bcell hb6
          have hz6 := hb6.size
          try simp at hz6
          have q6_0 : wr.heap.size < w6.heap.size := by omega
          dsimp only
          repeat (first | go_values | go_skip | go_guarded | go_step | go_upon)
          have hB6 := bld_below hB5 hb6
          have hor6 := owns_below hor5 hb6
          refine (ws_txt (w.heap.size + 1) (txK l k ++ sgn p.1) (sgn p.2) _ hB6 (by simp; omega)).mono ?_
          rintro e w7 ⟨rfl, hB7, hb7, ho7⟩
          dsimp only
          have hor7 := own_oth hor6 ho7 (by omega)
          have hT7 := (hT5.trans (hb6.mono (by omega))).trans hb7
          repeat (first | go_values | go_skip | go_guarded | go_step | go_upon)
          refine ⟨⟨k + 1, by omega, by go_num, ?_, hor7, hT7⟩, by simp [intOf]; omega⟩
          rw [hsu.out, hx.out, ← List.append_assoc]
          exact hB7
        · have hkk := HK.out
          have e1 : ((p.2 : Int) - p.1 == 1) = false := by simp; omega
          have e0 : ((p.2 : Int) - p.1 == 0) = false := by simp; omega
          have hx := Lib.hid (show rowT p = sgn p.1 ++ ([45] ++ sgn p.2) by rw [rowT, if_pos hkk, if_pos (by omega)])
          clear hkk
          repeat (first | go_values | go_skip | go_guarded | go_step | go_upon)
          refine (wb_txt (w.heap.size + 1) (txK l k ++ sgn p.1) 45 _ _ rfl hB5 (by simp; omega)).mono ?_
          rintro e w6 ⟨rfl, hB6, hb6, ho6⟩
          dsimp only
          have hor6 := own_oth hor5 ho6 (by omega)
          have hbx6 := ho6 _ _ hbx5 nb (nt _)
          clear cb5 fb5 zb5
          obtain ⟨cb6, fb6, zb6⟩ := cells_at hbx6
          repeat (first | go_values | go_skip | go_guarded | go_step | go_upon)
          refine (sign_any p.2 _ (by omega)).mono ?_
          rintro e w7 ⟨rfl, hb7⟩
          obtain ⟨hc7, hf7⟩ := bcell hb7
          have hz7 := hb7.size
          try simp at hz7
          have q7_0 : wr.heap.size < w7.heap.size := by omega
          dsimp only
          repeat (first | go_values | go_skip | go_guarded | go_step | go_upon)
          have hB7 := bld_below hB6 hb7
          have hor7 := owns_below hor6 hb7
          refine (ws_txt (w.heap.size + 1) (txK l k ++ sgn p.1 ++ [45]) (sgn p.2) _ hB7 (by simp; omega)).mono ?_
          rintro e w8 ⟨rfl, hB8, hb8, ho8⟩
          dsimp only
          have hor8 := own_oth hor7 ho8 (by omega)
          have hT8 := ((hT5.trans hb6).trans (hb7.mono (by omega))).trans hb8
          repeat (first | go_values | go_skip | go_guarded | go_step | go_upon)
          refine ⟨⟨k + 1, by omega, by go_num, ?_, hor8, hT8⟩, by simp [intOf]; omega⟩
          rw [hsu.out, hx.out, ← List.append_assoc, ← List.append_assoc]
          exact hB8
      · have hkn := Lib.hid (show k = n by omega)
        have hk9 := txK_len l k
        repeat (first | go_values | go_skip | go_guarded | go_step | go_upon)
        refine (wb_txt (w.heap.size + 1) (txK l k) 93 _ _ rfl hB (by omega)).mono ?_
        rintro e w3 ⟨rfl, hB3, hb3, ho3⟩
        dsimp only
        repeat (first | go_values | go_skip | go_guarded | go_step | go_upon)
        refine (Tryd.Builder_String_any_k (w.heap.size + 1) (w.heap.size + 1) _ _ hB3 (Nat.le_of_lt (bld_lt hB3))).mono ?_
        rintro e w4 ⟨rfl, hB4, hb4, ho4⟩
        dsimp only
        repeat (first | go_values | go_skip | go_guarded | go_step | go_upon)
        go_ret
        refine ⟨?_, ?_⟩
        · rw [ht.out, ← hkn.out]; rfl
        · exact ((((Below.refl _ _).alloc (Nat.le_refl _) _).alloc (by simp) _).trans ((hbr.trans (hb3.trans hb4)).mono (by omega)))
end Go.Proofs.YtlohpplpnddfaaaDoor
