/- The walk of the document's Quote. -/
import Derived.Test.YtlohpplpnddfaaaDoorQuoP
import Derived.Test.YtlohpplpnddfaaaDoorLexR
import Derived.Test.YtlohpplpnddfaaaDoorBldW
import Derived.Test.YtlohpplpnddfaaaDoorTxtW
import Derived.Test.YtlohpplpnddfaaaDoorRdW
import Derived.Laws.DeepStrings4
import Derived.Laws.IdiomStrings
import Derived.Lib.VarintMem
import Derived.Laws.BytesString
namespace Go.Proofs.YtlohpplpnddfaaaDoor
open Go.RowKit Go.Sort

set_option maxRecDepth 100000 in
theorem digits_any (n : Nat) (w : World) (h : n < 16) : Calls Tryd.prog 70 #[.int .i64 n] w (Ans (.string ⟨#[hexd n]⟩) w) := by
  have h1 := Lib.hid (hexd_at n h)
  go_enter Tryd.func70, Tryd.ntmps70
  repeat (first | go_values | go_skip | go_guarded | go_step | go_upon)
  go_ret
  refine ⟨?_, (by repeat (first | exact Below.refl _ _ | assumption | refine bal ?_ _ | refine bdr ?_ | refine bdrn ?_ _ | (refine bset ?_ (by first | exact Nat.le_refl _ | (simp; done) | (simp; omega) | omega) _) | refine bstep ?_ (by assumption)))⟩
  rw [← h1.out]
  rfl
theorem own_str {w : World} {B : Nat} {v : Value} {A : List UInt8} (h : w.ownsRow B 5 1 v A.length (Lib.byteCells A)) (hne : A ≠ []) :
    (convert 95 9 v).run Tryd.prog w = .ok (.string ⟨A.toArray⟩) w := by
  have h' := h
  rcases h.2 with ⟨_, h0⟩ | ⟨g, cap, cur, rfl, hB, hg, hn, hm, hs, ht⟩
  · exact absurd (List.eq_nil_of_length_eq_zero h0) hne
  · rw [run_convert_bytes_string _ _ _ 5 _ _ _ Tryd.underlying95 Tryd.underlying5 Tryd.underlying9, run_bytesToString (ns := A.map fun b => (b.toNat : Int)) _ _ _ _ ?_, foldl_push_byteCells]
    · simp
    · have hl := run_loadCells_list (P := Tryd.prog) w ⟨g, 0, none⟩ (Lib.byteCells A) (by
        intro j u hj
        have hlt : j < A.length := by
          have := (List.getElem?_eq_some_iff.1 hj).1
          rwa [Lib.byteCells_length] at this
        have := h'.cellAt j (by omega)
        rw [hj] at this
        by_cases h0 : j = 0
        · subst h0; exact this
        · simpa [Addr.add, h0] using this)
      rw [Lib.byteCells_length] at hl
      rw [hl, Lib.byteCells, List.map_map]
      rfl
theorem byteCells_nat {n : Nat} (h : n < 256) : Lib.byteCells [n.toUInt8] = [.int .u8 (n : Int)] := Lib.byteCells_snoc [] h
set_option maxRecDepth 100000 in
set_option maxHeartbeats 6400000 in
theorem rquote_any (P : ByteArray) (w : World) (hs : P.size ≤ 1048576) : Calls Tryd.prog 44 #[.string P] w (Ans (.string ⟨(quoted (bl P)).toArray⟩) w) := by
  obtain ⟨i0, hi, hz0, hz1, hz2⟩ := info_parts bld_byte
  have hlen := bl_length P
  have HQ := Lib.hid (show quoted (bl P) = quoTo (bl P) P.size ++ [39] by rw [quoted, hlen])
  have hown := Lib.hid (World.ownsRow_nil w w.heap.size 5 1)
  go_enter Tryd.func44, Tryd.ntmps44
  repeat (first | (at_builtin; refine wpList_append_own _ rfl _ _ 95 rfl w.heap.size 5 i0 (.int .u8 0) 1 1 Tryd.underlying95 hi hz0 hz1 hz2 rfl (by decide) _ _ _ rfl (hown.out.alloc _) ⟨w.heap.size, 0, none⟩ 1 1 [.int .u8 39] rfl rfl ?c1 ?c2 ?c3 ?c4 ?c5 ?c6) | go_values | go_skip | go_guarded | go_step | go_upon)
  case c1 =>
    intro j u hj
    match j, hj with
    | 0, hj => simp at hj; subst hj; simp [Addr.add]
  case c2 => intro u hu; simp at hu; subst hu; rfl
  case c3 => unfold maxLen; omega
  case c4 => omega
  case c5 => simp
  case c6 =>
    intro v1 w1 hown1 hgr1 _
    have hb1 : Below w.heap.size w w1 := below_grown (((Below.refl _ _).alloc (Nat.le_refl _) _)) hgr1 (fun j hj => by have := (hown.out.lt j hj).1; first | omega | (simp; done) | (simp; omega))
    repeat (first | go_values | go_skip | go_guarded | go_step | go_upon)
    go_loopw [3, 4] (fun v t wr => ∃ k : Nat, t = .int .i64 (k : Int) ∧ k ≤ P.size ∧ wr.ownsRow w.heap.size 5 1 v (quoTo (bl P) k).length (Lib.byteCells (quoTo (bl P) k)) ∧ Below w.heap.size w wr) (fun _ t _ => P.size - (intOf t).toNat)
    case atStart => exact ⟨0, rfl, Nat.zero_le _, hown1, hb1⟩
    case round =>
      obtain ⟨k, rfl, hk, hO, hb⟩ := hrel
      have hq4 := quoTo_len (bl P) k
      have hzr := hb.size
      rcases Nat.lt_or_ge k P.size with hlt | hge
      · have hv := byteAt_ba hlt
        have h256 := UInt8.toNat_lt P[k]
        have k1 : decide (k < P.size) = true := by simpa using hlt
        have hst : quoTo (bl P) (k + 1) = quoTo (bl P) k ++ qch P[k].toNat := by rw [quoTo, hv]
        rcases qch_kinds P[k].toNat h256 with h | h | h
        · rcases h with h | h | h | h | h
          · have HS := Lib.hid (hst.trans (by rw [h, show qch 10 = [92, 110] from rfl]))
            have m10 : ((P[k].toNat : Int) == 10) = true := by simp; omega
            clear hv hst h
            repeat (first | (at_builtin; refine Lib.wpList_append_own_string _ rfl _ _ 95 9 rfl w.heap.size 5 i0 Tryd.underlying95 Tryd.underlying9 hi hz0 hz1 hz2 _ _ _ rfl hO ⟨#[92, 110]⟩ rfl ?c3 ?c4 ?c5 ?c6) | go_values | go_skip | go_guarded | go_step | go_upon)
            case c3 => show (quoTo (bl P) k).length + 2 ≤ maxLen; unfold maxLen; omega
            case c4 => show (quoTo (bl P) k).length + 2 ≤ 140737488355328; omega
            case c5 => omega
            case c6 =>
              intro v3 w3 hown3 hgr3 _
              have hb3 : Below w.heap.size w w3 := below_grown hb hgr3 (fun j hj => (hO.lt j hj).1)
              repeat (first | go_values | go_skip | go_guarded | go_step | go_upon)
              refine ⟨⟨k + 1, by go_num, by omega, ?_, hb3⟩, by simp [intOf]; omega⟩
              rw [HS.out, List.length_append, Lib.byteCells_append]
              exact hown3
          · have HS := Lib.hid (hst.trans (by rw [h, show qch 13 = [92, 114] from rfl]))
            have m10 : ((P[k].toNat : Int) == 10) = false := by simp; omega
            have m13 : ((P[k].toNat : Int) == 13) = true := by simp; omega
            clear hv hst h
            repeat (first | (at_builtin; refine Lib.wpList_append_own_string _ rfl _ _ 95 9 rfl w.heap.size 5 i0 Tryd.underlying95 Tryd.underlying9 hi hz0 hz1 hz2 _ _ _ rfl hO ⟨#[92, 114]⟩ rfl ?c3 ?c4 ?c5 ?c6) | go_values | go_skip | go_guarded | go_step | go_upon)
            case c3 => show (quoTo (bl P) k).length + 2 ≤ maxLen; unfold maxLen; omega
            case c4 => show (quoTo (bl P) k).length + 2 ≤ 140737488355328; omega
            case c5 => omega
            case c6 =>
              intro v3 w3 hown3 hgr3 _
              have hb3 : Below w.heap.size w w3 := below_grown hb hgr3 (fun j hj => (hO.lt j hj).1)
              repeat (first | go_values | go_skip | go_guarded | go_step | go_upon)
              refine ⟨⟨k + 1, by go_num, by omega, ?_, hb3⟩, by simp [intOf]; omega⟩
              rw [HS.out, List.length_append, Lib.byteCells_append]
              exact hown3
          · have HS := Lib.hid (hst.trans (by rw [h, show qch 9 = [92, 116] from rfl]))
            have m10 : ((P[k].toNat : Int) == 10) = false := by simp; omega
            have m13 : ((P[k].toNat : Int) == 13) = false := by simp; omega
            have m9 : ((P[k].toNat : Int) == 9) = true := by simp; omega
            clear hv hst h
            repeat (first | (at_builtin; refine Lib.wpList_append_own_string _ rfl _ _ 95 9 rfl w.heap.size 5 i0 Tryd.underlying95 Tryd.underlying9 hi hz0 hz1 hz2 _ _ _ rfl hO ⟨#[92, 116]⟩ rfl ?c3 ?c4 ?c5 ?c6) | go_values | go_skip | go_guarded | go_step | go_upon)
            case c3 => show (quoTo (bl P) k).length + 2 ≤ maxLen; unfold maxLen; omega
            case c4 => show (quoTo (bl P) k).length + 2 ≤ 140737488355328; omega
            case c5 => omega
            case c6 =>
              intro v3 w3 hown3 hgr3 _
              have hb3 : Below w.heap.size w w3 := below_grown hb hgr3 (fun j hj => (hO.lt j hj).1)
              repeat (first | go_values | go_skip | go_guarded | go_step | go_upon)
              refine ⟨⟨k + 1, by go_num, by omega, ?_, hb3⟩, by simp [intOf]; omega⟩
              rw [HS.out, List.length_append, Lib.byteCells_append]
              exact hown3
          · have HS := Lib.hid (hst.trans (by rw [h, show qch 39 = [92, 39] from rfl]))
            have m10 : ((P[k].toNat : Int) == 10) = false := by simp; omega
            have m13 : ((P[k].toNat : Int) == 13) = false := by simp; omega
            have m9 : ((P[k].toNat : Int) == 9) = false := by simp; omega
            have m39 : ((P[k].toNat : Int) == 39) = true := by simp; omega
            have hx : (P[k].toNat : Int) = 39 := by omega
            clear hv hst h
            repeat (first | (at_builtin; refine wpList_append_own _ rfl _ _ 95 rfl w.heap.size 5 i0 (.int .u8 0) 1 1 Tryd.underlying95 hi hz0 hz1 hz2 rfl (by decide) _ _ _ rfl (hO.alloc _) ⟨_, 0, none⟩ 2 2 [.int .u8 (92), .int .u8 (39)] rfl rfl ?c1 ?c2 ?c3 ?c4 ?c5 ?c6) | go_values | go_skip | go_guarded | go_step | go_upon)
            case c1 =>
              intro j u hj
              match j, hj with
              | 0, hj => simp at hj; subst hj; simp [Addr.add]
              | 1, hj => simp at hj; subst hj; simp [Addr.add]
            case c2 => intro u hu; simp at hu; (first | (rcases hu with rfl | rfl <;> rfl) | (subst hu; rfl))
            case c3 => unfold maxLen; omega
            case c4 => omega
            case c5 => simp; omega
            case c6 =>
              intro v3 w3 hown3 hgr3 _
              have hb3 : Below w.heap.size w w3 := below_grown (hb.alloc (by omega) _) hgr3 (fun j hj => by have := (hO.lt j hj).1; first | omega | (simp; done) | (simp; omega))
              repeat (first | go_values | go_skip | go_guarded | go_step | go_upon)
              refine ⟨⟨k + 1, by go_num, by omega, ?_, hb3⟩, by simp [intOf]; omega⟩
              rw [HS.out, List.length_append, Lib.byteCells_append]
              exact hown3
          · have HS := Lib.hid (hst.trans (by rw [h, show qch 92 = [92, 92] from rfl]))
            have m10 : ((P[k].toNat : Int) == 10) = false := by simp; omega
            have m13 : ((P[k].toNat : Int) == 13) = false := by simp; omega
            have m9 : ((P[k].toNat : Int) == 9) = false := by simp; omega
            have m39 : ((P[k].toNat : Int) == 39) = false := by simp; omega
            have m92 : ((P[k].toNat : Int) == 92) = true := by simp; omega
            have hx : (P[k].toNat : Int) = 92 := by omega
            clear hv hst h
            repeat (first | (at_builtin; refine wpList_append_own _ rfl _ _ 95 rfl w.heap.size 5 i0 (.int .u8 0) 1 1 Tryd.underlying95 hi hz0 hz1 hz2 rfl (by decide) _ _ _ rfl (hO.alloc _) ⟨_, 0, none⟩ 2 2 [.int .u8 (92), .int .u8 (92)] rfl rfl ?c1 ?c2 ?c3 ?c4 ?c5 ?c6) | go_values | go_skip | go_guarded | go_step | go_upon)
            case c1 =>
              intro j u hj
              match j, hj with
              | 0, hj => simp at hj; subst hj; simp [Addr.add]
              | 1, hj => simp at hj; subst hj; simp [Addr.add]
            case c2 => intro u hu; simp at hu; (first | (rcases hu with rfl | rfl <;> rfl) | (subst hu; rfl))
            case c3 => unfold maxLen; omega
            case c4 => omega
            case c5 => simp; omega
            case c6 =>
              intro v3 w3 hown3 hgr3 _
              have hb3 : Below w.heap.size w w3 := below_grown (hb.alloc (by omega) _) hgr3 (fun j hj => by have := (hO.lt j hj).1; first | omega | (simp; done) | (simp; omega))
              repeat (first | go_values | go_skip | go_guarded | go_step | go_upon)
              refine ⟨⟨k + 1, by go_num, by omega, ?_, hb3⟩, by simp [intOf]; omega⟩
              rw [HS.out, List.length_append, Lib.byteCells_append]
              exact hown3
        · have HS := Lib.hid (hst.trans (by rw [qch_plain h]))
          have m10 : ((P[k].toNat : Int) == 10) = false := by simp; omega
          have m13 : ((P[k].toNat : Int) == 13) = false := by simp; omega
          have m9 : ((P[k].toNat : Int) == 9) = false := by simp; omega
          have m39 : ((P[k].toNat : Int) == 39) = false := by simp; omega
          have m92 : ((P[k].toNat : Int) == 92) = false := by simp; omega
          have d1 : decide ((32 : Int) ≤ P[k].toNat) = true := by simp; omega
          have d2 : decide ((P[k].toNat : Int) ≤ 126) = true := by simp; omega
          clear hv hst h
          repeat (first | (at_builtin; refine wpList_append_own _ rfl _ _ 95 rfl w.heap.size 5 i0 (.int .u8 0) 1 1 Tryd.underlying95 hi hz0 hz1 hz2 rfl (by decide) _ _ _ rfl (hO.alloc _) ⟨_, 0, none⟩ 1 1 [.int .u8 (P[k].toNat)] rfl rfl ?c1 ?c2 ?c3 ?c4 ?c5 ?c6) | go_values | go_skip | go_guarded | go_step | go_upon)
          case c1 =>
            intro j u hj
            match j, hj with
            | 0, hj => simp at hj; subst hj; simp [Addr.add]
          case c2 => intro u hu; simp at hu; (first | (rcases hu with rfl | rfl <;> rfl) | (subst hu; rfl))
          case c3 => unfold maxLen; omega
          case c4 => omega
          case c5 => simp; omega
          case c6 =>
            intro v3 w3 hown3 hgr3 _
            have hb3 : Below w.heap.size w w3 := below_grown (hb.alloc (by omega) _) hgr3 (fun j hj => by have := (hO.lt j hj).1; first | omega | (simp; done) | (simp; omega))
            repeat (first | go_values | go_skip | go_guarded | go_step | go_upon)
            refine ⟨⟨k + 1, by go_num, by omega, ?_, hb3⟩, by simp [intOf]; omega⟩
            rw [HS.out, List.length_append, Lib.byteCells_append]
            rw [byteCells_nat h256]
            exact hown3
        · have HS := Lib.hid (hst.trans (by rw [qch_hex h]))
          have m10 : ((P[k].toNat : Int) == 10) = false := by simp; omega
          have m13 : ((P[k].toNat : Int) == 13) = false := by simp; omega
          have m9 : ((P[k].toNat : Int) == 9) = false := by simp; omega
          have m39 : ((P[k].toNat : Int) == 39) = false := by simp; omega
          have m92 : ((P[k].toNat : Int) == 92) = false := by simp; omega
          have hdd : (decide ((32 : Int) ≤ P[k].toNat) = false) ∨ (decide ((32 : Int) ≤ P[k].toNat) = true ∧ decide ((P[k].toNat : Int) ≤ 126) = false) := by
            simp only [decide_eq_true_eq, decide_eq_false_iff_not]; omega
          have e1 : Int.tdiv (P[k].toNat : Int) 16 = ((P[k].toNat / 16 : Nat) : Int) := by rfl
          have e2 : Int.tmod (P[k].toNat : Int) 16 = ((P[k].toNat % 16 : Nat) : Int) := by rfl
          have b1 : P[k].toNat / 16 < 16 := by omega
          have b2 : P[k].toNat % 16 < 16 := by omega
          clear hv h hst
          generalize P[k].toNat / 16 = p at *
          generalize P[k].toNat % 16 = q at *
          rcases hdd with d1 | ⟨d1, d2⟩
          all_goals
            repeat (first | go_values | go_skip | go_guarded | go_step | go_upon)
            refine (digits_any p _ b1).mono ?_
            rintro e w2 ⟨rfl, hb2⟩
            dsimp only
            repeat (first | go_values | go_skip | go_guarded | go_step | go_upon)
            refine (digits_any q _ b2).mono ?_
            rintro e w3 ⟨rfl, hb3⟩
            dsimp only
            have hO3 := owns_below (owns_below hO hb2) hb3
            have hbb : Below w.heap.size w w3 := bstep (bstep hb hb2) hb3
            repeat (first | (at_builtin; refine Lib.wpList_append_own_string _ rfl _ _ 95 9 rfl w.heap.size 5 i0 Tryd.underlying95 Tryd.underlying9 hi hz0 hz1 hz2 _ _ _ rfl hO3 ⟨#[92, 120, hexd p, hexd q]⟩ rfl ?c3 ?c4 ?c5 ?c6) | go_values | go_skip | go_guarded | go_step | go_upon)
            case c3 => show (quoTo (bl P) k).length + 4 ≤ maxLen; unfold maxLen; omega
            case c4 => show (quoTo (bl P) k).length + 4 ≤ 140737488355328; omega
            case c5 => exact hbb.size
            case c6 =>
              intro v4 w4 hown4 hgr4 _
              have hb4 : Below w.heap.size w w4 := below_grown hbb hgr4 (fun j hj => (hO.lt j hj).1)
              repeat (first | go_values | go_skip | go_guarded | go_step | go_upon)
              refine ⟨⟨k + 1, by go_num, by omega, ?_, hb4⟩, by simp [intOf]; omega⟩
              rw [HS.out, List.length_append, Lib.byteCells_append]
              exact hown4
      · obtain rfl : k = P.size := by omega
        repeat (first | (at_builtin; refine wpList_append_own _ rfl _ _ 95 rfl w.heap.size 5 i0 (.int .u8 0) 1 1 Tryd.underlying95 hi hz0 hz1 hz2 rfl (by decide) _ _ _ rfl (hO.alloc _) ⟨_, 0, none⟩ 1 1 [.int .u8 39] rfl rfl ?c1 ?c2 ?c3 ?c4 ?c5 ?c6) | go_values | go_skip | go_guarded | go_step | go_upon)
        case c1 =>
          intro j u hj
          match j, hj with
          | 0, hj => simp at hj; subst hj; simp [Addr.add]
        case c2 => intro u hu; simp at hu; subst hu; rfl
        case c3 => unfold maxLen; omega
        case c4 => omega
        case c5 => simp; omega
        case c6 =>
          intro v2 w2 hown2 hgr2 _
          have hb2 : Below w.heap.size w w2 := below_grown (hb.alloc (by omega) _) hgr2 (fun j hj => by have := (hO.lt j hj).1; first | omega | (simp; done) | (simp; omega))
          have hO2 : w2.ownsRow w.heap.size 5 1 v2 (quoted (bl P)).length (Lib.byteCells (quoted (bl P))) := by
            rw [HQ.out, List.length_append, Lib.byteCells_append]
            exact hown2
          have hcv := own_str hO2 (by rw [HQ.out]; simp)
          repeat (first | go_values | go_skip | go_guarded | go_step | go_upon)
          go_ret
          exact ⟨rfl, hb2⟩
end Go.Proofs.YtlohpplpnddfaaaDoor
