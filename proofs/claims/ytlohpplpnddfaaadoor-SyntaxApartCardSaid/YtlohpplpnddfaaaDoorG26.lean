/- The walk of the document's Quote. | The walks of the document's literal, blanks and signs. | The walks of the document's blanks and signs. | The walk of the document's five. -/
import Derived.Test.YtlohpplpnddfaaaDoorG25
import Derived.Test.YtlohpplpnddfaaaDoorG24
import Derived.Test.YtlohpplpnddfaaaDoorG7
import Derived.Test.YtlohpplpnddfaaaDoorG3
import Derived.Laws.DeepStrings4
import Derived.Laws.IdiomStrings
import Derived.Lib.VarintMem
import Derived.Laws.BytesString
import Derived.Test.YtlohpplpnddfaaaDoorG11
import Derived.Test.YtlohpplpnddfaaaDoorG2
import Derived.Test.YtlohpplpnddfaaaDoorG0
namespace Go.Proofs.YtlohpplpnddfaaaDoor
open Go.RowKit Go.Sort

set_option maxRecDepth 100000 in
theorem digits_any (n : Nat) (w : World) (h : n < 16) : Calls Tryd.prog 70 #[.int .i64 n] w (Ans (.string ⟨#[hexd n]⟩) w) := by
  have h1 := Lib.hid (hexd_at n h)
  go_enter Tryd.func70, Tryd.ntmps70
  repeat (first | go_values | go_skip | go_guarded | go_step | go_upon)
  go_ret
  refine ⟨?_, (by repeat (first | exact Below.refl _ _ | assumption | refine bal ?_ _ | refine bdr ?_ | refine bdrn ?_ _ | (refine bset ?_ (by first | exact Nat.le_refl _ | (simp; done) | (simp; omega) | omega) _) | refine bstep ?_ (by assumption)))⟩
  rw [← h1.out]
  rfl
theorem own_str {w : World} {B : Nat} {v : Value} {A : List UInt8} (h : w.ownsRow B 5 1 v A.length (Lib.byteCells A)) (hne : A ≠ []) :
    (convert 95 9 v).run Tryd.prog w = .ok (.string ⟨A.toArray⟩) w := by
  have h' := h
  rcases h.2 with ⟨_, h0⟩ | ⟨g, cap, cur, rfl, hB, hg, hn, hm, hs, ht⟩
  · exact absurd (List.eq_nil_of_length_eq_zero h0) hne
  · rw [run_convert_bytes_string _ _ _ 5 _ _ _ Tryd.underlying95 Tryd.underlying5 Tryd.underlying9, run_bytesToString (ns := A.map fun b => (b.toNat : Int)) _ _ _ _ ?_, foldl_push_byteCells]
    · simp
    · have hl := run_loadCells_list (P := Tryd.prog) w ⟨g, 0, none⟩ (Lib.byteCells A) (by
        intro j u hj
        have hlt : j < A.length := by
          have := (List.getElem?_eq_some_iff.1 hj).1
          rwa [Lib.byteCells_length] at this
        have := h'.cellAt j (by omega)
        rw [hj] at this
        by_cases h0 : j = 0
        · subst h0; exact this
        · simpa [Addr.add, h0] using this)
      rw [Lib.byteCells_length] at hl
      rw [hl, Lib.byteCells, List.map_map]
      rfl
theorem byteCells_nat {n : Nat} (h : n < 256) : Lib.byteCells [n.toUInt8] = [.int .u8 (n : Int)] := Lib.byteCells_snoc [] h
set_option maxRecDepth 100000 in
set_option maxHeartbeats 6400000 in
theorem rquote_any (P : ByteArray) (w : World) (hs : P.size ≤ 1048576) : Calls Tryd.prog 44 #[.string P] w (Ans (.string ⟨(quoted (bl P)).toArray⟩) w) := by
  obtain ⟨i0, hi, hz0, hz1, hz2⟩ := info_parts bld_byte
  have hlen := bl_length P
  have HQ := Lib.hid (show quoted (bl P) = quoTo (bl P) P.size ++ [39] by rw [quoted, hlen])
  have hown := Lib.hid (World.ownsRow_nil w w.heap.size 5 1)
  go_enter Tryd.func44, Tryd.ntmps44
  repeat (first | (at_builtin; refine wpList_append_own _ rfl _ _ 95 rfl w.heap.size 5 i0 (.int .u8 0) 1 1 Tryd.underlying95 hi hz0 hz1 hz2 rfl (by decide) _ _ _ rfl (hown.out.alloc _) ⟨w.heap.size, 0, none⟩ 1 1 [.int .u8 39] rfl rfl ?c1 ?c2 ?c3 ?c4 ?c5 ?c6) | go_values | go_skip | go_guarded | go_step | go_upon)
  case c1 =>
    intro j u hj
    match j, hj with
    | 0, hj => simp at hj; subst hj; simp [Addr.add]
  case c2 => intro u hu; simp at hu; subst hu; rfl
  case c3 => unfold maxLen; omega
  case c4 => omega
  case c5 => simp
  case c6 =>
    intro v1 w1 hown1 hgr1 _
    have hb1 : Below w.heap.size w w1 := below_grown (((Below.refl _ _).alloc (Nat.le_refl _) _)) hgr1 (fun j hj => by have := (hown.out.lt j hj).1; first | omega | (simp; done) | (simp; omega))
    repeat (first | go_values | go_skip | go_guarded | go_step | go_upon)
    go_loopw [3, 4] (fun v t wr => ∃ k : Nat, t = .int .i64 (k : Int) ∧ k ≤ P.size ∧ wr.ownsRow w.heap.size 5 1 v (quoTo (bl P) k).length (Lib.byteCells (quoTo (bl P) k)) ∧ Below w.heap.size w wr) (fun _ t _ => P.size - (intOf t).toNat)
    case atStart => exact ⟨0, rfl, Nat.zero_le _, hown1, hb1⟩
    case round =>
      obtain ⟨k, rfl, hk, hO, hb⟩ := hrel
      have hq4 := quoTo_len (bl P) k
      have hzr := hb.size
      rcases Nat.lt_or_ge k P.size with hlt | hge
      · have hv := byteAt_ba hlt
        have h256 := UInt8.toNat_lt P[k]
        have k1 : decide (k < P.size) = true := by simpa using hlt
        have hst : quoTo (bl P) (k + 1) = quoTo (bl P) k ++ qch P[k].toNat := by rw [quoTo, hv]
        rcases qch_kinds P[k].toNat h256 with h | h | h
        · rcases h with h | h | h | h | h
          · have HS := Lib.hid (hst.trans (by rw [h, show qch 10 = [92, 110] from rfl]))
            have m10 : ((P[k].toNat : Int) == 10) = true := by simp; omega
            clear hv hst h
            repeat (first | (at_builtin; refine Lib.wpList_append_own_string _ rfl _ _ 95 9 rfl w.heap.size 5 i0 Tryd.underlying95 Tryd.underlying9 hi hz0 hz1 hz2 _ _ _ rfl hO ⟨#[92, 110]⟩ rfl ?c3 ?c4 ?c5 ?c6) | go_values | go_skip | go_guarded | go_step | go_upon)
            case c3 => show (quoTo (bl P) k).length + 2 ≤ maxLen; unfold maxLen; omega
            case c4 => show (quoTo (bl P) k).length + 2 ≤ 140737488355328; omega
            case c5 => omega
            case c6 =>
              intro v3 w3 hown3 hgr3 _
              have hb3 : Below w.heap.size w w3 := below_grown hb hgr3 (fun j hj => (hO.lt j hj).1)
              repeat (first | go_values | go_skip | go_guarded | go_step | go_upon)
              refine ⟨⟨k + 1, by go_num, by omega, ?_, hb3⟩, by simp [intOf]; omega⟩
              rw [HS.out, List.length_append, Lib.byteCells_append]
              exact hown3
          · have HS := Lib.hid (hst.trans (by rw [h, show qch 13 = [92, 114] from rfl]))
            have m10 : ((P[k].toNat : Int) == 10) = false := by simp; omega
            have m13 : ((P[k].toNat : Int) == 13) = true := by simp; omega
            clear hv hst h
            repeat (first | (at_builtin; refine Lib.wpList_append_own_string _ rfl _ _ 95 9 rfl w.heap.size 5 i0 Tryd.underlying95 Tryd.underlying9 hi hz0 hz1 hz2 _ _ _ rfl hO ⟨#[92, 114]⟩ rfl ?c3 ?c4 ?c5 ?c6) | go_values | go_skip | go_guarded | go_step | go_upon)
            case c3 => show (quoTo (bl P) k).length + 2 ≤ maxLen; unfold maxLen; omega
            case c4 => show (quoTo (bl P) k).length + 2 ≤ 140737488355328; omega
            case c5 => omega
            case c6 =>
              intro v3 w3 hown3 hgr3 _
              have hb3 : Below w.heap.size w w3 := below_grown hb hgr3 (fun j hj => (hO.lt j hj).1)
              repeat (first | go_values | go_skip | go_guarded | go_step | go_upon)
              refine ⟨⟨k + 1, by go_num, by omega, ?_, hb3⟩, by simp [intOf]; omega⟩
              rw [HS.out, List.length_append, Lib.byteCells_append]
              exact hown3
          · have HS := Lib.hid (hst.trans (by rw [h, show qch 9 = [92, 116] from rfl]))
            have m10 : ((P[k].toNat : Int) == 10) = false := by simp; omega
            have m13 : ((P[k].toNat : Int) == 13) = false := by simp; omega
            have m9 : ((P[k].toNat : Int) == 9) = true := by simp; omega
            clear hv hst h
            repeat (first | (at_builtin; refine Lib.wpList_append_own_string _ rfl _ _ 95 9 rfl w.heap.size 5 i0 Tryd.underlying95 Tryd.underlying9 hi hz0 hz1 hz2 _ _ _ rfl hO ⟨#[92, 116]⟩ rfl ?c3 ?c4 ?c5 ?c6) | go_values | go_skip | go_guarded | go_step | go_upon)
            case c3 => show (quoTo (bl P) k).length + 2 ≤ maxLen; unfold maxLen; omega
            case c4 => show (quoTo (bl P) k).length + 2 ≤ 140737488355328; omega
            case c5 => omega
            case c6 =>
              intro v3 w3 hown3 hgr3 _
              have hb3 : Below w.heap.size w w3 := below_grown hb hgr3 (fun j hj => (hO.lt j hj).1)
              repeat (first | go_values | go_skip | go_guarded | go_step | go_upon)
              refine ⟨⟨k + 1, by go_num, by omega, ?_, hb3⟩, by simp [intOf]; omega⟩
              rw [HS.out, List.length_append, Lib.byteCells_append]
              exact hown3
          · have HS := Lib.hid (hst.trans (by rw [h, show qch 39 = [92, 39] from rfl]))
            have m10 : ((P[k].toNat : Int) == 10) = false := by simp; omega
            have m13 : ((P[k].toNat : Int) == 13) = false := by simp; omega
            have m9 : ((P[k].toNat : Int) == 9) = false := by simp; omega
            have m39 : ((P[k].toNat : Int) == 39) = true := by simp; omega
            have hx : (P[k].toNat : Int) = 39 := by omega
            clear hv hst h
            repeat (first | (at_builtin; refine wpList_append_own _ rfl _ _ 95 rfl w.heap.size 5 i0 (.int .u8 0) 1 1 Tryd.underlying95 hi hz0 hz1 hz2 rfl (by decide) _ _ _ rfl (hO.alloc _) ⟨_, 0, none⟩ 2 2 [.int .u8 (92), .int .u8 (39)] rfl rfl ?c1 ?c2 ?c3 ?c4 ?c5 ?c6) | go_values | go_skip | go_guarded | go_step | go_upon)
            case c1 =>
              intro j u hj
              match j, hj with
              | 0, hj => simp at hj; subst hj; simp [Addr.add]
              | 1, hj => simp at hj; subst hj; simp [Addr.add]
            case c2 => intro u hu; simp at hu; (first | (rcases hu with rfl | rfl <;> rfl) | (subst hu; rfl))
            case c3 => unfold maxLen; omega
            case c4 => omega
            case c5 => simp; omega
            case c6 =>
              intro v3 w3 hown3 hgr3 _
              have hb3 : Below w.heap.size w w3 := below_grown (hb.alloc (by omega) _) hgr3 (fun j hj => by have := (hO.lt j hj).1; first | omega | (simp; done) | (simp; omega))
              repeat (first | go_values | go_skip | go_guarded | go_step | go_upon)
              refine ⟨⟨k + 1, by go_num, by omega, ?_, hb3⟩, by simp [intOf]; omega⟩
              rw [HS.out, List.length_append, Lib.byteCells_append]
              exact hown3
          · have HS := Lib.hid (hst.trans (by rw [h, show qch 92 = [92, 92] from rfl]))
            have m10 : ((P[k].toNat : Int) == 10) = false := by simp; omega
            have m13 : ((P[k].toNat : Int) == 13) = false := by simp; omega
            have m9 : ((P[k].toNat : Int) == 9) = false := by simp; omega
            have m39 : ((P[k].toNat : Int) == 39) = false := by simp; omega
            have m92 : ((P[k].toNat : Int) == 92) = true := by simp; omega
            have hx : (P[k].toNat : Int) = 92 := by omega
            clear hv hst h
            repeat (first | (at_builtin; refine wpList_append_own _ rfl _ _ 95 rfl w.heap.size 5 i0 (.int .u8 0) 1 1 Tryd.underlying95 hi hz0 hz1 hz2 rfl (by decide) _ _ _ rfl (hO.alloc _) ⟨_, 0, none⟩ 2 2 [.int .u8 (92), .int .u8 (92)] rfl rfl ?c1 ?c2 ?c3 ?c4 ?c5 ?c6) | go_values | go_skip | go_guarded | go_step | go_upon)
            case c1 =>
              intro j u hj
              match j, hj with
              | 0, hj => simp at hj; subst hj; simp [Addr.add]
              | 1, hj => simp at hj; subst hj; simp [Addr.add]
            case c2 => intro u hu; simp at hu; (first | (rcases hu with rfl | rfl <;> rfl) | (subst hu; rfl))
            case c3 => unfold maxLen; omega
            case c4 => omega
            case c5 => simp; omega
            case c6 =>
              intro v3 w3 hown3 hgr3 _
              have hb3 : Below w.heap.size w w3 := below_grown (hb.alloc (by omega) _) hgr3 (fun j hj => by have := (hO.lt j hj).1; first | omega | (simp; done) | (simp; omega))
              repeat (first | go_values | go_skip | go_guarded | go_step | go_upon)
              refine ⟨⟨k + 1, by go_num, by omega, ?_, hb3⟩, by simp [intOf]; omega⟩
              rw [HS.out, List.length_append, Lib.byteCells_append]
              exact hown3
        · have HS := Lib.hid (hst.trans (by rw [qch_plain h]))
          have m10 : ((P[k].toNat : Int) == 10) = false := by simp; omega
          have m13 : ((P[k].toNat : Int) == 13) = false := by simp; omega
          have m9 : ((P[k].toNat : Int) == 9) = false := by simp; omega
          have m39 : ((P[k].toNat : Int) == 39) = false := by simp; omega
          have m92 : ((P[k].toNat : Int) == 92) = false := by simp; omega
          have d1 : decide ((32 : Int) ≤ P[k].toNat) = true := by simp; omega
          have d2 : decide ((P[k].toNat : Int) ≤ 126) = true := by simp; omega
          clear hv hst h
          repeat (first | (at_builtin; refine wpList_append_own _ rfl _ _ 95 rfl w.heap.size 5 i0 (.int .u8 0) 1 1 Tryd.underlying95 hi hz0 hz1 hz2 rfl (by decide) _ _ _ rfl (hO.alloc _) ⟨_, 0, none⟩ 1 1 [.int .u8 (P[k].toNat)] rfl rfl ?c1 ?c2 ?c3 ?c4 ?c5 ?c6) | go_values | go_skip | go_guarded | go_step | go_upon)
          case c1 =>
            intro j u hj
            match j, hj with
            | 0, hj => simp at hj; subst hj; simp [Addr.add]
          case c2 => intro u hu; simp at hu; (first | (rcases hu with rfl | rfl <;> rfl) | (subst hu; rfl))
          case c3 => unfold maxLen; omega
          case c4 => omega
          case c5 => simp; omega
          case c6 =>
            intro v3 w3 hown3 hgr3 _
            have hb3 : Below w.heap.size w w3 := below_grown (hb.alloc (by omega) _) hgr3 (fun j hj => by have := (hO.lt j hj).1; first | omega | (simp; done) | (simp; omega))
            repeat (first | go_values | go_skip | go_guarded | go_step | go_upon)
            refine ⟨⟨k + 1, by go_num, by omega, ?_, hb3⟩, by simp [intOf]; omega⟩
            rw [HS.out, List.length_append, Lib.byteCells_append]
            rw [byteCells_nat h256]
            exact hown3
        · have HS := Lib.hid (hst.trans (by rw [qch_hex h]))
          have m10 : ((P[k].toNat : Int) == 10) = false := by simp; omega
          have m13 : ((P[k].toNat : Int) == 13) = false := by simp; omega
          have m9 : ((P[k].toNat : Int) == 9) = false := by simp; omega
          have m39 : ((P[k].toNat : Int) == 39) = false := by simp; omega
          have m92 : ((P[k].toNat : Int) == 92) = false := by simp; omega
          have hdd : (decide ((32 : Int) ≤ P[k].toNat) = false) ∨ (decide ((32 : Int) ≤ P[k].toNat) = true ∧ decide ((P[k].toNat : Int) ≤ 126) = false) := by
            simp only [decide_eq_true_eq, decide_eq_false_iff_not]; omega
          have e1 : Int.tdiv (P[k].toNat : Int) 16 = ((P[k].toNat / 16 : Nat) : Int) := by rfl
          have e2 : Int.tmod (P[k].toNat : Int) 16 = ((P[k].toNat % 16 : Nat) : Int) := by rfl
          have b1 : P[k].toNat / 16 < 16 := by omega
          have b2 : P[k].toNat % 16 < 16 := by omega
          clear hv h hst
          generalize P[k].toNat / 16 = p at *
          generalize P[k].toNat % 16 = q at *
          rcases hdd with d1 | ⟨d1, d2⟩
          all_goals
            repeat (first | go_values | go_skip | go_guarded | go_step | go_upon)
            refine (digits_any p _ b1).mono ?_
            rintro e w2 ⟨rfl, hb2⟩
            dsimp only
            repeat (first | go_values | go_skip | go_guarded | go_step | go_upon)
            refine (digits_any q _ b2).mono ?_
            rintro e w3 ⟨rfl, hb3⟩
            dsimp only
            have hO3 := owns_below (owns_below hO hb2) hb3
            have hbb : Below w.heap.size w w3 := bstep (bstep hb hb2) hb3
            repeat (first | (at_builtin; refine Lib.wpList_append_own_string _ rfl _ _ 95 9 rfl w.heap.size 5 i0 Tryd.underlying95 Tryd.underlying9 hi hz0 hz1 hz2 _ _ _ rfl hO3 ⟨#[92, 120, hexd p, hexd q]⟩ rfl ?c3 ?c4 ?c5 ?c6) | go_values | go_skip | go_guarded | go_step | go_upon)
            case c3 => show (quoTo (bl P) k).length + 4 ≤ maxLen; unfold maxLen; omega
            case c4 => show (quoTo (bl P) k).length + 4 ≤ 140737488355328; omega
            case c5 => exact hbb.size
            case c6 =>
              intro v4 w4 hown4 hgr4 _
              have hb4 : Below w.heap.size w w4 := below_grown hbb hgr4 (fun j hj => (hO.lt j hj).1)
              repeat (first | go_values | go_skip | go_guarded | go_step | go_upon)
              refine ⟨⟨k + 1, by go_num, by omega, ?_, hb4⟩, by simp [intOf]; omega⟩
              rw [HS.out, List.length_append, Lib.byteCells_append]
              exact hown4
      · obtain rfl : k = P.size := by omega
        repeat (first | (at_builtin; refine wpList_append_own _ rfl _ _ 95 rfl w.heap.size 5 i0 (.int .u8 0) 1 1 Tryd.underlying95 hi hz0 hz1 hz2 rfl (by decide) _ _ _ rfl (hO.alloc _) ⟨_, 0, none⟩ 1 1 [.int .u8 39] rfl rfl ?c1 ?c2 ?c3 ?c4 ?c5 ?c6) | go_values | go_skip | go_guarded | go_step | go_upon)
        case c1 =>
          intro j u hj
          match j, hj with
          | 0, hj => simp at hj; subst hj; simp [Addr.add]
        case c2 => intro u hu; simp at hu; subst hu; rfl
        case c3 => unfold maxLen; omega
        case c4 => omega
        case c5 => simp; omega
        case c6 =>
          intro v2 w2 hown2 hgr2 _
          have hb2 : Below w.heap.size w w2 := below_grown (hb.alloc (by omega) _) hgr2 (fun j hj => by have := (hO.lt j hj).1; first | omega | (simp; done) | (simp; omega))
          have hO2 : w2.ownsRow w.heap.size 5 1 v2 (quoted (bl P)).length (Lib.byteCells (quoted (bl P))) := by
            rw [HQ.out, List.length_append, Lib.byteCells_append]
            exact hown2
          have hcv := own_str hO2 (by rw [HQ.out]; simp)
          repeat (first | go_values | go_skip | go_guarded | go_step | go_upon)
          go_ret
          exact ⟨rfl, hb2⟩
end Go.Proofs.YtlohpplpnddfaaaDoor
namespace Go.Proofs.YtlohpplpnddfaaaDoor
open Go.RowKit Go.Sort

theorem own_str0 {w : World} {B : Nat} {v : Value} {A : List UInt8} (h : w.ownsRow B 5 1 v A.length (Lib.byteCells A)) :
    (convert 95 9 v).run Tryd.prog w = .ok (.string (mkS A)) w := by
  by_cases hne : A = []
  · subst hne
    rcases h.2 with ⟨hv, h0⟩ | ⟨g, cap, cur, rfl, hB, hg, hn, hm, hs, ht⟩
    · subst hv
      rw [run_convert_bytes_string _ _ _ 5 _ _ _ Tryd.underlying95 Tryd.underlying5 Tryd.underlying9]
      unfold Conv.bytesToString
      simp [mkS]
      rfl
    · rw [run_convert_bytes_string _ _ _ 5 _ _ _ Tryd.underlying95 Tryd.underlying5 Tryd.underlying9]
      unfold Conv.bytesToString
      simp [loadCells, loadCellsFrom, mkS]
      rfl
  · exact own_str h hne
theorem lesc_code {s : List UInt8} {a e n : Nat} (h : lescAt s a = .inl (e, n)) : e = 3 ∨ e = 4 := by
  have key : ∀ b, wrongAt s b = (e, n) → e = 3 ∨ e = 4 := by
    intro b hb
    unfold wrongAt at hb
    split at hb <;> simp at hb <;> omega
  unfold lescAt at h
  split at h
  · cases h
  split at h
  · cases h
  split at h
  · cases h
  split at h
  · cases h
  split at h
  · unfold hexAt at h
    split at h
    · exact key _ (Sum.inl.inj h)
    · unfold lowAt at h
      split at h
      · exact key _ (Sum.inl.inj h)
      · cases h
  · exact key _ (Sum.inl.inj h)
theorem lch_code {s : List UInt8} {a e n : Nat} (h : lchAt s a = .inl (e, n)) : e = 3 ∨ e = 4 := by
  unfold lchAt at h
  split at h
  · exact lesc_code h
  split at h
  · simp at h; omega
  · cases h
/-- What the document's literal answers. -/
def gotS : Got (List UInt8) → Value
  | .inr (l, n) => .tuple #[.string (mkS l), .int .i64 (n : Int), .int .i64 0]
  | .inl (e, n) => .tuple #[.string ⟨#[]⟩, .int .i64 (n : Int), .int .i64 (e : Int)]
set_option maxRecDepth 100000 in
set_option maxHeartbeats 6400000 in
theorem rlit_any (S : ByteArray) (a : Nat) (w : World) (hs : S.size ≤ 100000) (ha : a < S.size) :
    Calls Tryd.prog 93 #[.string S, .int .i64 (a : Int)] w (Ans (gotS (litGo (bl S) S[a].toNat a ((bl S).length + 1) (a + 1) [])) w) := by
  obtain ⟨i0, hi, hz0, hz1, hz2⟩ := info_parts bld_byte
  have hlen := bl_length S
  have hs2 : S.size ≤ 140737488355328 := by omega
  generalize hG : litGo (bl S) S[a].toNat a ((bl S).length + 1) (a + 1) [] = G
  have HG := Lib.hid hG
  clear hG
  go_enter Tryd.func93, Tryd.ntmps93
  repeat (first | go_values | go_skip | go_guarded | go_step | go_upon)
  go_loopw [8, 9] (fun v t wr => ∃ (f k : Nat) (acc : List UInt8), t = .int .i64 (k : Int) ∧ wr.ownsRow w.heap.size 5 1 v acc.length (Lib.byteCells acc) ∧ Below w.heap.size w wr ∧ Hid (litGo (bl S) S[a].toNat a f k acc = G) ∧ (bl S).length < f + k ∧ acc.length ≤ 255 ∧ k ≤ S.size) (fun _ t _ => S.size + 1 - (intOf t).toNat)
  case atStart => exact ⟨_, a + 1, [], by go_num, World.ownsRow_nil _ _ _ _, Below.refl _ _, HG, by omega, by simp, by omega⟩
  case round =>
    obtain ⟨f, k, acc, rfl, hO, hb, hG, hf, hacc, hk⟩ := hrel
    obtain ⟨f, rfl⟩ : ∃ g, f = g + 1 := ⟨f - 1, by omega⟩
    rcases Nat.lt_or_ge k S.size with hlk | hge
    · have hv := byteAt_ba hlk
      have h256 := UInt8.toNat_lt S[k]
      have k1 : decide (k < S.size) = true := by simpa using hlk
      by_cases hx : S[k].toNat = S[a].toNat
      · have HX := Lib.hid (show G = .inr (acc, k + 1) by rw [← hG.out, lit_end (by omega) (by rw [hv]; exact hx)])
        have m1 : ((S[k].toNat : Int) == (S[a].toNat : Int)) = true := by simp; omega
        have m2 : ((S[k].toNat : Int) != (S[a].toNat : Int)) = false := by simp; omega
        have k2 : decide (S.size ≤ k) = false := by simp; omega
        have hcv := own_str0 hO
        clear hx hv
        repeat (first | go_values | go_skip | go_guarded | go_step | go_upon)
        go_ret3
        rw [HX.out]
        exact ⟨rfl, hb⟩
      · have m1 : ((S[k].toNat : Int) == (S[a].toNat : Int)) = false := by simp; omega
        have m2 : ((S[k].toNat : Int) != (S[a].toNat : Int)) = true := by simp; omega
        cases hc : lchAt (bl S) k with
        | inl er =>
          obtain ⟨ec, en⟩ := er
          have HX := Lib.hid (show G = .inl (ec, en) by rw [← hG.out, lit_bad (by omega) (by rw [hv]; exact hx) hc])
          have HC := Lib.hid hc
          have hcode := lch_code hc
          have k5 : ((ec : Int) != 0) = true := by simp; omega
          have k6 : ((ec : Int) == 0) = false := by simp; omega
          clear hx hv hc
          repeat (first | go_values | go_skip | go_guarded | go_step | go_upon)
          refine (lsign_no S k _ hs2 hlk HC.out).mono ?_
          rintro e w5 ⟨rfl, hb5⟩
          dsimp only
          repeat (first | go_values | go_skip | go_guarded | go_step | go_upon)
          go_ret3
          rw [HX.out]
          exact ⟨rfl, bstep hb hb5⟩
        | inr q =>
          obtain ⟨c, n⟩ := q
          have bd := lchAt_bd hc
          have HC := Lib.hid hc
          by_cases h255 : acc.length = 255
          · have HX := Lib.hid (show G = .inl (2, a) by rw [← hG.out, lit_long (by omega) (by rw [hv]; exact hx) hc h255])
            have d5 : ((acc.length : Int) == 255) = true := by simp; omega
            rcases owns_form2 hO with ⟨h0, _⟩ | ⟨g, cap, hvv⟩
            · omega
            subst hvv
            clear hx hv hc h255
            repeat (first | go_values | go_skip | go_guarded | go_step | go_upon)
            refine (lsign_ok S k _ hs2 hlk HC.out).mono ?_
            rintro e w5 ⟨rfl, hb5⟩
            dsimp only
            repeat (first | go_values | go_skip | go_guarded | go_step | go_upon)
            go_ret3
            rw [HX.out]
            exact ⟨rfl, bstep hb hb5⟩
          · have HX := Lib.hid (show litGo (bl S) S[a].toNat a f n (acc ++ [c.toUInt8]) = G by rw [← hG.out, lit_on (by omega) (by rw [hv]; exact hx) hc h255])
            have d5 : ((acc.length : Int) == 255) = false := by simp; omega
            have hfm := owns_form2 hO
            clear hx hv hc
            rcases hfm with ⟨h0, hvv⟩ | ⟨g, cap, hvv⟩
            all_goals
              subst hvv
              repeat (first | go_values | go_skip | go_guarded | go_step | go_upon)
              refine (lsign_ok S k _ hs2 hlk HC.out).mono ?_
              rintro e w5 ⟨rfl, hb5⟩
              have hO5 := owns_below hO hb5
              have hbb : Below w.heap.size w w5 := bstep hb hb5
              dsimp only
              repeat (first | (at_builtin; refine wpList_append_own _ rfl _ _ 95 rfl w.heap.size 5 i0 (.int .u8 0) 1 1 Tryd.underlying95 hi hz0 hz1 hz2 rfl (by decide) _ _ _ rfl (hO5.alloc _) ⟨w5.heap.size, 0, none⟩ 1 1 [.int .u8 (c : Int)] rfl rfl ?c1 ?c2 ?c3 ?c4 ?c5 ?c6) | go_values | go_skip | go_guarded | go_step | go_upon)
              case c1 =>
                intro j u hj
                match j, hj with
                | 0, hj => simp at hj; subst hj; simp [Addr.add]
              case c2 => intro u hu; simp at hu; subst hu; rfl
              case c3 => unfold maxLen; omega
              case c4 => omega
              case c5 => simp; have := hbb.size; omega
              case c6 =>
                intro v3 w3 hown3 hgr3 _
                have hb3 : Below w.heap.size w w3 := below_grown (bal hbb _) hgr3 (fun j hj => by have := (hO5.lt j hj).1; first | omega | (simp; done) | (simp; omega))
                repeat (first | go_values | go_skip | go_guarded | go_step | go_upon)
                refine ⟨⟨f, n, acc ++ [c.toUInt8], rfl, ?_, hb3, HX, by omega, by simp; omega, by omega⟩, by simp [intOf]; omega⟩
                rw [List.length_append, Lib.byteCells_append, byteCells_nat bd.1]
                exact hown3
    · obtain rfl : k = S.size := by omega
      have HX := Lib.hid (show G = .inl (3, S.size) by rw [← hG.out, lit_out (by omega), hlen])
      repeat (first | go_values | go_skip | go_guarded | go_step | go_upon)
      go_ret3
      rw [HX.out]
      exact ⟨rfl, hb⟩
end Go.Proofs.YtlohpplpnddfaaaDoor
namespace Go.Proofs.YtlohpplpnddfaaaDoor
open Go.RowKit Go.Sort

/-- Where the blanks from a place on end. -/
def blkGo (s : List UInt8) : Nat → Nat → Nat
  | 0, a => a
  | f + 1, a => if s.length ≤ a then a else if byteAt s a = 35 then blkGo s f (noteEnd s a) else if isBlank (byteAt s a) then blkGo s f (a + 1) else a
def blkEnd (s : List UInt8) (a : Nat) : Nat := blkGo s (s.length + 1) a
theorem blkGo_le {s : List UInt8} : ∀ {f a : Nat}, a ≤ s.length → a ≤ blkGo s f a ∧ blkGo s f a ≤ s.length := by
  intro f
  induction f with
  | zero => intro a h; exact ⟨Nat.le_refl _, h⟩
  | succ f ih =>
    intro a h
    rw [blkGo]
    split
    · exact ⟨Nat.le_refl _, h⟩
    split
    · next h35 =>
      have b := noteEnd_bd (s := s) (a := a) (by omega) (by omega)
      have := ih b.2
      omega
    split
    · have := ih (a := a + 1) (by omega)
      omega
    · exact ⟨Nat.le_refl _, h⟩
/-- The tokens of a source, from behind the blanks on. -/
theorem toks_blk {s : List UInt8} {acc : List Tok} : ∀ {g f a : Nat}, a ≤ s.length → s.length < g + a → s.length < f + a →
    ∃ f', s.length < f' + blkGo s g a ∧ toksGo s f a acc = toksGo s f' (blkGo s g a) acc ∧ (blkGo s g a < s.length → byteAt s (blkGo s g a) ≠ 35 ∧ isBlank (byteAt s (blkGo s g a)) = false) := by
  intro g
  induction g with
  | zero => intro f a h h1; omega
  | succ g ih =>
    intro f a h h1 h2
    rw [blkGo]
    split
    · exact ⟨f, h2, rfl, fun h3 => by omega⟩
    next hl =>
    obtain ⟨f, rfl⟩ : ∃ j, f = j + 1 := ⟨f - 1, by omega⟩
    split
    · next h35 =>
      have b := noteEnd_bd (s := s) (a := a) (by omega) (by omega)
      rw [toks_note (by omega) h35]
      exact ih b.2 (by omega) (by omega)
    next h35 =>
    split
    · next hb =>
      rw [toks_blank (by omega) h35 hb]
      exact ih (by omega) (by omega) (by omega)
    · next hb => exact ⟨f + 1, h2, rfl, fun _ => ⟨h35, by simpa using hb⟩⟩
theorem noteEnd_is {s : List UInt8} {a k : Nat} (hak : a ≤ k) (hk : k ≤ s.length) (h1 : ∀ j, a ≤ j → j < k → byteAt s j ≠ 10) (h2 : k = s.length ∨ byteAt s k = 10) : noteEnd s a = k := by
  unfold noteEnd
  split
  · next h0 =>
    obtain ⟨n, hn⟩ := Int.eq_ofNat_of_zero_le h0
    rw [hn]
    show a + n = k
    have e1 := (indexByte_some hn).1
    rw [List.getElem?_drop] at e1
    have hin : a + n < s.length := by
      rcases Nat.lt_or_ge (a + n) s.length with h | h
      · exact h
      · rw [List.getElem?_eq_none h] at e1; cases e1
    have e10 : byteAt s (a + n) = 10 := by simp [byteAt, e1]
    rcases Nat.lt_trichotomy (a + n) k with h | h | h
    · exact absurd e10 (h1 _ (by omega) h)
    · exact h
    · exfalso
      rcases h2 with h2 | h2
      · omega
      · have e2 := (indexByte_some hn).2 (k - a) (by omega)
        rw [List.getElem?_drop, show a + (k - a) = k by omega, List.getElem?_eq_getElem (by omega)] at e2
        apply e2
        rw [byteAt_lt (by omega)] at h2
        rw [Option.some.injEq]
        exact UInt8.toNat_inj.1 h2
  · next h0 =>
    have hm : Lib.indexByte (s.drop a) 10 = -1 := by have := Lib.indexByte_ge (s.drop a) 10; omega
    rcases h2 with h2 | h2
    · exact h2.symm
    · exfalso
      have e2 := indexByte_none hm (k - a)
      have hin := byteAt_in (s := s) (a := k) (by omega)
      rw [List.getElem?_drop, show a + (k - a) = k by omega, List.getElem?_eq_getElem hin] at e2
      apply e2
      rw [byteAt_lt hin] at h2
      rw [Option.some.injEq]
      exact UInt8.toNat_inj.1 h2
set_option maxRecDepth 100000 in
set_option maxHeartbeats 3200000 in
theorem blanks_any (S : ByteArray) (a : Nat) (w : World) (hs : S.size ≤ 140737488355328) (ha : a ≤ S.size) : Calls Tryd.prog 67 #[.string S, .int .i64 (a : Int)] w (Ans (.int .i64 (blkEnd (bl S) a : Nat)) w) := by
  have hlen := bl_length S
  generalize hG : blkEnd (bl S) a = G
  have HG := Lib.hid hG
  clear hG
  go_enter Tryd.func67, Tryd.ntmps67
  repeat (first | go_values | go_skip | go_guarded | go_step | go_upon)
  go_loopw [1] (fun t wr => ∃ f k : Nat, t = .int .i64 (k : Int) ∧ k ≤ S.size ∧ (bl S).length < f + k ∧ Hid (blkGo (bl S) f k = G) ∧ Below w.heap.size w wr) (fun t _ => S.size - (intOf t).toNat)
  case atStart => exact ⟨_, a, rfl, ha, by omega, HG, Below.refl _ _⟩
  case round =>
    obtain ⟨f, k, rfl, hk, hf, hg, hb⟩ := hrel
    obtain ⟨f, rfl⟩ : ∃ j, f = j + 1 := ⟨f - 1, by omega⟩
    rcases Nat.lt_or_ge k S.size with hlt | hge
    · have hv := byteAt_ba hlt
      have h256 := UInt8.toNat_lt S[k]
      have k1 : decide (k < S.size) = true := by simpa using hlt
      by_cases h35 : S[k].toNat = 35
      · have m35 : ((S[k].toNat : Int) == 35) = true := by simp; omega
        have HX := Lib.hid (show blkGo (bl S) f (noteEnd (bl S) k) = G by rw [← hg.out, blkGo, if_neg (by omega), if_pos (by rw [hv]; exact h35)])
        have h10 : byteAt (bl S) k ≠ 10 := by rw [hv]; omega
        have hbd := noteEnd_bd (s := bl S) (a := k) (by omega) h10
        clear hv h35
        repeat (first | go_values | go_skip | go_guarded | go_step | go_upon)
        go_loopw [1] (fun t wr => ∃ j : Nat, t = .int .i64 (j : Int) ∧ k ≤ j ∧ j ≤ S.size ∧ Hid (∀ i, k ≤ i → i < j → byteAt (bl S) i ≠ 10) ∧ Below w.heap.size w wr) (fun t _ => S.size - (intOf t).toNat)
        case atStart => exact ⟨k, rfl, by omega, by omega, Lib.hid (fun i h1 h2 => by omega), hb⟩
        case round =>
          obtain ⟨j, rfl, hkj, hj, hall, hb2⟩ := hrel
          rcases Nat.lt_or_ge j S.size with hjl | hjg
          · have hvj := byteAt_ba hjl
            have h256j := UInt8.toNat_lt S[j]
            have k3 : decide (j < S.size) = true := by simpa using hjl
            by_cases h10j : S[j].toNat = 10
            · have m10 : ((S[j].toNat : Int) != 10) = false := by simp; omega
              have HE := Lib.hid (show blkGo (bl S) f j = G by rw [← HX.out, noteEnd_is hkj (by omega) hall.out (.inr (by rw [hvj]; exact h10j))])
              have hkj2 : k < j := by
                rcases Nat.lt_or_ge k j with h | h
                · exact h
                · obtain rfl : k = j := by omega
                  rw [hvj] at h10; exact absurd h10j h10
              clear hvj h10j h10 hbd
              repeat (first | go_values | go_skip | go_guarded | go_step | go_upon)
              exact ⟨⟨f, j, rfl, hj, by omega, HE, hb2⟩, by simp [intOf]; omega⟩
            · have m10 : ((S[j].toNat : Int) != 10) = true := by simp; omega
              have HC := Lib.hid (show ∀ i, k ≤ i → i < j + 1 → byteAt (bl S) i ≠ 10 from fun i h1 h2 => by
                by_cases e : i = j
                · subst e; rw [hvj]; exact h10j
                · exact hall.out i h1 (by omega))
              clear hvj h10j
              repeat (first | go_values | go_skip | go_guarded | go_step | go_upon)
              exact ⟨⟨j + 1, by go_num, by omega, by omega, HC, hb2⟩, by simp [intOf]; omega⟩
          · obtain rfl : j = S.size := by omega
            have HE := Lib.hid (show blkGo (bl S) f S.size = G by rw [← HX.out, noteEnd_is hkj (by omega) hall.out (.inl (by omega))])
            clear h10 hbd
            repeat (first | go_values | go_skip | go_guarded | go_step | go_upon)
            exact ⟨⟨f, S.size, rfl, hj, by omega, HE, hb2⟩, by simp [intOf]; omega⟩
      · have m35 : ((S[k].toNat : Int) == 35) = false := by simp; omega
        cases hbk : isBlank S[k].toNat
        · have HX := Lib.hid (show G = k by rw [← hg.out, blkGo, if_neg (by omega), if_neg (by rw [hv]; exact h35), hv, hbk]; rfl)
          have hkk : S[k].toNat ≠ 9 ∧ S[k].toNat ≠ 10 ∧ S[k].toNat ≠ 13 ∧ S[k].toNat ≠ 32 := by unfold isBlank at hbk; simp at hbk; omega
          have m9 : ((S[k].toNat : Int) == 9) = false := by simp; omega
          have m10 : ((S[k].toNat : Int) == 10) = false := by simp; omega
          have m13 : ((S[k].toNat : Int) == 13) = false := by simp; omega
          have m32 : ((S[k].toNat : Int) == 32) = false := by simp; omega
          clear hv h35 hbk hkk
          repeat (first | go_values | go_skip | go_guarded | go_step | go_upon)
          go_ret
          rw [HX.out]
          exact ⟨rfl, hb⟩
        · have HX := Lib.hid (show blkGo (bl S) f (k + 1) = G by rw [← hg.out, blkGo, if_neg (by omega), if_neg (by rw [hv]; exact h35), hv, hbk]; rfl)
          have hmm : (((S[k].toNat : Int) == 9) = true) ∨ (((S[k].toNat : Int) == 9) = false ∧ ((S[k].toNat : Int) == 10) = true) ∨ (((S[k].toNat : Int) == 9) = false ∧ ((S[k].toNat : Int) == 10) = false ∧ ((S[k].toNat : Int) == 13) = true) ∨ (((S[k].toNat : Int) == 9) = false ∧ ((S[k].toNat : Int) == 10) = false ∧ ((S[k].toNat : Int) == 13) = false ∧ ((S[k].toNat : Int) == 32) = true) := by
            unfold isBlank at hbk
            simp at hbk
            simp only [beq_iff_eq, beq_eq_false_iff_ne]; omega
          clear hv h35 hbk
          rcases hmm with m9 | ⟨m9, m10⟩ | ⟨m9, m10, m13⟩ | ⟨m9, m10, m13, m32⟩
          all_goals
            repeat (first | go_values | go_skip | go_guarded | go_step | go_upon)
            exact ⟨⟨f, k + 1, by go_num, by omega, by omega, HX, hb⟩, by simp [intOf]; omega⟩
    · obtain rfl : k = S.size := by omega
      have HX := Lib.hid (show G = S.size by rw [← hg.out, blkGo, if_pos (by omega)])
      repeat (first | go_values | go_skip | go_guarded | go_step | go_upon)
      go_ret
      rw [HX.out]
      exact ⟨rfl, hb⟩
theorem sign_list {c : Nat} (h : isSign c = true) : c = 47 ∨ c = 38 ∨ c = 33 ∨ c = 63 ∨ c = 42 ∨ c = 43 ∨ c = 40 ∨ c = 41 ∨ c = 46 := by
  unfold isSign at h; simp at h; omega
theorem sign_not {c : Nat} (h : isSign c = false) : c ≠ 47 ∧ c ≠ 38 ∧ c ≠ 33 ∧ c ≠ 63 ∧ c ≠ 42 ∧ c ≠ 43 ∧ c ≠ 40 ∧ c ≠ 41 ∧ c ≠ 46 := by
  unfold isSign at h; simp at h; omega
set_option maxRecDepth 100000 in
set_option maxHeartbeats 3200000 in
theorem signs_any (c : Nat) (b : Bool) (w : World) (h : isSign c = b) : Calls Tryd.prog 92 #[.int .u8 (c : Int)] w (Ans (.bool b) w) := by
  have q0 : (⟨#[47, 38, 33, 63, 42, 43, 40, 41, 46]⟩ : ByteArray)[0].toNat = 47 := rfl
  have q1 : (⟨#[47, 38, 33, 63, 42, 43, 40, 41, 46]⟩ : ByteArray)[1].toNat = 38 := rfl
  have q2 : (⟨#[47, 38, 33, 63, 42, 43, 40, 41, 46]⟩ : ByteArray)[2].toNat = 33 := rfl
  have q3 : (⟨#[47, 38, 33, 63, 42, 43, 40, 41, 46]⟩ : ByteArray)[3].toNat = 63 := rfl
  have q4 : (⟨#[47, 38, 33, 63, 42, 43, 40, 41, 46]⟩ : ByteArray)[4].toNat = 42 := rfl
  have q5 : (⟨#[47, 38, 33, 63, 42, 43, 40, 41, 46]⟩ : ByteArray)[5].toNat = 43 := rfl
  have q6 : (⟨#[47, 38, 33, 63, 42, 43, 40, 41, 46]⟩ : ByteArray)[6].toNat = 40 := rfl
  have q7 : (⟨#[47, 38, 33, 63, 42, 43, 40, 41, 46]⟩ : ByteArray)[7].toNat = 41 := rfl
  have q8 : (⟨#[47, 38, 33, 63, 42, 43, 40, 41, 46]⟩ : ByteArray)[8].toNat = 46 := rfl
  cases b
  · obtain ⟨n1, n2, n3, n4, n5, n6, n7, n8, n9⟩ := sign_not h
    have m1 : ((47 : Int) == c) = false := by rw [beq_eq_false_iff_ne]; omega
    have m2 : ((38 : Int) == c) = false := by rw [beq_eq_false_iff_ne]; omega
    have m3 : ((33 : Int) == c) = false := by rw [beq_eq_false_iff_ne]; omega
    have m4 : ((63 : Int) == c) = false := by rw [beq_eq_false_iff_ne]; omega
    have m5 : ((42 : Int) == c) = false := by rw [beq_eq_false_iff_ne]; omega
    have m6 : ((43 : Int) == c) = false := by rw [beq_eq_false_iff_ne]; omega
    have m7 : ((40 : Int) == c) = false := by rw [beq_eq_false_iff_ne]; omega
    have m8 : ((41 : Int) == c) = false := by rw [beq_eq_false_iff_ne]; omega
    have m9 : ((46 : Int) == c) = false := by rw [beq_eq_false_iff_ne]; omega
    clear h n1 n2 n3 n4 n5 n6 n7 n8 n9
    go_enter Tryd.func92, Tryd.ntmps92
    repeat (first | go_values | go_skip | go_guarded | go_step | go_upon)
    refine wp_loop_rounds 10 ?_
    iterate 10
      rw [rounds_succ]
      repeat (first | go_values | go_skip | go_guarded | go_step | go_upon)
    go_ret
    exact ⟨rfl, (by repeat (first | exact Below.refl _ _ | assumption | refine bal ?_ _ | refine bdr ?_ | refine bdrn ?_ _ | (refine bset ?_ (by first | exact Nat.le_refl _ | (simp; done) | (simp; omega) | omega) _) | refine bstep ?_ (by assumption)))⟩
  · rcases sign_list h with rfl | rfl | rfl | rfl | rfl | rfl | rfl | rfl | rfl
    all_goals
      clear h
      go_enter Tryd.func92, Tryd.ntmps92
      repeat (first | go_values | go_skip | go_guarded | go_step | go_upon)
      refine wp_loop_rounds 10 ?_
      repeat
        rw [rounds_succ]
        repeat (first | go_values | go_skip | go_guarded | go_step | go_upon)
      go_ret
      exact ⟨rfl, (by repeat (first | exact Below.refl _ _ | assumption | refine bal ?_ _ | refine bdr ?_ | refine bdrn ?_ _ | (refine bset ?_ (by first | exact Nat.le_refl _ | (simp; done) | (simp; omega) | omega) _) | refine bstep ?_ (by assumption)))⟩
end Go.Proofs.YtlohpplpnddfaaaDoor
namespace Go.Proofs.YtlohpplpnddfaaaDoor
open Go.RowKit Go.Sort

theorem five_no {b : Nat} (h : fiveB b = false) : ((b : Int) == 91) = false ∧ ((b : Int) == 93) = false ∧ ((b : Int) == 92) = false ∧ ((b : Int) == 45) = false ∧ ((b : Int) == 94) = false := by
  simp [fiveB] at h
  obtain ⟨⟨⟨⟨h1, h2⟩, h3⟩, h4⟩, h5⟩ := h
  refine ⟨?_, ?_, ?_, ?_, ?_⟩ <;> simp <;> omega
set_option maxRecDepth 100000 in
set_option maxHeartbeats 800000 in
theorem five_any (b : Nat) (r : Bool) (w : World) (h : fiveB b = r) : Calls Tryd.prog 81 #[.int .i64 b] w (Ans (.bool r) w) := by
  cases r
  · obtain ⟨h1, h2, h3, h4, h5⟩ := five_no h
    clear h
    go_enter Tryd.func81, Tryd.ntmps81
    repeat (first | go_values | go_skip | go_guarded | go_step | go_upon)
    go_ret
    exact ⟨rfl, (by repeat (first | exact Below.refl _ _ | assumption | refine bal ?_ _ | refine bdr ?_ | refine bdrn ?_ _ | (refine bset ?_ (by first | exact Nat.le_refl _ | (simp; done) | (simp; omega) | omega) _) | refine bstep ?_ (by assumption)))⟩
  · rcases five_list h with rfl | rfl | rfl | rfl | rfl
    all_goals
      clear h
      go_enter Tryd.func81, Tryd.ntmps81
      repeat (first | go_values | go_skip | go_guarded | go_step | go_upon)
      go_ret
      exact ⟨rfl, (by repeat (first | exact Below.refl _ _ | assumption | refine bal ?_ _ | refine bdr ?_ | refine bdrn ?_ _ | (refine bset ?_ (by first | exact Nat.le_refl _ | (simp; done) | (simp; omega) | omega) _) | refine bstep ?_ (by assumption)))⟩
end Go.Proofs.YtlohpplpnddfaaaDoor
