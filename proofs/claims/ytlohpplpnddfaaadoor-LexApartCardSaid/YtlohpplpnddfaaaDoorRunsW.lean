/- The walk of Runs. -/
import Derived.Test.YtlohpplpnddfaaaDoorClsV
import Derived.Test.YtlohpplpnddfaaaDoorRunsP
import Derived.Test.YtlohpplpnddfaaaDoorEq
import Derived.Deep.Onto
namespace Go.Proofs.YtlohpplpnddfaaaDoor
open Go.RowKit Go.Sort

/-- It answers a slice of its own that holds these cells. -/
def AnsRow (E size n : Nat) (xs : List Value) (w : World) (e : Ending) (w' : World) : Prop := ∃ v, e = .returned v ∧ w'.ownsRow w.heap.size E size v n xs ∧ Below w.heap.size w w'
theorem cells_at {w : World} {b : Nat} {cs : Array Value} {t : TypeId} (h : w.heap[b]? = some (.cells cs t (0, 0))) : (∀ j, w.cell? ⟨b, j, none⟩ = cs[j]?) ∧ (∀ j, w.frozen? ⟨b, j, none⟩ = false) ∧ b < w.heap.size :=
  ⟨fun j => by simp [World.cell?, h], fun j => frozen_of_row w b j cs t h, (Array.getElem?_eq_some_iff.1 h).1⟩
theorem owns_form {w : World} {base : Nat} {e : TypeId} {size : Nat} {v : Value} {n : Nat} {xs : List Value} (h : w.ownsRow base e size v n xs) : (n = 0 ∧ v = .slice none 0 0) ∨ (∃ cap, v = .slice (some ⟨(v.ownBlock).getD 0, 0, none⟩) n cap) := by
  rcases h.2 with ⟨rfl, rfl⟩ | ⟨g, cap, cur, rfl, _⟩
  · exact .inl ⟨rfl, rfl⟩
  · exact .inr ⟨cap, rfl⟩
theorem owns_below {w w' : World} {base : Nat} {e : TypeId} {size : Nat} {v : Value} {n : Nat} {xs : List Value} (h : w.ownsRow base e size v n xs) (hb : Below w.heap.size w w') : w'.ownsRow base e size v n xs :=
  h.kept (row := none) ⟨hb.os, hb.tape, hb.output, hb.size, fun k hk _ => hb.block k hk⟩ (by cases v.ownBlock <;> simp)
theorem below_grown {a w w' : World} {row : Option Nat} (h : Below a.heap.size a w) (hg : w.grownBy w' row) (hr : ∀ k, row = some k → a.heap.size ≤ k) : Below a.heap.size a w' := h.grown hg h.size hr
theorem info_pair : (Tryd.prog.info? 101).map (fun i => (i.zero, i.size, i.bytes)) = some (some (.agg #[.int .i64 0, .int .i64 0]), 2, 16) := by kernel_rfl
theorem next_nat (c : BitVec 256) (k : Nat) (b : Bool) (w : World) (h : k ≤ 256) : Calls Tryd.prog 84 #[.agg #[.int .u64 (wd c 0), .int .u64 (wd c 1), .int .u64 (wd c 2), .int .u64 (wd c 3)], .int .i64 k, .bool b] w (Ans (.int .i64 (nxt c b k)) w) := next_any c k b w (by omega) (by omega)

set_option maxRecDepth 100000 in
set_option maxHeartbeats 1600000 in
theorem runs_any (c : BitVec 256) (w : World) : Calls Tryd.prog 58 #[.agg #[.int .u64 (wd c 0), .int .u64 (wd c 1), .int .u64 (wd c 2), .int .u64 (wd c 3)]] w (AnsRow 101 2 (runs c).length (pairs (runs c)) w) := by
  have f7 := guard_cl
  have f8 : ∀ w, (Op.equalIn 10000 24 (.agg #[.int .u64 (wd c 0), .int .u64 (wd c 1), .int .u64 (wd c 2), .int .u64 (wd c 3)]) (.agg #[.int .u64 0, .int .u64 0, .int .u64 0, .int .u64 0])).run Tryd.prog w = .ok (c == 0#256) w := fun w => by
    have := equal_cl w c 0#256
    rwa [wd_zero, wd_zero, wd_zero, wd_zero] at this
  obtain ⟨i0, iH, iz, is, ib⟩ := info_parts info_pair
  by_cases hc0 : c = 0#256
  · subst hc0
    go_enter Tryd.func58, Tryd.ntmps58
    repeat (first | go_values | go_skip | go_guarded | go_step | go_upon)
    go_ret
    rw [runs_zero]
    exact ⟨_, rfl, World.ownsRow_nil _ _ _ _, (by repeat (first | exact Below.refl _ _ | assumption | refine bal ?_ _ | refine bdr ?_ | refine bdrn ?_ _ | (refine bset ?_ (by first | exact Nat.le_refl _ | (simp; done) | (simp; omega) | omega) _) | refine bstep ?_ (by assumption)))⟩
  · have hb0 : (c == 0#256) = false := by simpa using hc0
    clear hc0
    go_enter Tryd.func58, Tryd.ntmps58
    repeat (first | go_values | go_skip | go_guarded | go_step | go_upon)
    refine (next_nat c 0 true _ (by decide)).mono ?_
    rintro e w1 ⟨rfl, hb1⟩
    obtain ⟨hc1, hf1⟩ := bcell hb1
    have hz1 := hb1.size
    try simp at hz1
    have q1_0 : w.heap.size < w1.heap.size := by omega
    dsimp only
    repeat (first | go_values | go_skip | go_guarded | go_step | go_upon)
    go_loopw [3, 4] (fun v t wr => ∃ (done : List (Nat × Nat)) (f lo : Nat), t = .int .i64 lo ∧ lo ≤ 256 ∧ Hid (done ++ runsF c f lo = runs c) ∧ 256 < f + lo ∧ done.length + f ≤ 257 ∧ (lo < 256 → Has c lo = true) ∧ wr.ownsRow (w.heap.size + 1) 101 2 v done.length (pairs done) ∧ Below (w.alloc (.cells #[.int .u64 (wd c 0), .int .u64 (wd c 1), .int .u64 (wd c 2), .int .u64 (wd c 3)] 24)).heap.size (w.alloc (.cells #[.int .u64 (wd c 0), .int .u64 (wd c 1), .int .u64 (wd c 2), .int .u64 (wd c 3)] 24)) wr) (fun _ t _ => 256 - (intOf t).toNat)
    case atStart => exact ⟨[], 257, nxt c true 0, rfl, nxt_le (by decide), Lib.hid rfl, by omega, by simp, fun h => nxt_has (by decide) h, World.ownsRow_nil _ _ _ _, by assumption⟩
    case round =>
      obtain ⟨done, f, lo, rfl, hlo, hd, hf, hdf, hhas, hown, hb⟩ := hrel
      obtain ⟨hc, hfz⟩ := bcell hb
      have hzr := hb.size
      simp at hzr
      have qr : w.heap.size < wr.heap.size := by omega
      by_cases hlt : lo < 256
      · obtain ⟨f, rfl⟩ : ∃ g, f = g + 1 := ⟨f - 1, by omega⟩
        have hgt := nxt_gt hlt (hhas hlt)
        have hle := nxt_le (c := c) (b := false) hlo
        have hstep := Lib.hid (runs_step (c := c) (f := f) hlt)
        clear hhas
        repeat (first | go_values | go_skip | go_guarded | go_step | go_upon)
        refine (next_nat c lo false _ hlo).mono ?_
        rintro e w2 ⟨rfl, hb2⟩
        obtain ⟨hc2, hf2⟩ := bcell hb2
        have hz2 := hb2.size
        try simp at hz2
        have q2_0 : w.heap.size < w2.heap.size := by omega
        dsimp only
        have hown2 := owns_below hown hb2
        generalize hhi : nxt c false lo = hi2 at *
        repeat (first | (at_builtin; refine wpList_append_own _ rfl _ _ 99 rfl (w.heap.size + 1) 101 i0 (.agg #[.int .i64 0, .int .i64 0]) 2 16 Tryd.underlying99 iH iz is ib rfl (by decide) _ _ _ rfl (hown2.alloc _) ⟨w2.heap.size, 0, none⟩ 1 1 [.int .i64 (lo : Int), .int .i64 ((hi2 : Int) - 1)] rfl rfl ?c1 ?c2 ?c3 ?c4 ?c5 ?c6) | go_values | go_skip | go_guarded | go_step | go_upon)
        case c1 => exact cell_two_new _ _ _ _
        case c2 => simp [Value.oneCell']
        case c3 => unfold maxLen; omega
        case c4 => omega
        case c5 => simp; omega
        case c6 =>
          intro v3 w3 hown3 hgr3 _
          have hb3 : Below (w.alloc (.cells #[.int .u64 (wd c 0), .int .u64 (wd c 1), .int .u64 (wd c 2), .int .u64 (wd c 3)] 24)).heap.size (w.alloc (.cells #[.int .u64 (wd c 0), .int .u64 (wd c 1), .int .u64 (wd c 2), .int .u64 (wd c 3)] 24)) w3 :=
            below_grown (bal (bstep hb hb2) _) hgr3 (fun k hk => by have := (hown2.lt k hk).1; simp; omega)
          obtain ⟨hc3, hfz3⟩ := bcell hb3
          have hz3 := hb3.size
          simp at hz3
          have q3 : w.heap.size < w3.heap.size := by omega
          repeat (first | go_values | go_skip | go_guarded | go_step | go_upon)
          refine (next_nat c hi2 true _ hle).mono ?_
          rintro e w4 ⟨rfl, hb4⟩
          obtain ⟨hc4, hf4⟩ := bcell hb4
          have hz4 := hb4.size
          try simp at hz4
          have q4_0 : w.heap.size < w4.heap.size := by omega
          dsimp only
          have hown4 := owns_below hown3 hb4
          repeat (first | go_values | go_skip | go_guarded | go_step | go_upon)
          refine ⟨⟨done ++ [(lo, hi2 - 1)], f, nxt c true hi2, rfl, nxt_le hle, Lib.hid ?_, ?_, ?_, fun h => nxt_has hle h, ?_, ?_⟩, ?_⟩
          · rw [← hd.out, hstep.out]; simp
          · have := nxt_ge (c := c) (b := true) hle; omega
          · simp; omega
          · rw [pairs_append, List.length_append]
            have e : ((hi2 : Int) - 1) = ((hi2 - 1 : Nat) : Int) := by omega
            rw [e] at hown4
            exact hown4
          · exact bstep hb3 hb4
          · have := nxt_ge (c := c) (b := true) hle
            simp [intOf]; omega
      · obtain rfl : lo = 256 := by omega
        have hd2 := hd.out
        rw [runs_end, List.append_nil] at hd2
        have HD := Lib.hid hd2
        clear hd2 hhas
        repeat (first | go_values | go_skip | go_guarded | go_step | go_upon)
        go_ret
        rw [← HD.out]
        exact ⟨_, rfl, World.ownsRow.mono hown (by omega), bstep (bal (Below.refl _ _) _) hb⟩
end Go.Proofs.YtlohpplpnddfaaaDoor
