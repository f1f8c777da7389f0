/- A tree whose text fits in one source fits in others: plain. | strings.Builder's copyCheck, WriteByte, WriteString on a builder that lies in a page (as BldW, the block being of page's type). | strings.Builder's String and Len on a builder that lies in a page; a page of bytes. | A page that is written, and left alone once it is too long: plain. | printer.rank; the contracts of expr and part; part out of expr. | The closure of expr: parts with a text between each two. -/
import Derived.Test.YtjlcoldnhbkcgaaGreatDoorG27
import Derived.Test.YtjlcoldnhbkcgaaGreatDoorG9
namespace Go.Proofs.YtjlcoldnhbkcgaaGreatDoor
open Go.RowKit

theorem cos_noEnd (l : List Pc) : ∀ p ∈ cos l, p.1 ≠ 6 := by
  induction l with
  | nil => intro p hp; cases hp
  | cons c l ih =>
    intro p hp
    rw [cos, List.mem_append] at hp
    rcases hp with hp | hp
    · cases c with
      | sp => cases hp
      | nl => cases hp
      | nm u => rw [List.mem_singleton.1 hp]; exact fun e => by cases e
      | sg b => rw [List.mem_singleton.1 hp]; exact fun e => by cases e
      | ar => rw [List.mem_singleton.1 hp]; exact fun e => by cases e
      | lt u => rw [List.mem_singleton.1 hp]; exact fun e => by cases e
      | cl x => rw [List.mem_singleton.1 hp]; exact fun e => by cases e
    · exact ih p hp
theorem core_noEnd {ts : List Tok} {l : List Pc} (h : ts.map core = cos l) : NoEnd ts := fun t ht => cos_noEnd l (core t) (by rw [← h]; exact List.mem_map_of_mem ht)
/-- Its tokens alone are read as it. -/
def Fit (n : Tr) : Prop := ∀ (T : List Tok) (e : Tok), e.kind = 6 → T.map core = cos (pcT n) → ∃ f m, pChoice f 0 (T ++ [e]) = some (.ok m [e]) ∧ SameT false n m.tr
theorem fit_of {n : Tr} (h : OkT n) {T' S r : List Tok} (hS : StopT S) (hc : T'.map core = cos (pcT n)) {f : Nat} {m : Nd} (h1 : pChoice f 0 (T' ++ S) = some (.ok m r)) : Fit n := by
  intro T e he hT
  rcases (main_tree h).cho 0 T [e] hT (end_stop he).row (end_stop he).sl with h2 | ⟨f2, x, h2⟩
  · exact h2
  · obtain ⟨x', h3⟩ := (err2_all he hS f2).choice (core_noEnd hT) (hT.trans hc.symm) h2
    have a := pChoice_mono h3 (Nat.le_max_left f2 f)
    have b := pChoice_mono h1 (Nat.le_max_right f2 f)
    rw [a] at b
    cases b
theorem rules_fit {e : Tok} (he : e.kind = 6) : ∀ (g : List Rr), (∀ r ∈ g, OkR r) → ∀ ts, ts.map core = cos (pcG g) → ∀ (f : Nat) (acc hs : List Ru) (r : List Tok), pRules f (ts ++ [e]) acc = some (.ok hs r) → ∀ x ∈ g, Fit x.body := by
  intro g
  induction g with
  | nil => intro _ _ _ _ _ _ _ _ x hx; cases hx
  | cons r g ih =>
    intro hr ts ht f acc hs rr h
    have hok := hr r List.mem_cons_self
    have ht2 : ts.map core = (1, r.name, 0) :: (2, [], 0) :: (cos (pcT r.body) ++ cos (pcG g)) := by
      rw [ht]
      show cos (.nm r.name :: .sp :: .ar :: .sp :: ((pcT r.body ++ [.nl]) ++ pcG g)) = _
      rw [List.append_assoc]
      show (1, r.name, 0) :: (2, [], 0) :: cos (pcT r.body ++ (.nl :: pcG g)) = _
      rw [cos_app]
      rfl
    obtain ⟨a, t0, rfl, a1, a2, _, ht3⟩ := core_cons ht2
    obtain ⟨b, t3, rfl, b1, _, _, ht4⟩ := core_cons ht3
    obtain ⟨t1, t2, rfl, h1, h2⟩ := core_app ht4
    dsimp only at a1 a2 b1
    have hg := fun m hm => hr m (List.mem_cons_of_mem _ hm)
    obtain ⟨⟨g1, g2⟩, _⟩ := rules_list he g hg t2 h2
    have ek : kindT (a :: b :: (t1 ++ t2) ++ [e]) = 1 := a1
    have ek2 : kindT (a :: b :: (t1 ++ t2) ++ [e]).tail = 2 := b1
    have et : (a :: b :: (t1 ++ t2) ++ [e]).tail.tail = t1 ++ (t2 ++ [e]) := by simp
    cases f with
    | zero => cases h
    | succ f =>
      rw [pRules, if_neg (by rw [ek]; omega)] at h
      split at h
      · cases h
      rw [if_neg (fun h => h ek), if_neg (fun h => h ek2), et] at h
      cases e1 : pChoice f 0 (t1 ++ (t2 ++ [e])) with
      | none => rw [e1] at h; cases h
      | some y =>
        rw [e1] at h
        cases y with
        | err c x => cases h
        | ok n r2 =>
          have hfit := fit_of hok.2 ⟨g2, g1.pre, g1.suf, g1.arrow, g1.one⟩ h1 e1
          obtain rfl : r2 = t2 ++ [e] := by
            rcases (main_tree hok.2).cho 0 t1 (t2 ++ [e]) h1 g1 g2 with ⟨f2, m, q1, _⟩ | ⟨f2, x, q⟩
            · have p1 := pChoice_mono q1 (Nat.le_max_left f2 f)
              have p2 := pChoice_mono e1 (Nat.le_max_right f2 f)
              rw [p1] at p2
              injection p2 with p2
              injection p2 with _ p2
              exact p2.symm
            · have p1 := pChoice_mono q (Nat.le_max_left f2 f)
              have p2 := pChoice_mono e1 (Nat.le_max_right f2 f)
              rw [p1] at p2
              cases p2
          intro x hx
          rcases List.mem_cons.1 hx with rfl | hx
          · exact hfit
          · exact ih hg t2 h2 f _ hs rr h x hx
/-- Each rule of a grammar whose text is read. -/
theorem gram_fit {g : List Rr} (h : ∀ r ∈ g, OkR r) (h8 : (txG g).length ≤ 8192) {hs : List Ru} (hr : Reads (txG g) (.inr hs)) : ∀ r ∈ g, Fit r.body := by
  rw [← txs_gram] at h8 hr
  obtain ⟨r, h1, h2⟩ := good_lexed (good_gram g h) h8
  unfold Reads at hr
  rw [h1] at hr
  obtain ⟨f, hr⟩ := hr
  rcases hr with ⟨c, x, _, e⟩ | ⟨g', r', q, _⟩
  · cases e
  · exact rules_fit rfl g h r h2 f [] g' r' q
/-- A rule of it, by another name, with a line's end or without. -/
theorem fit_reads {n : Tr} (h : OkT n) (hf : Fit n) {nm : List UInt8} (hn : isName nm = true) (X : List Pc) (hX : Good X) (hc : cos X = []) (hs : StopB (txs X)) (h8 : (nm ++ ([32, 60, 45, 32] ++ (txT n ++ txs X))).length ≤ 8192) : ∃ m x, Reads (nm ++ ([32, 60, 45, 32] ++ (txT n ++ txs X))) (.inr [⟨nm, m, x⟩]) ∧ SameT false n m.tr := by
  have hg : Good (.nm nm :: .sp :: .ar :: .sp :: (pcT n ++ X)) := ⟨hn, fun u e => stop_blank _, trivial, fun u e => (by cases e), trivial, fun u e => (by cases e), trivial, fun u e => (by cases e), good_tree h X hX hs⟩
  have htx : txs (.nm nm :: .sp :: .ar :: .sp :: (pcT n ++ X)) = nm ++ ([32, 60, 45, 32] ++ (txT n ++ txs X)) := by
    show nm ++ (32 :: 60 :: 45 :: 32 :: txs (pcT n ++ X)) = _
    rw [txs_app]
    rfl
  rw [← htx] at h8 ⊢
  obtain ⟨r, h1, h2⟩ := good_lexed hg h8
  have ht2 : r.map core = (1, nm, 0) :: (2, [], 0) :: cos (pcT n) := by
    rw [h2]
    show (1, nm, 0) :: (2, [], 0) :: cos (pcT n ++ X) = _
    rw [cos_app, hc, List.append_nil]
  obtain ⟨a, t0, rfl, a1, a2, _, ht3⟩ := core_cons ht2
  obtain ⟨b, t1, rfl, b1, _, _, ht4⟩ := core_cons ht3
  dsimp only at a1 a2 b1
  obtain ⟨e, he, hE⟩ : ∃ e : Tok, e.kind = 6 ∧ e = ⟨6, [], 0, (txs (.nm nm :: .sp :: .ar :: .sp :: (pcT n ++ X))).length⟩ := ⟨_, rfl, rfl⟩
  rw [← hE] at h1
  obtain ⟨f, m, q1, q2⟩ := hf t1 e he ht4
  have ek : kindT (a :: b :: t1 ++ [e]) = 1 := a1
  have ek2 : kindT (a :: b :: t1 ++ [e]).tail = 2 := b1
  have et : (a :: b :: t1 ++ [e]).tail.tail = t1 ++ [e] := rfl
  refine ⟨m, a.pos, ?_, q2⟩
  unfold Reads
  rw [h1]
  refine ⟨f + 2, .inr ⟨[⟨nm, m, a.pos⟩], [e], ?_, rfl⟩⟩
  rw [pRules, if_neg (by rw [ek]; omega), if_neg (fun h => absurd h.1 (by simp)), if_neg (fun h => h ek), if_neg (fun h => h ek2), et, pChoice_mono q1 (Nat.le_succ f)]
  show pRules (f + 1) [e] [⟨a.text, m, a.pos⟩] = _
  rw [pRules, if_pos ⟨by simp, he⟩, a2]
end Go.Proofs.YtjlcoldnhbkcgaaGreatDoor
namespace Go.Proofs.YtjlcoldnhbkcgaaGreatDoor
open Go.RowKit Go.Sort

/-- A page at b that holds these bytes. -/
def Pg (B b : Nat) (bs : List Value) (w : World) : Prop := Lib.IsBuilderF 126 5 B b bs w
theorem pg_size : (Tryz.prog.info? 126).map (·.size) = some 2 := by kernel_rfl
theorem pg_lies : liesAt Tryz.prog Tryz.prog.depth 126 (2 / Tryz.prog.cellsOf 126) 0 124 1 = true := by kernel_rfl
set_option maxHeartbeats 1000000 in
set_option maxRecDepth 100000 in
theorem pg_copyCheck_any (B b : Nat) (bs : List Value) (w : World) (h : Pg B b bs w) :
    Calls Tryz.prog 89 #[.pointer (some ⟨b, 0, none⟩)] w fun e w' => e = .returned (.tuple #[]) ∧ Lib.BuilderAtF 126 5 B b (.pointer (some ⟨b, 0, none⟩)) bs w' ∧ Below B w w' ∧ Oth b w w' := by
  obtain ⟨j, hj, hjs⟩ := Option.map_eq_some_iff.1 bld_size
  rcases h with h | h
  · have h0 := h.cell0
    have hsh := h.shape
    have hfz := h.frozen0
    have H := Lib.hid h
    clear h
    go_enter Tryz.func89, Tryz.ntmps89
    go_wp2
    rw [Lib.run_to_unsafe w ⟨b, 0, none⟩ Tryz.underlying121 Tryz.underlying131 hj (by rw [hjs]; decide) hsh (Nat.zero_lt_succ 1)]
    simp only [Result.andThen]
    rw [Oper.upon_value]
    go_wp2
    rw [run_callFunc_extern Tryz.func120 (by kernel_rfl) (by kernel_rfl) (by kernel_rfl) (e := Extern.AbiNoEscape.same) (by kernel_rfl)]
    rw [Lib.run_noEscape]
    simp only [Result.andThen]
    rw [Oper.upon_value]
    go_wp2
    rw [Lib.run_from_unsafe w ⟨b, 0, none⟩ Tryz.underlying131 Tryz.underlying121 hj hsh pg_lies]
    simp only [Result.andThen]
    rw [Oper.upon_value]
    go_wp2
    go_end0
    exact ⟨rfl, H.out.used _, (Below.refl B w).setCell (p := ⟨b, 0, none⟩) H.out.1 _, (Lib.OthersKept.refl _ _ w).setCell ⟨b, 0, none⟩ rfl _⟩
  · have h0 := h.cell0
    have H := Lib.hid h
    clear h
    go_enter Tryz.func89, Tryz.ntmps89
    go_wp2
    rw [Lib.run_neq_ptr_same w _ Tryz.underlying121 hj]
    go_wp2
    go_end0
    exact ⟨rfl, H.out, Below.refl B _, Lib.OthersKept.refl _ _ _⟩
set_option maxHeartbeats 2000000 in
set_option maxRecDepth 100000 in
theorem pg_writeByte_any (B b : Nat) (bs : List Value) (c : Int) (w : World) (h : Pg B b bs w) (hlen : bs.length + 1 ≤ 140737488355328) (hBw : B ≤ w.heap.size) :
    Calls Tryz.prog 70 #[.pointer (some ⟨b, 0, none⟩), .int .u8 c] w fun e w' => e = .returned .nilIface ∧ Pg B b (bs ++ [.int .u8 c]) w' ∧ Below B w w' ∧ Oth b w w' := by
  obtain ⟨i0, hi, hz0, hz1, hz2⟩ := info_parts bld_byte
  have HB := Lib.hid h
  clear h
  go_enter Tryz.func70, Tryz.ntmps70
  repeat (first | go_values | go_skip | go_guarded | go_step | go_upon)
  refine (pg_copyCheck_any B b bs _ HB.out).mono ?_
  rintro e w1 ⟨rfl, h1, hb1, hk1⟩
  obtain ⟨hB, v, hbk, hown, hne⟩ := h1
  have c0 : w1.cell? ⟨b, 0, none⟩ = some (.pointer (some ⟨b, 0, none⟩)) := by rw [Lib.cell_of_heap hbk]; rfl
  have c1 : w1.cell? ⟨b, 1, none⟩ = some v := by rw [Lib.cell_of_heap hbk]; rfl
  dsimp only
  repeat (first | (at_builtin; refine wpList_append_ownF _ rfl _ _ 122 rfl B 5 i0 (.int .u8 0) 1 1 Tryz.underlying122 hi hz0 hz1 hz2 rfl (by decide) _ _ _ rfl (hown.alloc _) ⟨w1.heap.size, 0, none⟩ 1 1 [.int .u8 c] rfl rfl ?c1 ?c2 ?c3 ?c4 ?c5 ?_) | go_values | go_skip | go_guarded | go_step | go_upon)
  case c1 =>
    intro j u hj
    match j, hj with
    | 0, hj => simp at hj; subst hj; simp [Addr.add]
  case c2 => intro u hu; simp at hu; subst hu; rfl
  case c3 => unfold maxLen; omega
  case c4 => omega
  case c5 => have := hb1.size; simp; omega
  intro v' w2 hown' hgrow _
  have hlt : b < w1.heap.size := by
    rcases Nat.lt_or_ge b w1.heap.size with h' | h'
    · exact h'
    · simp [Array.getElem?_eq_none h'] at hbk
  have hb2 : w2.heap[b]? = some (.cells #[.pointer (some ⟨b, 0, none⟩), v] 126 (0, 0)) := by
    rw [hgrow.block b (by simp; omega) (fun e => hne e.symm), Lib.alloc_old w1 _ b hlt]
    exact hbk
  have d0 : w2.cell? ⟨b, 0, none⟩ = some (.pointer (some ⟨b, 0, none⟩)) := by rw [Lib.cell_of_heap hb2]; rfl
  have d1 : w2.cell? ⟨b, 1, none⟩ = some v := by rw [Lib.cell_of_heap hb2]; rfl
  have f1 : w2.frozen? ⟨b, 1, none⟩ = false := Lib.frozen_of_heap hb2 1
  obtain ⟨g, cap, rfl⟩ : ∃ g cap, v' = .slice (some ⟨g, 0, none⟩) (bs.length + 1) cap := by
    rcases hown'.2 with ⟨_, h0⟩ | ⟨g, cap, cur, fz, hv, _⟩
    · omega
    · exact ⟨g, cap, hv⟩
  repeat (first | go_values | go_skip | go_guarded | go_step | go_upon)
  go_ret
  refine ⟨rfl, .inr ?_, ?_, ((hk1.alloc _).grown hgrow (Lib.ownsRowF_kind (hown.alloc _))).setCell ⟨b, 1, none⟩ rfl _⟩
  · exact Lib.BuilderAtF.put (T := 126) (e := 5) hB hb2 (bs' := bs ++ [.int .u8 c]) (by simpa using hown') (by decide)
  · exact ((hb1.alloc (by have := hb1.size; omega) _).grown hgrow (by have := hb1.size; simp; omega) (fun k hk => (hown.lt k hk).1)).setCell (p := ⟨b, 1, none⟩) hB _
set_option maxHeartbeats 2000000 in
set_option maxRecDepth 100000 in
theorem pg_writeString_any (B b : Nat) (bs : List Value) (s : ByteArray) (w : World) (h : Pg B b bs w) (hlen : bs.length + s.size ≤ 140737488355328) (hBw : B ≤ w.heap.size) :
    Calls Tryz.prog 68 #[.pointer (some ⟨b, 0, none⟩), .string s] w fun e w' => e = .returned (.tuple #[.int .i64 s.size, .nilIface]) ∧ Pg B b (bs ++ Lib.strCells s) w' ∧ Below B w w' ∧ Oth b w w' := by
  obtain ⟨i0, hi, hz0, hz1, hz2⟩ := info_parts bld_byte
  have HB := Lib.hid h
  clear h
  go_enter Tryz.func68, Tryz.ntmps68
  repeat (first | go_values | go_skip | go_guarded | go_step | go_upon)
  refine (pg_copyCheck_any B b bs _ HB.out).mono ?_
  rintro e w1 ⟨rfl, h1, hb1, hk1⟩
  obtain ⟨hB, v, hbk, hown, hne⟩ := h1
  have c0 : w1.cell? ⟨b, 0, none⟩ = some (.pointer (some ⟨b, 0, none⟩)) := by rw [Lib.cell_of_heap hbk]; rfl
  have c1 : w1.cell? ⟨b, 1, none⟩ = some v := by rw [Lib.cell_of_heap hbk]; rfl
  dsimp only
  repeat (first | (at_builtin; refine Lib.wpList_append_own_stringF _ rfl _ _ 122 9 rfl B 5 i0 Tryz.underlying122 Tryz.underlying9 hi hz0 hz1 hz2 _ _ _ rfl hown s rfl ?c3 ?c4 ?c5 ?_) | go_values | go_skip | go_guarded | go_step | go_upon)
  case c3 => unfold maxLen; omega
  case c4 => omega
  case c5 => have := hb1.size; omega
  intro v' w2 hown' hgrow _
  have hlt : b < w1.heap.size := by
    rcases Nat.lt_or_ge b w1.heap.size with h' | h'
    · exact h'
    · simp [Array.getElem?_eq_none h'] at hbk
  have hb2 : w2.heap[b]? = some (.cells #[.pointer (some ⟨b, 0, none⟩), v] 126 (0, 0)) := by
    rw [hgrow.block b hlt (fun e => hne e.symm)]
    exact hbk
  have d0 : w2.cell? ⟨b, 0, none⟩ = some (.pointer (some ⟨b, 0, none⟩)) := by rw [Lib.cell_of_heap hb2]; rfl
  have d1 : w2.cell? ⟨b, 1, none⟩ = some v := by rw [Lib.cell_of_heap hb2]; rfl
  have f1 : w2.frozen? ⟨b, 1, none⟩ = false := Lib.frozen_of_heap hb2 1
  obtain ⟨ao, n', cap, rfl⟩ : ∃ ao n' cap, v' = .slice ao n' cap := by
    rcases hown'.2 with ⟨hv, _⟩ | ⟨g, cap, cur, fz, hv, _⟩
    · exact ⟨_, _, _, hv⟩
    · exact ⟨_, _, _, hv⟩
  repeat (first | go_values | go_skip | go_guarded | go_step | go_upon)
  go_ret2
  refine ⟨rfl, .inr ?_, ?_, (hk1.grown hgrow (Lib.ownsRowF_kind hown)).setCell ⟨b, 1, none⟩ rfl _⟩
  · exact Lib.BuilderAtF.put (T := 126) (e := 5) hB hb2 (bs' := bs ++ Lib.strCells s) (by simpa [Lib.strCells_length] using hown') (by decide)
  · exact (hb1.grown hgrow (by have := hb1.size; omega) (fun k hk => (hown.lt k hk).1)).setCell (p := ⟨b, 1, none⟩) hB _
end Go.Proofs.YtjlcoldnhbkcgaaGreatDoor
namespace Go.Proofs.YtjlcoldnhbkcgaaGreatDoor
open Go.RowKit Go.Sort

theorem cells_u8 : Tryz.prog.cellsOf 5 = 1 := by kernel_rfl
set_option maxHeartbeats 1000000 in
set_option maxRecDepth 100000 in
theorem pg_string_any (B b : Nat) (l : List UInt8) (w : World) (h : Pg B b (Lib.byteCells l) w) (h0 : l ≠ []) :
    Calls Tryz.prog 72 #[.pointer (some ⟨b, 0, none⟩)] w fun e w' => e = .returned (.string ⟨l.toArray⟩) ∧ Pg B b (Lib.byteCells l) w' ∧ Below B w w' ∧ Oth b w w' := by
  obtain ⟨p, hp, hAt⟩ : ∃ p, (p = .pointer none ∨ p = .pointer (some ⟨b, 0, none⟩)) ∧ Lib.BuilderAtF 126 5 B b p (Lib.byteCells l) w := by
    rcases h with h | h
    · exact ⟨_, .inl rfl, h⟩
    · exact ⟨_, .inr rfl, h⟩
  obtain ⟨hB, v, hbk, hown, hne⟩ := hAt
  have hl0 : l.length ≠ 0 := by simpa using h0
  rw [Lib.byteCells_length] at hown
  have hown2 := hown
  obtain ⟨g, cap, cur, fz, rfl, hbg, hg, _, hnc, hcm, hcs, _⟩ : ∃ g cap cur fz, v = .slice (some ⟨g, 0, none⟩) l.length cap ∧ B ≤ g ∧ w.heap[g]? = some (.cells cur 5 fz) ∧ fz.2 ≤ l.length * 1 ∧ l.length ≤ cap ∧ cap ≤ maxLen ∧ cur.size = cap * 1 ∧ cur.toList.take (l.length * 1) = Lib.byteCells l := by
    rcases hown2.2 with ⟨_, hz⟩ | ⟨g, cap, cur, fz, hv, r⟩
    · exact absurd hz hl0
    · exact ⟨g, cap, cur, fz, hv, r⟩
  have c1 : w.drew.cell? ⟨b, 1, none⟩ = some (.slice (some ⟨g, 0, none⟩) l.length cap) := by
    have : w.drew.heap[b]? = some (.cells #[p, .slice (some ⟨g, 0, none⟩) l.length cap] 126 (0, 0)) := hbk
    rw [Lib.cell_of_heap this]; rfl
  have hSD : (Builtin.unsafeSliceData_ #[122] 158 #[.slice (some ⟨g, 0, none⟩) l.length cap]).run Tryz.prog w.drew = .ok (.pointer (some ⟨g, 0, none⟩)) w.drew :=
    Lib.run_unsafeSliceData_row _ _ _ _ _ _ (by omega)
  have hUS : (Builtin.unsafeString_ #[158, 3] 9 #[.pointer (some ⟨g, 0, none⟩), .int .i64 l.length]).run Tryz.prog w.drew = .ok (.string ⟨l.toArray⟩) (w.drew.freeze ⟨g, 0, none⟩ l.length) := by
    refine Lib.run_unsafeString_row w.drew 158 3 9 5 Tryz.underlying158 cells_u8 g cur.size (by have hg' : w.drew.heap[g]? = some (.cells cur 5 fz) := hg; simp [World.shape?, hg']) l h0 (by omega) (by unfold maxLen at hcm; omega) ?_
    intro j x hx
    exact hown.cells (g := g) rfl j (.int .u8 x.toNat) (by simp [Lib.byteCells, hx])
  have hkeep : Pg B b (Lib.byteCells l) (w.drew.freeze ⟨g, 0, none⟩ l.length) := by
    have hA : Lib.BuilderAtF 126 5 B b p (Lib.byteCells l) w.drew := ⟨hB, _, hbk, by rw [Lib.byteCells_length]; exact hown, hne⟩
    have hF := hA.froze (g := g) (cap := cap) (by rw [Lib.byteCells_length]; exact c1)
    rw [Lib.byteCells_length] at hF
    rcases hp with rfl | rfl
    · exact .inl hF
    · exact .inr hF
  have mixed : Tryz.prog.follows Departure.mixedOrders = true := by kernel_rfl
  go_enter Tryz.func72, Tryz.ntmps72
  go_wp2
  go_region_o
  all_goals (go_wp2; go_ret; exact ⟨rfl, hkeep, Lib.below_freeze (Below.drew (Below.refl B w)) (p := ⟨g, 0, none⟩) hbg _, ((Lib.OthersKept.refl _ _ w).drew).freeze ⟨g, 0, none⟩ _ ⟨cur, fz, hg⟩⟩)
set_option maxRecDepth 100000 in
theorem pg_len_any (B b : Nat) (l : List UInt8) (w : World) (h : Pg B b (Lib.byteCells l) w) :
    Calls Tryz.prog 94 #[.pointer (some ⟨b, 0, none⟩)] w (Ans (.int .i64 (l.length : Nat)) w) := by
  obtain ⟨p, hAt⟩ : ∃ p, Lib.BuilderAtF 126 5 B b p (Lib.byteCells l) w := by
    rcases h with h | h
    · exact ⟨_, h⟩
    · exact ⟨_, h⟩
  obtain ⟨_, v, hbk, hown, _⟩ := hAt
  rw [Lib.byteCells_length] at hown
  obtain ⟨a, cap, rfl⟩ : ∃ a cap, v = .slice a l.length cap := by
    rcases hown.2 with ⟨hv, hz⟩ | ⟨g, cap, cur, fz, hv, r⟩
    · exact ⟨_, _, by rw [hv, hz]⟩
    · exact ⟨_, _, hv⟩
  have c1 : w.cell? ⟨b, 1, none⟩ = some (.slice a l.length cap) := by rw [Lib.cell_of_heap hbk]; rfl
  clear hown hbk h
  go_enter Tryz.func94, Tryz.ntmps94
  repeat (first | go_values | go_skip | go_guarded | go_step | go_upon)
  go_ret
  exact ⟨rfl, (by repeat (first | exact Below.refl _ _ | assumption | refine bal ?_ _ | refine bdr ?_ | refine bdrn ?_ _ | (refine bset ?_ (by first | exact Nat.le_refl _ | (simp; done) | (simp; omega) | omega) _) | refine bstep ?_ (by assumption)))⟩
theorem pg_below {B b : Nat} {bs : List Value} {w w' : World} (h : Pg B b bs w) (hb : Below w.heap.size w w') : Pg B b bs w' := by
  have key : ∀ p, Lib.BuilderAtF 126 5 B b p bs w → Lib.BuilderAtF 126 5 B b p bs w' := by
    rintro p ⟨hB, v, hbk, hown, hne⟩
    have hlt : b < w.heap.size := (Array.getElem?_eq_some_iff.1 hbk).1
    exact ⟨hB, v, (hb.block _ hlt).trans hbk, hown.kept (row := none) ⟨hb.os, hb.tape, hb.output, hb.size, fun k hk _ => hb.block k hk⟩ (by cases v.ownBlock <;> simp), hne⟩
  exact h.elim (fun h => .inl (key _ h)) (fun h => .inr (key _ h))
theorem pg_new (w : World) : Pg w.heap.size w.heap.size [] (w.alloc (.cells #[.pointer none, .slice none 0 0] 126)) :=
  .inl ⟨Nat.le_refl _, _, heap_alloc_new _ _, World.ownsRowF_nil _ _ _ _, by simp [Value.ownBlock]⟩
theorem pg_lt {B b : Nat} {bs : List Value} {w : World} (h : Pg B b bs w) : b < w.heap.size := by
  rcases h with ⟨_, v, hbk, _⟩ | ⟨_, v, hbk, _⟩ <;> exact (Array.getElem?_eq_some_iff.1 hbk).1
theorem pg_wb (b : Nat) (A : List UInt8) (c : UInt8) (x : Int) (w : World) (hx : x = c.toNat) (h : Pg b b (Lib.byteCells A) w) (hl : A.length ≤ 140000000000000) :
    Calls Tryz.prog 70 #[.pointer (some ⟨b, 0, none⟩), .int .u8 x] w fun e w' => e = .returned .nilIface ∧ Pg b b (Lib.byteCells (A ++ [c])) w' ∧ Below b w w' ∧ Oth b w w' := by
  subst hx
  refine (pg_writeByte_any b b _ _ w h (by rw [Lib.byteCells_length]; omega) (Nat.le_of_lt (pg_lt h))).mono ?_
  rintro e w' ⟨h1, h2, h3, h4⟩
  exact ⟨h1, by rw [Lib.byteCells_append]; exact h2, h3, h4⟩
theorem pg_ws (b : Nat) (A S : List UInt8) (w : World) (h : Pg b b (Lib.byteCells A) w) (hl : A.length + S.length ≤ 140000000000000) :
    Calls Tryz.prog 68 #[.pointer (some ⟨b, 0, none⟩), .string ⟨S.toArray⟩] w fun e w' => e = .returned (.tuple #[.int .i64 (S.length : Nat), .nilIface]) ∧ Pg b b (Lib.byteCells (A ++ S)) w' ∧ Below b w w' ∧ Oth b w w' := by
  have hs : (⟨S.toArray⟩ : ByteArray).size = S.length := by simp [ByteArray.size]
  refine (pg_writeString_any b b _ _ w h (by rw [Lib.byteCells_length, hs]; omega) (Nat.le_of_lt (pg_lt h))).mono ?_
  rintro e w' ⟨h1, h2, h3, h4⟩
  exact ⟨by rw [h1, hs], by rw [Lib.byteCells_append, ← strCells_txt S]; exact h2, h3, h4⟩
set_option maxRecDepth 100000 in
theorem wide_any (b : Nat) (A : List UInt8) (q : Bool) (hq : decide (8192 < A.length) = q) (w : World) (h : Pg b b (Lib.byteCells A) w) : Calls Tryz.prog 71 #[.pointer (some ⟨b, 0, none⟩)] w (Ans (.bool q) w) := by
  have HL := Lib.hid (fun (w' : World) (h' : Below w.heap.size w w') => pg_len_any b b A w' (pg_below h h'))
  have e1 : decide ((8192 : Int) < A.length) = q := by rw [← hq]; exact decide_eq_decide.2 (by omega)
  clear h hq
  cases q with
  | true =>
    go_enter Tryz.func71, Tryz.ntmps71
    repeat (first | go_values | go_skip | go_guarded | go_step | go_upon)
    refine (HL.out _ (by repeat (first | exact Below.refl _ _ | assumption | refine bal ?_ _ | refine bdr ?_ | refine bdrn ?_ _ | (refine bset ?_ (by first | exact Nat.le_refl _ | (simp; done) | (simp; omega) | omega) _) | refine bstep ?_ (by assumption)))).mono ?_
    rintro e w1 ⟨rfl, hb1⟩
    obtain ⟨hc1, hf1⟩ := bcell hb1
    have hz1 := hb1.size
    try simp at hz1
    dsimp only
    repeat (first | go_values | go_skip | go_guarded | go_step | go_upon)
    go_ret
    exact ⟨rfl, (by repeat (first | exact Below.refl _ _ | assumption | refine bal ?_ _ | refine bdr ?_ | refine bdrn ?_ _ | (refine bset ?_ (by first | exact Nat.le_refl _ | (simp; done) | (simp; omega) | omega) _) | refine bstep ?_ (by assumption)))⟩
  | false =>
    go_enter Tryz.func71, Tryz.ntmps71
    repeat (first | go_values | go_skip | go_guarded | go_step | go_upon)
    refine (HL.out _ (by repeat (first | exact Below.refl _ _ | assumption | refine bal ?_ _ | refine bdr ?_ | refine bdrn ?_ _ | (refine bset ?_ (by first | exact Nat.le_refl _ | (simp; done) | (simp; omega) | omega) _) | refine bstep ?_ (by assumption)))).mono ?_
    rintro e w1 ⟨rfl, hb1⟩
    obtain ⟨hc1, hf1⟩ := bcell hb1
    have hz1 := hb1.size
    try simp at hz1
    dsimp only
    repeat (first | go_values | go_skip | go_guarded | go_step | go_upon)
    go_ret
    exact ⟨rfl, (by repeat (first | exact Below.refl _ _ | assumption | refine bal ?_ _ | refine bdr ?_ | refine bdrn ?_ _ | (refine bset ?_ (by first | exact Nat.le_refl _ | (simp; done) | (simp; omega) | omega) _) | refine bstep ?_ (by assumption)))⟩
end Go.Proofs.YtjlcoldnhbkcgaaGreatDoor
namespace Go.Proofs.YtjlcoldnhbkcgaaGreatDoor
open Go.RowKit

/-- A page that held c holds c' behind the writing of t: the text is there, or both are too long. -/
def Wr (c t c' : List UInt8) : Prop := c.length ≤ c'.length ∧ (c' = c ++ t ∨ (8192 < c'.length ∧ 8192 < c.length + t.length))
theorem Wr.refl (c : List UInt8) : Wr c [] c := ⟨Nat.le_refl _, .inl (by simp)⟩
theorem Wr.put (c t : List UInt8) : Wr c t (c ++ t) := ⟨by simp, .inl rfl⟩
theorem Wr.wide {c t : List UInt8} (h : 8192 < c.length) : Wr c t c := ⟨Nat.le_refl _, .inr ⟨h, by omega⟩⟩
theorem Wr.trans {c t u c1 c2 : List UInt8} (h : Wr c t c1) (h2 : Wr c1 u c2) : Wr c (t ++ u) c2 := by
  obtain ⟨l1, h1⟩ := h
  obtain ⟨l2, h2⟩ := h2
  refine ⟨by omega, ?_⟩
  rcases h1 with rfl | ⟨a, b⟩
  · rcases h2 with rfl | ⟨a, b⟩
    · exact .inl (by simp)
    · exact .inr ⟨a, by rw [List.length_append] at b ⊢; omega⟩
  · exact .inr ⟨by omega, by rw [List.length_append]; omega⟩
theorem Wr.done {t c : List UInt8} (h : Wr [] t c) : (c.length ≤ 8192 → c = t) ∧ (8192 < c.length ↔ 8192 < t.length) := by
  obtain ⟨l1, h1⟩ := h
  rcases h1 with rfl | ⟨a, b⟩
  · simp
  · simp only [List.length_nil, Nat.zero_add] at b
    exact ⟨fun h => by omega, by omega⟩
/-- What the document's page does. -/
def putS (c s : List UInt8) : List UInt8 := if c.length ≤ 8192 then c ++ s else c
theorem putS_wr (c s : List UInt8) : Wr c s (putS c s) := by
  unfold putS
  split
  · exact Wr.put c s
  · exact Wr.wide (by omega)
end Go.Proofs.YtjlcoldnhbkcgaaGreatDoor
namespace Go.Proofs.YtjlcoldnhbkcgaaGreatDoor
open Go.RowKit Go.Sort

set_option maxRecDepth 100000 in
theorem rank_any (k : Int) (w : World) : Calls Tryz.prog 121 #[.int .i64 k] w (Ans (.int .i64 ((rankT k : Nat) : Int)) w) := by
  by_cases h8 : k = 8
  · subst h8
    go_enter Tryz.func121, Tryz.ntmps121
    repeat (first | go_values | go_skip | go_guarded | go_step | go_upon)
    go_ret
    exact ⟨rfl, (by repeat (first | exact Below.refl _ _ | assumption | refine bal ?_ _ | refine bdr ?_ | refine bdrn ?_ _ | (refine bset ?_ (by first | exact Nat.le_refl _ | (simp; done) | (simp; omega) | omega) _) | refine bstep ?_ (by assumption)))⟩
  by_cases h9 : k = 9
  · subst h9
    go_enter Tryz.func121, Tryz.ntmps121
    repeat (first | go_values | go_skip | go_guarded | go_step | go_upon)
    go_ret
    exact ⟨rfl, (by repeat (first | exact Below.refl _ _ | assumption | refine bal ?_ _ | refine bdr ?_ | refine bdrn ?_ _ | (refine bset ?_ (by first | exact Nat.le_refl _ | (simp; done) | (simp; omega) | omega) _) | refine bstep ?_ (by assumption)))⟩
  by_cases h10 : k = 10
  · subst h10
    go_enter Tryz.func121, Tryz.ntmps121
    repeat (first | go_values | go_skip | go_guarded | go_step | go_upon)
    go_ret
    exact ⟨rfl, (by repeat (first | exact Below.refl _ _ | assumption | refine bal ?_ _ | refine bdr ?_ | refine bdrn ?_ _ | (refine bset ?_ (by first | exact Nat.le_refl _ | (simp; done) | (simp; omega) | omega) _) | refine bstep ?_ (by assumption)))⟩
  by_cases h11 : k = 11
  · subst h11
    go_enter Tryz.func121, Tryz.ntmps121
    repeat (first | go_values | go_skip | go_guarded | go_step | go_upon)
    go_ret
    exact ⟨rfl, (by repeat (first | exact Below.refl _ _ | assumption | refine bal ?_ _ | refine bdr ?_ | refine bdrn ?_ _ | (refine bset ?_ (by first | exact Nat.le_refl _ | (simp; done) | (simp; omega) | omega) _) | refine bstep ?_ (by assumption)))⟩
  by_cases h12 : k = 12
  · subst h12
    go_enter Tryz.func121, Tryz.ntmps121
    repeat (first | go_values | go_skip | go_guarded | go_step | go_upon)
    go_ret
    exact ⟨rfl, (by repeat (first | exact Below.refl _ _ | assumption | refine bal ?_ _ | refine bdr ?_ | refine bdrn ?_ _ | (refine bset ?_ (by first | exact Nat.le_refl _ | (simp; done) | (simp; omega) | omega) _) | refine bstep ?_ (by assumption)))⟩
  by_cases h6 : k = 6
  · subst h6
    go_enter Tryz.func121, Tryz.ntmps121
    repeat (first | go_values | go_skip | go_guarded | go_step | go_upon)
    go_ret
    exact ⟨rfl, (by repeat (first | exact Below.refl _ _ | assumption | refine bal ?_ _ | refine bdr ?_ | refine bdrn ?_ _ | (refine bset ?_ (by first | exact Nat.le_refl _ | (simp; done) | (simp; omega) | omega) _) | refine bstep ?_ (by assumption)))⟩
  by_cases h7 : k = 7
  · subst h7
    go_enter Tryz.func121, Tryz.ntmps121
    repeat (first | go_values | go_skip | go_guarded | go_step | go_upon)
    go_ret
    exact ⟨rfl, (by repeat (first | exact Below.refl _ _ | assumption | refine bal ?_ _ | refine bdr ?_ | refine bdrn ?_ _ | (refine bset ?_ (by first | exact Nat.le_refl _ | (simp; done) | (simp; omega) | omega) _) | refine bstep ?_ (by assumption)))⟩
  have hr : rankT k = 4 := by simp [rankT, h6, h7, h8, h9, h10, h11, h12]
  rw [hr]
  have g6 : (k == 6) = false := by simpa using h6
  have g7 : (k == 7) = false := by simpa using h7
  have g8 : (k == 8) = false := by simpa using h8
  have g9 : (k == 9) = false := by simpa using h9
  have g10 : (k == 10) = false := by simpa using h10
  have g11 : (k == 11) = false := by simpa using h11
  have g12 : (k == 12) = false := by simpa using h12
  clear hr
  go_enter Tryz.func121, Tryz.ntmps121
  repeat (first | go_values | go_skip | go_guarded | go_step | go_upon)
  go_ret
  exact ⟨rfl, (by repeat (first | exact Below.refl _ _ | assumption | refine bal ?_ _ | refine bdr ?_ | refine bdrn ?_ _ | (refine bset ?_ (by first | exact Nat.le_refl _ | (simp; done) | (simp; omega) | omega) _) | refine bstep ?_ (by assumption)))⟩
/-- What writing on a page leaves. -/
def PgP (b : Nat) (A t : List UInt8) (m : Nat) (w : World) (e : Ending) (w' : World) : Prop :=
  e = .returned (.tuple #[]) ∧ ∃ A' : List UInt8, Wr A t A' ∧ A'.length ≤ A.length + m ∧ Pg b b (Lib.byteCells A') w' ∧ Below b w w' ∧ Oth b w w'
/-- The contract of expr at a tree. -/
def ExprC (n : Tr) : Prop := ∀ (b : Nat) (A : List UInt8) (w : World) (P : Nat → Prop) (c : List Value), RepA w P n c → (∀ x, P x → x < b) → Pg b b (Lib.byteCells A) w → A.length + 3000 * n.bulk ≤ 100000000000000 → OkT n →
  Calls Tryz.prog 69 #[.pointer (some ⟨b, 0, none⟩), .agg c.toArray] w (PgP b A (txT n) (3000 * n.bulk - 5) w)
theorem bulk_pos (n : Tr) : 1 ≤ n.bulk := by
  cases n
  rw [Tr.bulk]
  omega
theorem oth_below (b : Nat) {w w' : World} (h : Below w.heap.size w w') : Oth b w w' := fun k _ hk _ _ => (h.block k (Array.getElem?_eq_some_iff.1 hk).1).trans hk
theorem oth_cell {b : Nat} {w w' : World} (h : Oth b w w') {k : Nat} {c : Array Value} {T : Nat} {fz : Nat × Nat} (hk : w.heap[k]? = some (.cells c T fz)) (hb : k ≠ b) (hT : T ≠ 5) : w'.heap[k]? = some (.cells c T fz) :=
  h k _ hk (fun e => hb (Option.some.inj e)) (fun c' fz' e => by injection e with _ e; exact hT e)
set_option maxRecDepth 100000 in
set_option maxHeartbeats 3200000 in
theorem ppart_any {n : Tr} (HE : ExprC n) (r : Nat) (b : Nat) (A : List UInt8) (w : World) (P : Nat → Prop) (c : List Value) (hr : RepA w P n c) (hP : ∀ x, P x → x < b) (hp : Pg b b (Lib.byteCells A) w) (hb : A.length + 3 + 3000 * n.bulk ≤ 100000000000000) (ho : OkT n) :
    Calls Tryz.prog 91 #[.pointer (some ⟨b, 0, none⟩), .agg c.toArray, .int .i64 (r : Nat)] w (PgP b A (txQ r n) (3000 * n.bulk - 3) w) := by
  have hn1 := bulk_pos n
  have hlt := pg_lt hp
  obtain ⟨k, t, x, v, l, p, hnn, rfl, hl⟩ := hr.form
  obtain ⟨sa, cap, rfl, _⟩ := hl.slice
  have hkd : n.kind = k := by rw [hnn]; rfl
  have hm1 := cell_alloc_lt
  have HPg := Lib.hid hp
  have HR := Lib.hid hr
  have HK := Lib.hid (fun w => rank_any k w)
  have HB := Lib.hid (fun (A2 : List UInt8) (w2 : World) (hA : A2.length ≤ A.length + 1) (h2 : Pg b b (Lib.byteCells A2) w2) (hw : Below b w w2) => HE b A2 w2 P _ (hr.mono (fun y hy => hw.block y (hP y hy)) (fun _ h => h)) hP h2 (by omega) ho)
  clear hr hl hp hnn HE
  dsimp only [trC] at HB ⊢
  by_cases hrk : r ≤ rankT k
  · have htx : txQ r n = txT n := txQ_in (by rw [hkd]; exact hrk)
    rw [htx]
    have d1 : decide ((r : Int) ≤ ((rankT k : Nat) : Int)) = true := by simp; omega
    have d2 : decide (r ≤ rankT k) = true := by simpa using hrk
    clear htx hkd
    generalize rankT k = rk at *
    go_enter Tryz.func91, Tryz.ntmps91
    repeat (first | go_values | go_skip | go_guarded | go_step | go_upon)
    refine (HK.out _).mono ?_
    rintro e w1 ⟨rfl, hb1⟩
    obtain ⟨hc1, hf1⟩ := bcell hb1
    have hz1 := hb1.size
    try simp at hz1
    dsimp only
    have hw1 : Below w.heap.size w w1 := (by repeat (first | exact Below.refl _ _ | assumption | refine bal ?_ _ | refine bdr ?_ | refine bdrn ?_ _ | (refine bset ?_ (by first | exact Nat.le_refl _ | (simp; done) | (simp; omega) | omega) _) | refine bstep ?_ (by assumption)))
    have hwb1 : Below b w w1 := hw1.mono (Nat.le_of_lt hlt)
    have hP1 := pg_below HPg.out hw1
    repeat (first | go_values | go_skip | go_guarded | go_step | go_upon)
    refine (HB.out A w1 (by omega) hP1 hwb1).mono ?_
    rintro e w2 ⟨rfl, A', h1, h2, h3, h4, h5⟩
    dsimp only
    repeat (first | go_values | go_skip | go_guarded | go_step | go_upon)
    first | go_end0 | go_ret | (refine bodyPost_ret (v := .tuple #[]) (by rfl) rfl ?_)
    exact ⟨rfl, A', h1, by omega, h3, hwb1.trans h4, (oth_below b hw1).trans h5⟩
  · have htx : txQ r n = [40] ++ (txT n ++ [41]) := txQ_out (by rw [hkd]; exact hrk)
    rw [htx]
    have d1 : decide ((r : Int) ≤ ((rankT k : Nat) : Int)) = false := by simp; omega
    have d2 : decide (r ≤ rankT k) = false := by simpa using hrk
    clear htx hkd
    generalize rankT k = rk at *
    go_enter Tryz.func91, Tryz.ntmps91
    repeat (first | go_values | go_skip | go_guarded | go_step | go_upon)
    refine (HK.out _).mono ?_
    rintro e w1 ⟨rfl, hb1⟩
    obtain ⟨hc1, hf1⟩ := bcell hb1
    have hz1 := hb1.size
    try simp at hz1
    dsimp only
    have hw1 : Below w.heap.size w w1 := (by repeat (first | exact Below.refl _ _ | assumption | refine bal ?_ _ | refine bdr ?_ | refine bdrn ?_ _ | (refine bset ?_ (by first | exact Nat.le_refl _ | (simp; done) | (simp; omega) | omega) _) | refine bstep ?_ (by assumption)))
    have hwb1 : Below b w w1 := hw1.mono (Nat.le_of_lt hlt)
    have hP1 := pg_below HPg.out hw1
    have hbx1 := (hb1.block w.heap.size (by simp)).trans (heap_alloc_new w _)
    repeat (first | go_values | go_skip | go_guarded | go_step | go_upon)
    refine (pg_wb b A 40 40 w1 rfl hP1 (by omega)).mono ?_
    rintro e w2 ⟨rfl, hB2, hb2, ho2⟩
    have hbx2 := oth_cell ho2 hbx1 (by omega) (by decide)
    have cC2 := (cells_at hbx2).1
    dsimp only
    repeat (first | go_values | go_skip | go_guarded | go_step | go_upon)
    refine (HB.out (A ++ [40]) w2 (by simp) hB2 (hwb1.trans hb2)).mono ?_
    rintro e w3 ⟨rfl, A', h1, h2, h3, h4, h5⟩
    rw [List.length_append, List.length_singleton] at h2
    dsimp only
    repeat (first | go_values | go_skip | go_guarded | go_step | go_upon)
    refine (pg_wb b A' 41 41 w3 rfl h3 (by omega)).mono ?_
    rintro e w4 ⟨rfl, hB4, hb4, ho4⟩
    dsimp only
    repeat (first | go_values | go_skip | go_guarded | go_step | go_upon)
    first | go_end0 | go_ret | (refine bodyPost_ret (v := .tuple #[]) (by rfl) rfl ?_)
    exact ⟨rfl, A' ++ [41], (Wr.put A [40]).trans (h1.trans (Wr.put A' [41])), by rw [List.length_append, List.length_singleton]; omega, hB4, hwb1.trans (hb2.trans (h4.trans hb4)), (oth_below b hw1).trans (ho2.trans (h5.trans ho4))⟩
end Go.Proofs.YtjlcoldnhbkcgaaGreatDoor
namespace Go.Proofs.YtjlcoldnhbkcgaaGreatDoor
open Go.RowKit Go.Sort

def rowTx (S : List UInt8) (r : Nat) : List Tr → List UInt8
  | [] => []
  | n :: l => txQ r n ++ txR S r l
theorem rowTx_snoc (S : List UInt8) (r : Nat) (l : List Tr) (n : Tr) : rowTx S r (l ++ [n]) = rowTx S r l ++ ((if l.length = 0 then [] else S) ++ txQ r n) := by
  cases l with
  | nil => simp [rowTx, txR]
  | cons m l => rw [List.cons_append, rowTx, rowTx, txR_snoc, if_neg (by simp)]; simp
theorem bulks_take {l : List Tr} {j : Nat} {y : Tr} (h : l[j]? = some y) : Tr.bulks (l.take j) + y.bulk = Tr.bulks (l.take (j + 1)) ∧ Tr.bulks (l.take (j + 1)) ≤ Tr.bulks l := by
  induction l generalizing j with
  | nil => simp at h
  | cons m l ih =>
    cases j with
    | zero => simp at h; subst h; simp [Tr.bulks]
    | succ j =>
      have := ih (j := j) (by simpa using h)
      simp only [List.take_succ_cons, Tr.bulks]
      omega
theorem take_snoc {l : List Tr} {j : Nat} {y : Tr} (h : l[j]? = some y) : l.take (j + 1) = l.take j ++ [y] := by
  rw [List.take_add_one, h]
  rfl
/-- What stands of a row behind j parts. -/
def RowJ (S : List UInt8) (r b : Nat) (A : List UInt8) (l : List Tr) (w : World) (j : Nat) (wr : World) : Prop :=
  ∃ A' : List UInt8, Wr A (rowTx S r (l.take j)) A' ∧ A'.length ≤ A.length + 3000 * Tr.bulks (l.take j) ∧ Pg b b (Lib.byteCells A') wr ∧ Below b w wr ∧ Oth b w wr
theorem size_ge {b : Nat} {w w' : World} (h : Below b w w') : w.heap.size ≤ w'.heap.size := h.size
set_option maxRecDepth 100000 in
set_option maxHeartbeats 6400000 in
theorem prow_any {l : List Tr} (IH : ∀ m ∈ l, ExprC m) (ho : ∀ m ∈ l, OkT m) (S : List UInt8) (hS : S.length ≤ 3) (r b nb pb : Nat) (A : List UInt8) (w : World) (P : Nat → Prop) {k p : Int} {t : List UInt8} {x : BitVec 256} {v : Value}
    (hbox : w.heap[nb]? = some (.cells (trC k t x v p).toArray 40 (0, 0))) (hpb : w.heap[pb]? = some (.cells #[.pointer (some ⟨b, 0, none⟩)] 153 (0, 0))) (_ : nb ≠ b) (hpn : pb ≠ b) (hl : RepL w P l v) (hP : ∀ x, P x → x < b) (hp : Pg b b (Lib.byteCells A) w) (hlen : A.length + 3000 * Tr.bulks l ≤ 99999999997010) :
    Calls Tryz.prog 90 #[.string ⟨S.toArray⟩, .int .i64 (r : Nat), .pointer (some ⟨nb, 0, none⟩), .pointer (some ⟨pb, 0, none⟩)] w (PgP b A (rowTx S r l) (3000 * Tr.bulks l) w) := by
  obtain ⟨n, hn⟩ : ∃ n, n = l.length := ⟨_, rfl⟩
  obtain ⟨a, cap, rfl, hcap, hmax⟩ := hl.slice
  have hblt := pg_lt hp
  have hm1 := cell_alloc_lt
  have HL := Lib.hid hl
  have HP := Lib.hid hP
  have HI := Lib.hid IH
  have HO := Lib.hid ho
  have HPB := Lib.hid hpb
  have HST := Lib.hid (show RowJ S r b A l w 0 w from ⟨A, Wr.refl A, by simp, hp, Below.refl _ _, Lib.OthersKept.refl _ _ _⟩)
  rw [← hn] at hcap hmax hbox
  have HN := Lib.hid hn
  unfold maxLen at hmax
  dsimp only [trC] at hbox
  have s6 : w.cell? ⟨nb, 6, none⟩ = some (.slice a n cap) := (cells_at hbox).1 6
  clear hl hP IH ho hpb hp hn hbox
  go_enter Tryz.func90, Tryz.ntmps90
  repeat (first | go_values | go_skip | go_guarded | go_step | go_upon)
  go_loopw [11] (fun tt wr => ∃ j : Nat, tt = .int .i64 (j : Int) ∧ j ≤ n ∧ Hid (RowJ S r b A l w j wr)) (fun tt _ => n - (intOf tt).toNat)
  case atStart => exact ⟨0, rfl, Nat.zero_le _, HST⟩
  case round =>
    obtain ⟨j, rfl, hj, hI⟩ := hrel
    obtain ⟨Aj, i1, i2, i3, i4, i5⟩ := hI.out
    by_cases hlt : j < n
    · have hlt2 : j < l.length := by rw [← HN.out]; exact hlt
      obtain ⟨y, hy⟩ : ∃ y, l[j]? = some y := ⟨l[j], List.getElem?_eq_getElem hlt2⟩
      have hmem := List.mem_of_getElem? hy
      have hbk := bulks_take hy
      have hbp := bulk_pos y
      rcases HL.out.parts with ⟨e, _⟩ | ⟨e, _⟩ | ⟨g, o, cap', e, hg, _, _, _, hr⟩
      · rw [e] at hlt2; simp at hlt2
      · rw [e] at hlt2; simp at hlt2
      · obtain rfl : a = some ⟨g, o, none⟩ := by injection e
        have hPw : ∀ b', P b' → wr.heap[b']? = w.heap[b']? := fun b' hb' => i4.block b' (HP.out b' hb')
        have hsz := i4.size
        obtain ⟨k1, t1, x1, sa, sn, sc, p1, l1, _, q0, _, a0, a1, a2, a3, a4, a5, a6, a7⟩ := (hr.mono (w' := wr) (P' := P) hPw (fun _ h => h) hg).get hy
        have hpb2 := oth_cell i5 HPB.out hpn (by decide)
        have qp := (Array.getElem?_eq_some_iff.1 hpb2).1
        have c0 : wr.cell? ⟨pb, 0, none⟩ = some (.pointer (some ⟨b, 0, none⟩)) := (cells_at hpb2).1 0
        have qb := pg_lt i3
        have d1 : decide ((j : Int) < n) = true := by simpa using hlt
        have k5 : IntKind.i64.wrap ((j : Int) + 1) = (j : Int) + 1 := by rw [IntKind.wrap_i64]; omega
        have HC := Lib.hid (fun (A2 : List UInt8) (w2 : World) (hA : A2.length + 3 + 3000 * y.bulk ≤ 100000000000000) (h2 : Pg b b (Lib.byteCells A2) w2) (hw : Below b w w2) => ppart_any (HI.out y hmem) r b A2 w2 P _ (q0.mono (w' := w2) (fun b' hb' => (hw.block b' (HP.out b' hb')).trans (hPw b' hb').symm) (fun _ h => h)) HP.out h2 hA (HO.out y hmem))
        have HTK := Lib.hid (take_snoc hy)
        have HI1 := Lib.hid i1
        have HI3 := Lib.hid i3
        have HI4 := Lib.hid i4
        have HI5 := Lib.hid i5
        have HBX := Lib.hid (heap_alloc_new wr (.cells (trC k1 t1 x1 (.slice sa sn sc) p1).toArray 40))
        have HBP := Lib.hid ((RowKit.Below.heap_alloc wr (.cells (trC k1 t1 x1 (.slice sa sn sc) p1).toArray 40) pb qp).trans hpb2)
        have HPG := Lib.hid (pg_below i3 (bal (Below.refl _ wr) (.cells (trC k1 t1 x1 (.slice sa sn sc) p1).toArray 40)))
        have HLE := Lib.hid (show (l.take j).length = j by rw [List.length_take]; omega)
        clear hy hmem q0 hr e hPw hI i1 i3 i4 i5 hpb2
        dsimp only [trC] at HC HBX HBP HPG
        by_cases hj0 : j = 0
        · have d2 : decide ((0 : Int) < (j : Int)) = false := by simp; omega
          have d2' : decide (0 < j) = false := by simp; omega
          have HJ0 := Lib.hid hj0
          clear hj0
          repeat (first | go_values | go_skip | go_guarded | go_step | go_upon)
          refine (HC.out Aj _ (by omega) HPG.out (HI4.out.trans ((bal (Below.refl _ wr) _).mono (Nat.le_of_lt qb)))).mono ?_
          rintro e w2 ⟨rfl, A2, h1, h2, h3, h4, h5⟩
          have HF := Lib.hid (show RowJ S r b A l w (j + 1) w2 from ⟨A2, by
            rw [HTK.out, rowTx_snoc, HLE.out, if_pos HJ0.out, List.nil_append]
            exact HI1.out.trans h1, by omega, h3, HI4.out.trans (((bal (Below.refl _ wr) _).mono (Nat.le_of_lt qb)).trans h4), (HI5.out.alloc _).trans h5⟩)
          clear h1 h2 h3 h4 h5
          dsimp only
          repeat (first | go_values | go_skip | go_guarded | go_step | go_upon)
          exact ⟨⟨j + 1, by go_num, by omega, HF⟩, by simp [intOf]; omega⟩
        · have d2 : decide ((0 : Int) < (j : Int)) = true := by simp; omega
          have d2' : decide (0 < j) = true := by simp; omega
          have HJ0 := Lib.hid hj0
          clear hj0
          repeat (first | go_values | go_skip | go_guarded | go_step | go_upon)
          refine (pg_ws b Aj S _ HPG.out (by omega)).mono ?_
          rintro e w3 ⟨rfl, hB3, hb3, ho3⟩
          have hbx3 := oth_cell ho3 HBX.out (by omega) (by decide)
          have hbp3 := oth_cell ho3 HBP.out hpn (by decide)
          have cB3 := (cells_at hbx3).1
          have cP3 : w3.cell? ⟨pb, 0, none⟩ = some (.pointer (some ⟨b, 0, none⟩)) := (cells_at hbp3).1 0
          have HB3 := Lib.hid (show Below b w w3 from HI4.out.trans (((bal (Below.refl _ wr) _).mono (Nat.le_of_lt qb)).trans hb3))
          clear hbx3 hbp3
          dsimp only
          repeat (first | go_values | go_skip | go_guarded | go_step | go_upon)
          refine (HC.out (Aj ++ S) _ (by rw [List.length_append]; omega) hB3 HB3.out).mono ?_
          rintro e w2 ⟨rfl, A2, h1, h2, h3, h4, h5⟩
          rw [List.length_append] at h2
          have HF := Lib.hid (show RowJ S r b A l w (j + 1) w2 from ⟨A2, by
            rw [HTK.out, rowTx_snoc, HLE.out, if_neg HJ0.out]
            exact HI1.out.trans ((Wr.put Aj S).trans h1), by omega, h3, HB3.out.trans h4, (HI5.out.alloc _).trans (ho3.trans h5)⟩)
          clear h1 h2 h3 h4 h5
          dsimp only
          repeat (first | go_values | go_skip | go_guarded | go_step | go_upon)
          exact ⟨⟨j + 1, by go_num, by omega, HF⟩, by simp [intOf]; omega⟩
    · have d1 : decide (j < n) = false := by simpa using hlt
      have hjn : j = l.length := by rw [← HN.out]; omega
      rw [hjn, List.take_length] at i1 i2
      have HF := Lib.hid (show PgP b A (rowTx S r l) (3000 * Tr.bulks l) w (.returned (.tuple #[])) wr from ⟨rfl, Aj, i1, i2, i3, i4, i5⟩)
      clear hlt hjn i1 i2 i3 i4 i5 hI
      repeat (first | go_values | go_skip | go_guarded | go_step | go_upon)
      go_end0
      exact HF.out
end Go.Proofs.YtjlcoldnhbkcgaaGreatDoor
