/- The walks of ClassBack and ClassNegs. -/
import Derived.Test.YtfnbdpigpeonmaaParN
import Derived.Test.YtfnbdpigpeonmaaParL
import Derived.Test.YtfnbdpigpeonmaaTxtW
import Derived.Test.YtfnbdpigpeonmaaEq
import Derived.IntWalk
namespace Go.Proofs.Ytfnbdpigpeonmaa
open Go.RowKit Go.Sort

theorem bl_mk (l : List UInt8) : bl ⟨l.toArray⟩ = l := by simp [bl]
theorem bl_app (A B : ByteArray) : bl (A ++ B) = bl A ++ bl B := by simp [bl, ByteArray.data_append]
theorem size_mk (l : List UInt8) : (⟨l.toArray⟩ : ByteArray).size = l.length := by simp [ByteArray.size]
theorem size_app (A B : ByteArray) : (A ++ B).size = A.size + B.size := by rw [← bl_length, bl_app, List.length_append, bl_length, bl_length]
theorem txt_bd (c : BitVec 256) : 2 ≤ (txt c).length ∧ (txt c).length ≤ 2400 := by
  have h1 := txK_len (runs c) (runs c).length
  have h2 : (runs c).length ≤ 257 := runs_len c 257 _
  have h3 := txt_length c
  have h4 : (txt c).length = (txK (runs c) (runs c).length).length + 1 := by rw [txt]; simp
  omega
set_option maxRecDepth 100000 in
set_option maxHeartbeats 1600000 in
theorem back_any (c : BitVec 256) (T : ByteArray) (w : World) (hT : T.size ≤ 140737488351232) : Calls Try.prog 7 #[.agg #[.int .u64 (wd c 0), .int .u64 (wd c 1), .int .u64 (wd c 2), .int .u64 (wd c 3)], .string T] w (Ans (.bool true) w) := by
  have f7 := guard_cl
  have f8 := equal_cl
  have f9 : (c == c) = true := by simp
  have hbd := txt_bd c
  by_cases hlt : 1048576 < T.size
  · have d1 : decide ((1048576 : Int) < T.size) = true := by simp; omega
    clear hlt
    go_enter Try.func7, Try.ntmps7
    repeat (first | go_values | go_skip | go_guarded | go_step | go_upon)
    go_ret
    exact ⟨rfl, (by repeat (first | exact Below.refl _ _ | assumption | refine bal ?_ _ | refine bdr ?_ | refine bdrn ?_ _ | (refine bset ?_ (by first | exact Nat.le_refl _ | (simp; done) | (simp; omega) | omega) _) | refine bstep ?_ (by assumption)))⟩
  · have d1 : decide ((1048576 : Int) < T.size) = false := by simp; omega
    have HP := Lib.hid (show parsed (bl (⟨(txt c).toArray⟩ ++ T)) = .inr (c, (txt c).length) by rw [bl_app, bl_mk]; exact parsed_txt c _)
    have hz : (⟨(txt c).toArray⟩ ++ T : ByteArray).size ≤ 140737488355328 := by rw [size_app, size_mk]; omega
    have HZ := Lib.hid hz
    clear hlt hz
    go_enter Try.func7, Try.ntmps7
    repeat (first | go_values | go_skip | go_guarded | go_step | go_upon)
    refine (text_any _ _).mono ?_
    rintro e w1 ⟨rfl, hb1⟩
    obtain ⟨hc1, hf1⟩ := bcell hb1
    have hz1 := hb1.size
    try simp at hz1
    have q1_0 : w.heap.size < w1.heap.size := by omega
    dsimp only
    repeat (first | go_values | go_skip | go_guarded | go_step | go_upon)
    refine (parse_ok _ _ HZ.out HP.out).mono ?_
    rintro e w2 ⟨rfl, hb2⟩
    obtain ⟨hc2, hf2⟩ := bcell hb2
    have hz2 := hb2.size
    try simp at hz2
    have q2_0 : w.heap.size < w2.heap.size := by omega
    dsimp only
    have hl1 := size_mk (txt c)
    have d2 : decide (2 ≤ (txt c).length) = true := by simp; omega
    repeat (first | go_values | go_skip | go_guarded | go_step | go_upon)
    go_ret
    exact ⟨ret_bool (by simp; omega), (by repeat (first | exact Below.refl _ _ | assumption | refine bal ?_ _ | refine bdr ?_ | refine bdrn ?_ _ | (refine bset ?_ (by first | exact Nat.le_refl _ | (simp; done) | (simp; omega) | omega) _) | refine bstep ?_ (by assumption)))⟩
theorem bl_extract (A : ByteArray) (a b : Nat) : bl (A.extract a b) = ((bl A).take b).drop a := by
  simp [bl, ByteArray.data_extract, List.drop_take]
theorem grown_new (w : World) (cs : Array Value) (T : TypeId) (j : Nat) (v : Value) (h : cs[j]? = some v) (d : Nat) (os : Array Obj) : (grow (redrawn (w.alloc (.cells cs T)) d) os).cell? ⟨w.heap.size, j, none⟩ = some v := by
  rw [grown_cell _ d os ⟨w.heap.size, j, none⟩ (by simp), (cells_at (heap_alloc_new w (.cells cs T))).1 j, h]
theorem neg_bl (c : BitVec 256) : bl ((⟨#[91, 94]⟩ : ByteArray) ++ (⟨(txt c).toArray⟩ : ByteArray).extract 1 (txt c).length) = 91 :: 94 :: (txt c).drop 1 := by
  rw [bl_app, bl_extract, bl_mk (txt c), List.take_length]; rfl
theorem neg_parsed (c : BitVec 256) : parsed (bl ((⟨#[91, 94]⟩ : ByteArray) ++ (⟨(txt c).toArray⟩ : ByteArray).extract 1 (txt c).length)) = .inr (~~~c, (txt c).length + 1) := by rw [neg_bl]; exact parsed_neg c
theorem neg_size (c : BitVec 256) : ((⟨#[91, 94]⟩ : ByteArray) ++ (⟨(txt c).toArray⟩ : ByteArray).extract 1 (txt c).length).size ≤ 140737488355328 := by
  have hbd := txt_bd c
  rw [← bl_length, neg_bl]; simp only [List.length_cons, List.length_drop]; omega
set_option maxRecDepth 100000 in
set_option maxHeartbeats 1600000 in
theorem negs_any (c : BitVec 256) (w : World) : Calls Try.prog 8 #[.agg #[.int .u64 (wd c 0), .int .u64 (wd c 1), .int .u64 (wd c 2), .int .u64 (wd c 3)]] w (Ans (.bool true) w) := by
  have f7 := guard_cl
  have f8 := equal_cl
  have f9 : ∀ c : BitVec 256, (c == c) = true := fun c => by simp
  have hbd := txt_bd c
  have hl1 := size_mk (txt c)
  have HP := Lib.hid (neg_parsed c)
  have HZ := Lib.hid (neg_size c)
  have d2 : decide (((txt c).length : Int) < 2) = false := by simp; omega
  have d3 : 1 ≤ (txt c).length := by omega
  go_enter Try.func8, Try.ntmps8
  repeat (first | go_values | go_skip | go_guarded | go_step | go_upon)
  refine (text_any _ _).mono ?_
  rintro e w1 ⟨rfl, hb1⟩
  obtain ⟨hc1, hf1⟩ := bcell hb1
  have hz1 := hb1.size
  try simp at hz1
  have q1_0 : w.heap.size < w1.heap.size := by omega
  dsimp only
  repeat (first | go_values | go_skip | go_guarded | go_step | go_upon)
  repeat (first | go_values | go_skip | go_guarded | go_step | go_upon)
  refine (parse_ok _ _ HZ.out HP.out).mono ?_
  rintro e w2 ⟨rfl, hb2⟩
  obtain ⟨hc2, hf2⟩ := bcell hb2
  have hz2 := hb2.size
  try simp at hz2
  have q2_0 : w.heap.size < w2.heap.size := by omega
  dsimp only
  have hw : IntKind.i64.wrap (((txt c).length : Int) + 1) = ((txt c).length : Int) + 1 := IntWalk.i64_in _ (by omega)
  repeat (first | go_values | go_skip | go_guarded | go_step | go_upon)
  have hG := grown_cell
  have g3_0 : w.heap.size < w2.heap.size + 1 := by omega
  have g3_1 : w2.heap.size < w2.heap.size + 1 := by omega
  refine wp_region_qb (by kernel_rfl) (by kernel_rfl) ?_
  repeat (quiet_step (first | (with_reducible exact ans_quiet (not_any _ _))))
  refine wpQuiet_nil ?_
  intro w3 hb3
  clear hG
  obtain ⟨hc3, hf3⟩ := bcell hb3
  have hz3 := hb3.size
  try simp at hz3
  have q3_0 : w.heap.size < w3.heap.size := by omega
  have q3_1 : w2.heap.size < w3.heap.size := by omega
  repeat (first | go_values | go_skip | go_guarded | go_step | go_upon)
  go_ret
  exact ⟨rfl, (by repeat (first | exact Below.refl _ _ | assumption | refine bal ?_ _ | refine bdr ?_ | refine bdrn ?_ _ | (refine bset ?_ (by first | exact Nat.le_refl _ | (simp; done) | (simp; omega) | omega) _) | refine bstep ?_ (by assumption)))⟩
end Go.Proofs.Ytfnbdpigpeonmaa
