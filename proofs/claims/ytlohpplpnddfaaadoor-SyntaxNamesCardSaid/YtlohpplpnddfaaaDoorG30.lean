/- The walk of the document's token. | The walk of the document's Tokens. | The tokens of the check's own lexer, by the plain law. -/
import Derived.Test.YtlohpplpnddfaaaDoorG26
import Derived.Test.YtlohpplpnddfaaaDoorG29
import Derived.Test.YtlohpplpnddfaaaDoorG9
import Derived.Test.YtlohpplpnddfaaaDoorG23
import Derived.Test.YtlohpplpnddfaaaDoorG11
namespace Go.Proofs.YtlohpplpnddfaaaDoor
open Go.RowKit Go.Sort

/-- A token as a value. -/
def tokV (t : Tok) : Value := .agg #[.int .i64 (t.kind : Int), .string (mkS t.text), .int .u64 (wd t.cls 0), .int .u64 (wd t.cls 1), .int .u64 (wd t.cls 2), .int .u64 (wd t.cls 3), .int .i64 (t.pos : Int)]
def tok0 : Value := .agg #[.int .i64 0, .string ⟨#[]⟩, .int .u64 0, .int .u64 0, .int .u64 0, .int .u64 0, .int .i64 0]
def gotT : Got Tok → Value
  | .inr (t, n) => .tuple #[tokV t, .int .i64 (n : Int), .int .i64 0]
  | .inl (e, n) => .tuple #[tok0, .int .i64 (n : Int), .int .i64 (e : Int)]
theorem ext_mk (S : ByteArray) (a n : Nat) : S.extract a (a + n) = mkS (((bl S).drop a).take n) := by
  apply nbl_inj
  rw [bl_cut]
  simp [cutS, mkS, bl]
theorem ext_one {S : ByteArray} {a : Nat} (ha : a < S.size) : S.extract a (a + 1) = mkS [S[a].toNat.toUInt8] := by
  apply nbl_inj
  have hl := bl_length S
  have ha2 : a < (bl S).length := by omega
  rw [bl_cut, cutS_one ha2]
  have : (bl S)[a]'ha2 = S[a].toNat.toUInt8 := by
    apply UInt8.toNat_inj.1
    rw [el_bl ha ha2]
    simp
  rw [this]
  simp [mkS, bl]
  rfl
theorem bsetL {a w : World} (h : Below a.heap.size a w) (i : Nat) (u : Value) : Below a.heap.size a (w.setCell ⟨a.heap.size, i, none⟩ u) := h.setCell (Nat.le_refl _) u
theorem toNat_u8 {c : UInt8} : c.toNat.toUInt8 = c := by simp
set_option maxRecDepth 100000 in
set_option maxHeartbeats 1600000 in
theorem tk_long (S : ByteArray) (a : Nat) (w : World) (hs : S.size ≤ 100000) (ha : a < S.size) (h : 32 < nameLen (bl S) a) :
    Calls Tryd.prog 68 #[.string S, .int .i64 (a : Int)] w (Ans (gotT (tokAt (bl S) a)) w) := by
  have hlen := bl_length S
  have hs2 : S.size ≤ 140737488355328 := by omega
  have hv := byteAt_ba ha
  have h256 := UInt8.toNat_lt S[a]
  have HN := Lib.hid (fun w => letters_any S a w hs2 (by omega))
  have HB := Lib.hid (fun w => signs_any S[a].toNat _ w rfl)
  have d1 : decide ((32 : Int) < (nameLen (bl S) a : Nat)) = true := by simp; omega
  generalize hb : isSign S[a].toNat = b at *
  have HO := Lib.hid (show tokAt (bl S) a = .inl (2, a) by rw [tokAt, if_pos h])
  rw [HO.out]
  clear HO hv hb h
  go_enter Tryd.func68, Tryd.ntmps68
  repeat (first | go_values | go_skip | go_guarded | go_step | go_upon)
  refine (HN.out _).mono ?_
  rintro e w1 ⟨rfl, hb1⟩
  obtain ⟨hc1, hf1⟩ := bcell hb1
  have hz1 := hb1.size
  try simp at hz1
  have q1_0 : w.heap.size < w1.heap.size := by omega
  dsimp only
  repeat (first | go_values | go_skip | go_guarded | go_step | go_upon)
  refine (HB.out _).mono ?_
  rintro e w2 ⟨rfl, hb2⟩
  obtain ⟨hc2, hf2⟩ := bcell hb2
  have hz2 := hb2.size
  try simp at hz2
  have q2_0 : w.heap.size < w2.heap.size := by omega
  dsimp only
  
  repeat (first | go_values | go_skip | go_guarded | go_step | go_upon)
  refine bodyPost_ret (v := gotT (.inl (2, a))) (by simp [gotT, tok0, results, Tryd.results68, go_sem, hc1, hc2, q1_0]) rfl ?_
  refine ⟨rfl, ?_⟩
  repeat (first | (with_reducible exact Below.refl _ _) | (with_reducible assumption) | (with_reducible refine bal ?_ _) | (with_reducible refine bdr ?_) | (with_reducible refine bdrn ?_ _) | (with_reducible refine bset ?_ (by first | exact Nat.le_refl _ | (simp; done) | (simp; omega) | omega) _) | (with_reducible refine bstep ?_ (by assumption)))
set_option maxRecDepth 100000 in
set_option maxHeartbeats 1600000 in
theorem tk_name (S : ByteArray) (a : Nat) (w : World) (hs : S.size ≤ 100000) (ha : a < S.size) (h : ¬ 32 < nameLen (bl S) a) (h1 : 0 < nameLen (bl S) a) :
    Calls Tryd.prog 68 #[.string S, .int .i64 (a : Int)] w (Ans (gotT (tokAt (bl S) a)) w) := by
  have hlen := bl_length S
  have hs2 : S.size ≤ 140737488355328 := by omega
  have hv := byteAt_ba ha
  have h256 := UInt8.toNat_lt S[a]
  have HN := Lib.hid (fun w => letters_any S a w hs2 (by omega))
  have HB := Lib.hid (fun w => signs_any S[a].toNat _ w rfl)
  have d1 : decide ((32 : Int) < (nameLen (bl S) a : Nat)) = false := by simp; omega
  have d2 : decide ((0 : Int) < (nameLen (bl S) a : Nat)) = true := by simp; omega
  have d3 : decide (0 < nameLen (bl S) a) = true := by simp; omega
  generalize hb : isSign S[a].toNat = b at *
  have hin := nameLen_in (bl S) a (by omega)
  have hE := ext_mk S a (nameLen (bl S) a)
  have HO := Lib.hid (show tokAt (bl S) a = .inr (⟨1, ((bl S).drop a).take (nameLen (bl S) a), 0, a⟩, a + nameLen (bl S) a) by rw [tokAt, if_neg h, if_pos h1])
  rw [HO.out]
  clear HO hv hb h h1
  go_enter Tryd.func68, Tryd.ntmps68
  repeat (first | go_values | go_skip | go_guarded | go_step | go_upon)
  refine (HN.out _).mono ?_
  rintro e w1 ⟨rfl, hb1⟩
  obtain ⟨hc1, hf1⟩ := bcell hb1
  have hz1 := hb1.size
  try simp at hz1
  have q1_0 : w.heap.size < w1.heap.size := by omega
  dsimp only
  repeat (first | go_values | go_skip | go_guarded | go_step | go_upon)
  refine (HB.out _).mono ?_
  rintro e w2 ⟨rfl, hb2⟩
  obtain ⟨hc2, hf2⟩ := bcell hb2
  have hz2 := hb2.size
  try simp at hz2
  have q2_0 : w.heap.size < w2.heap.size := by omega
  dsimp only
  repeat (first | go_values | go_skip | go_guarded | go_step | go_upon)
  refine bodyPost_ret (v := gotT (.inr (⟨1, ((bl S).drop a).take (nameLen (bl S) a), 0, a⟩, a + nameLen (bl S) a))) (by simp [gotT, tokV, mkS, wd_zero, results, Tryd.results68, go_sem, hc1, hc2, q1_0, hE]) rfl ?_
  refine ⟨rfl, ?_⟩
  repeat (first | (with_reducible exact Below.refl _ _) | (with_reducible assumption) | (with_reducible refine bal ?_ _) | (with_reducible refine bdr ?_) | (with_reducible refine bdrn ?_ _) | (with_reducible refine bset ?_ (by first | exact Nat.le_refl _ | (simp; done) | (simp; omega) | omega) _) | (with_reducible refine bstep ?_ (by assumption)))
set_option maxRecDepth 100000 in
set_option maxHeartbeats 1600000 in
theorem tk_sign (S : ByteArray) (a : Nat) (w : World) (hs : S.size ≤ 100000) (ha : a < S.size) (h0 : nameLen (bl S) a = 0) (hsg : isSign S[a].toNat = true) :
    Calls Tryd.prog 68 #[.string S, .int .i64 (a : Int)] w (Ans (gotT (tokAt (bl S) a)) w) := by
  have hlen := bl_length S
  have hs2 : S.size ≤ 140737488355328 := by omega
  have hv := byteAt_ba ha
  have h256 := UInt8.toNat_lt S[a]
  have HN := Lib.hid (fun w => h0 ▸ letters_any S a w hs2 (by omega))
  have HB := Lib.hid (fun w => signs_any S[a].toNat _ w hsg)
  have hE := ext_one ha
  have e2 : ((a : Int) + 1).toNat = a + 1 := by omega
  have HO := Lib.hid (show tokAt (bl S) a = .inr (⟨5, [S[a].toNat.toUInt8], 0, a⟩, a + 1) by rw [tokAt, h0, if_neg (by decide), if_neg (by decide), hv, if_pos hsg])
  rw [HO.out]
  clear HO hv h0 hsg
  go_enter Tryd.func68, Tryd.ntmps68
  repeat (first | go_values | go_skip | go_guarded | go_step | go_upon)
  refine (HN.out _).mono ?_
  rintro e w1 ⟨rfl, hb1⟩
  obtain ⟨hc1, hf1⟩ := bcell hb1
  have hz1 := hb1.size
  try simp at hz1
  have q1_0 : w.heap.size < w1.heap.size := by omega
  dsimp only
  repeat (first | go_values | go_skip | go_guarded | go_step | go_upon)
  refine (HB.out _).mono ?_
  rintro e w2 ⟨rfl, hb2⟩
  obtain ⟨hc2, hf2⟩ := bcell hb2
  have hz2 := hb2.size
  try simp at hz2
  have q2_0 : w.heap.size < w2.heap.size := by omega
  dsimp only
  repeat (first | go_values | go_skip | go_guarded | go_step | go_upon)
  refine bodyPost_ret (v := gotT (.inr (⟨5, [S[a].toNat.toUInt8], 0, a⟩, a + 1))) (by simp [gotT, tokV, mkS, wd_zero, results, Tryd.results68, go_sem, hc1, hc2, q1_0]) rfl ?_
  refine ⟨rfl, ?_⟩
  repeat (first | (with_reducible exact Below.refl _ _) | (with_reducible assumption) | (with_reducible refine bal ?_ _) | (with_reducible refine bdr ?_) | (with_reducible refine bdrn ?_ _) | (with_reducible refine bset ?_ (by first | exact Nat.le_refl _ | (simp; done) | (simp; omega) | omega) _) | (with_reducible refine bstep ?_ (by assumption)))
set_option maxRecDepth 100000 in
set_option maxHeartbeats 1600000 in
theorem tk_arrow (S : ByteArray) (a : Nat) (w : World) (hs : S.size ≤ 100000) (ha : a < S.size) (h0 : nameLen (bl S) a = 0) (hsg : isSign S[a].toNat = false) (h60 : S[a].toNat = 60) (hb1 : a + 1 < S.size) (h45 : byteAt (bl S) (a + 1) = 45) :
    Calls Tryd.prog 68 #[.string S, .int .i64 (a : Int)] w (Ans (gotT (tokAt (bl S) a)) w) := by
  have hlen := bl_length S
  have hs2 : S.size ≤ 140737488355328 := by omega
  have hv := byteAt_ba ha
  have h256 := UInt8.toNat_lt S[a]
  have HN := Lib.hid (fun w => h0 ▸ letters_any S a w hs2 (by omega))
  have HB := Lib.hid (fun w => signs_any S[a].toNat _ w hsg)
  have m60 : ((S[a].toNat : Int) == 60) = true := by simp; omega
  have hv2 := byteAt_ba hb1
  have d3 : decide ((a : Int) + 1 < S.size) = true := by simp; omega
  have ei : ((a : Int) + 1).toNat = a + 1 := by omega
  have b0 : 0 ≤ (a : Int) + 1 := by omega
  have b1 : (a : Int) + 1 < S.size := by omega
  have m45 : ((S[a + 1].toNat : Int) == 45) = true := by rw [← hv2]; simp; omega
  have HO := Lib.hid (show tokAt (bl S) a = .inr (⟨2, [], 0, a⟩, a + 2) by rw [tokAt, h0, if_neg (by decide), if_neg (by decide), hv, hsg, if_neg (by decide), if_pos ⟨h60, h45⟩])
  rw [HO.out]
  clear HO hv hv2 h0 hsg h60 h45
  go_enter Tryd.func68, Tryd.ntmps68
  repeat (first | go_values | go_skip | go_guarded | go_step | go_upon)
  refine (HN.out _).mono ?_
  rintro e w1 ⟨rfl, hb1⟩
  obtain ⟨hc1, hf1⟩ := bcell hb1
  have hz1 := hb1.size
  try simp at hz1
  have q1_0 : w.heap.size < w1.heap.size := by omega
  dsimp only
  repeat (first | go_values | go_skip | go_guarded | go_step | go_upon)
  refine (HB.out _).mono ?_
  rintro e w2 ⟨rfl, hb2⟩
  obtain ⟨hc2, hf2⟩ := bcell hb2
  have hz2 := hb2.size
  try simp at hz2
  have q2_0 : w.heap.size < w2.heap.size := by omega
  dsimp only
  
  repeat (first | go_values | go_skip | go_guarded | go_step | go_upon)
  refine bodyPost_ret (v := gotT (.inr (⟨2, [], 0, a⟩, a + 2))) (by simp [gotT, tokV, mkS, wd_zero, results, Tryd.results68, go_sem, hc1, hc2, q1_0]) rfl ?_
  refine ⟨rfl, ?_⟩
  repeat (first | (with_reducible exact Below.refl _ _) | (with_reducible assumption) | (with_reducible refine bal ?_ _) | (with_reducible refine bdr ?_) | (with_reducible refine bdrn ?_ _) | (with_reducible refine bset ?_ (by first | exact Nat.le_refl _ | (simp; done) | (simp; omega) | omega) _) | (with_reducible refine bstep ?_ (by assumption)))
set_option maxRecDepth 100000 in
set_option maxHeartbeats 1600000 in
theorem tk_lt1 (S : ByteArray) (a : Nat) (w : World) (hs : S.size ≤ 100000) (ha : a < S.size) (h0 : nameLen (bl S) a = 0) (hsg : isSign S[a].toNat = false) (h60 : S[a].toNat = 60) (hb1 : S.size ≤ a + 1) :
    Calls Tryd.prog 68 #[.string S, .int .i64 (a : Int)] w (Ans (gotT (tokAt (bl S) a)) w) := by
  have hlen := bl_length S
  have hs2 : S.size ≤ 140737488355328 := by omega
  have hv := byteAt_ba ha
  have h256 := UInt8.toNat_lt S[a]
  have HN := Lib.hid (fun w => h0 ▸ letters_any S a w hs2 (by omega))
  have HB := Lib.hid (fun w => signs_any S[a].toNat _ w hsg)
  have m60 : ((S[a].toNat : Int) == 60) = true := by simp; omega
  have m39 : ((S[a].toNat : Int) == 39) = false := by simp; omega
  have m34 : ((S[a].toNat : Int) == 34) = false := by simp; omega
  have m91 : ((S[a].toNat : Int) == 91) = false := by simp; omega
  have d3 : decide ((a : Int) + 1 < S.size) = false := by simp; omega
  have HO := Lib.hid (show tokAt (bl S) a = .inl (4, a) by rw [tokAt, h0, if_neg (by decide), if_neg (by decide), hv, hsg, if_neg (by decide), if_neg (by rw [byteAt_bge hb1]; omega), if_neg (by omega), if_neg (by omega)])
  rw [HO.out]
  clear HO hv h0 hsg h60
  go_enter Tryd.func68, Tryd.ntmps68
  repeat (first | go_values | go_skip | go_guarded | go_step | go_upon)
  refine (HN.out _).mono ?_
  rintro e w1 ⟨rfl, hb1⟩
  obtain ⟨hc1, hf1⟩ := bcell hb1
  have hz1 := hb1.size
  try simp at hz1
  have q1_0 : w.heap.size < w1.heap.size := by omega
  dsimp only
  repeat (first | go_values | go_skip | go_guarded | go_step | go_upon)
  refine (HB.out _).mono ?_
  rintro e w2 ⟨rfl, hb2⟩
  obtain ⟨hc2, hf2⟩ := bcell hb2
  have hz2 := hb2.size
  try simp at hz2
  have q2_0 : w.heap.size < w2.heap.size := by omega
  dsimp only
  
  repeat (first | go_values | go_skip | go_guarded | go_step | go_upon)
  refine bodyPost_ret (v := gotT (.inl (4, a))) (by simp [gotT, tok0, results, Tryd.results68, go_sem, hc1, hc2, q1_0]) rfl ?_
  refine ⟨rfl, ?_⟩
  repeat (first | (with_reducible exact Below.refl _ _) | (with_reducible assumption) | (with_reducible refine bal ?_ _) | (with_reducible refine bdr ?_) | (with_reducible refine bdrn ?_ _) | (with_reducible refine bset ?_ (by first | exact Nat.le_refl _ | (simp; done) | (simp; omega) | omega) _) | (with_reducible refine bstep ?_ (by assumption)))
set_option maxRecDepth 100000 in
set_option maxHeartbeats 1600000 in
theorem tk_lt2 (S : ByteArray) (a : Nat) (w : World) (hs : S.size ≤ 100000) (ha : a < S.size) (h0 : nameLen (bl S) a = 0) (hsg : isSign S[a].toNat = false) (h60 : S[a].toNat = 60) (hb1 : a + 1 < S.size) (h45 : byteAt (bl S) (a + 1) ≠ 45) :
    Calls Tryd.prog 68 #[.string S, .int .i64 (a : Int)] w (Ans (gotT (tokAt (bl S) a)) w) := by
  have hlen := bl_length S
  have hs2 : S.size ≤ 140737488355328 := by omega
  have hv := byteAt_ba ha
  have h256 := UInt8.toNat_lt S[a]
  have HN := Lib.hid (fun w => h0 ▸ letters_any S a w hs2 (by omega))
  have HB := Lib.hid (fun w => signs_any S[a].toNat _ w hsg)
  have m60 : ((S[a].toNat : Int) == 60) = true := by simp; omega
  have m39 : ((S[a].toNat : Int) == 39) = false := by simp; omega
  have m34 : ((S[a].toNat : Int) == 34) = false := by simp; omega
  have m91 : ((S[a].toNat : Int) == 91) = false := by simp; omega
  have hv2 := byteAt_ba hb1
  have d3 : decide ((a : Int) + 1 < S.size) = true := by simp; omega
  have ei : ((a : Int) + 1).toNat = a + 1 := by omega
  have b0 : 0 ≤ (a : Int) + 1 := by omega
  have b1 : (a : Int) + 1 < S.size := by omega
  have m45 : ((S[a + 1].toNat : Int) == 45) = false := by rw [← hv2]; simp; omega
  have HO := Lib.hid (show tokAt (bl S) a = .inl (4, a) by rw [tokAt, h0, if_neg (by decide), if_neg (by decide), hv, hsg, if_neg (by decide), if_neg (by omega), if_neg (by omega), if_neg (by omega)])
  rw [HO.out]
  clear HO hv hv2 h0 hsg h60 h45
  go_enter Tryd.func68, Tryd.ntmps68
  repeat (first | go_values | go_skip | go_guarded | go_step | go_upon)
  refine (HN.out _).mono ?_
  rintro e w1 ⟨rfl, hb1⟩
  obtain ⟨hc1, hf1⟩ := bcell hb1
  have hz1 := hb1.size
  try simp at hz1
  have q1_0 : w.heap.size < w1.heap.size := by omega
  dsimp only
  repeat (first | go_values | go_skip | go_guarded | go_step | go_upon)
  refine (HB.out _).mono ?_
  rintro e w2 ⟨rfl, hb2⟩
  obtain ⟨hc2, hf2⟩ := bcell hb2
  have hz2 := hb2.size
  try simp at hz2
  have q2_0 : w.heap.size < w2.heap.size := by omega
  dsimp only
  
  repeat (first | go_values | go_skip | go_guarded | go_step | go_upon)
  refine bodyPost_ret (v := gotT (.inl (4, a))) (by simp [gotT, tok0, results, Tryd.results68, go_sem, hc1, hc2, q1_0]) rfl ?_
  refine ⟨rfl, ?_⟩
  repeat (first | (with_reducible exact Below.refl _ _) | (with_reducible assumption) | (with_reducible refine bal ?_ _) | (with_reducible refine bdr ?_) | (with_reducible refine bdrn ?_ _) | (with_reducible refine bset ?_ (by first | exact Nat.le_refl _ | (simp; done) | (simp; omega) | omega) _) | (with_reducible refine bstep ?_ (by assumption)))
set_option maxRecDepth 100000 in
set_option maxHeartbeats 1600000 in
theorem tk_bad (S : ByteArray) (a : Nat) (w : World) (hs : S.size ≤ 100000) (ha : a < S.size) (h0 : nameLen (bl S) a = 0) (hsg : isSign S[a].toNat = false) (h60 : S[a].toNat ≠ 60) (h39 : S[a].toNat ≠ 39) (h34 : S[a].toNat ≠ 34) (h91 : S[a].toNat ≠ 91) :
    Calls Tryd.prog 68 #[.string S, .int .i64 (a : Int)] w (Ans (gotT (tokAt (bl S) a)) w) := by
  have hlen := bl_length S
  have hs2 : S.size ≤ 140737488355328 := by omega
  have hv := byteAt_ba ha
  have h256 := UInt8.toNat_lt S[a]
  have HN := Lib.hid (fun w => h0 ▸ letters_any S a w hs2 (by omega))
  have HB := Lib.hid (fun w => signs_any S[a].toNat _ w hsg)
  have m60 : ((S[a].toNat : Int) == 60) = false := by simp; omega
  have m39 : ((S[a].toNat : Int) == 39) = false := by simp; omega
  have m34 : ((S[a].toNat : Int) == 34) = false := by simp; omega
  have m91 : ((S[a].toNat : Int) == 91) = false := by simp; omega
  have HO := Lib.hid (show tokAt (bl S) a = .inl (4, a) by rw [tokAt, h0, if_neg (by decide), if_neg (by decide), hv, hsg, if_neg (by decide), if_neg (by omega), if_neg (by omega), if_neg (by omega)])
  rw [HO.out]
  clear HO hv h0 hsg h60 h39 h34 h91
  go_enter Tryd.func68, Tryd.ntmps68
  repeat (first | go_values | go_skip | go_guarded | go_step | go_upon)
  refine (HN.out _).mono ?_
  rintro e w1 ⟨rfl, hb1⟩
  obtain ⟨hc1, hf1⟩ := bcell hb1
  have hz1 := hb1.size
  try simp at hz1
  have q1_0 : w.heap.size < w1.heap.size := by omega
  dsimp only
  repeat (first | go_values | go_skip | go_guarded | go_step | go_upon)
  refine (HB.out _).mono ?_
  rintro e w2 ⟨rfl, hb2⟩
  obtain ⟨hc2, hf2⟩ := bcell hb2
  have hz2 := hb2.size
  try simp at hz2
  have q2_0 : w.heap.size < w2.heap.size := by omega
  dsimp only
  
  repeat (first | go_values | go_skip | go_guarded | go_step | go_upon)
  refine bodyPost_ret (v := gotT (.inl (4, a))) (by simp [gotT, tok0, results, Tryd.results68, go_sem, hc1, hc2, q1_0]) rfl ?_
  refine ⟨rfl, ?_⟩
  repeat (first | (with_reducible exact Below.refl _ _) | (with_reducible assumption) | (with_reducible refine bal ?_ _) | (with_reducible refine bdr ?_) | (with_reducible refine bdrn ?_ _) | (with_reducible refine bset ?_ (by first | exact Nat.le_refl _ | (simp; done) | (simp; omega) | omega) _) | (with_reducible refine bstep ?_ (by assumption)))
set_option maxRecDepth 100000 in
set_option maxHeartbeats 1600000 in
theorem tk_sq_ok (S : ByteArray) (a : Nat) (w : World) (hs : S.size ≤ 100000) (ha : a < S.size) (h0 : nameLen (bl S) a = 0) (hsg : isSign S[a].toNat = false) (hq : S[a].toNat = 39) {l : List UInt8} {n : Nat} (hl : litGo (bl S) S[a].toNat a ((bl S).length + 1) (a + 1) [] = .inr (l, n)) :
    Calls Tryd.prog 68 #[.string S, .int .i64 (a : Int)] w (Ans (gotT (tokAt (bl S) a)) w) := by
  have hlen := bl_length S
  have hs2 : S.size ≤ 140737488355328 := by omega
  have hv := byteAt_ba ha
  have h256 := UInt8.toNat_lt S[a]
  have HN := Lib.hid (fun w => h0 ▸ letters_any S a w hs2 (by omega))
  have HB := Lib.hid (fun w => signs_any S[a].toNat _ w hsg)
  have m60 : ((S[a].toNat : Int) == 60) = false := by simp; omega
  have m39 : ((S[a].toNat : Int) == 39) = true := by simp; omega
  have HL := Lib.hid (fun w => rlit_any S a w hs ha)
  rw [hl] at HL
  have HO := Lib.hid (show tokAt (bl S) a = .inr (⟨3, l, 0, a⟩, n) by rw [tokAt, h0, if_neg (by decide), if_neg (by decide), hv, hsg, if_neg (by decide), if_neg (by omega), if_pos (by omega), hl])
  rw [HO.out]
  clear HO hv h0 hsg hq hl
  go_enter Tryd.func68, Tryd.ntmps68
  repeat (first | go_values | go_skip | go_guarded | go_step | go_upon)
  refine (HN.out _).mono ?_
  rintro e w1 ⟨rfl, hb1⟩
  obtain ⟨hc1, hf1⟩ := bcell hb1
  have hz1 := hb1.size
  try simp at hz1
  have q1_0 : w.heap.size < w1.heap.size := by omega
  dsimp only
  repeat (first | go_values | go_skip | go_guarded | go_step | go_upon)
  refine (HB.out _).mono ?_
  rintro e w2 ⟨rfl, hb2⟩
  obtain ⟨hc2, hf2⟩ := bcell hb2
  have hz2 := hb2.size
  try simp at hz2
  have q2_0 : w.heap.size < w2.heap.size := by omega
  dsimp only
  repeat (first | go_values | go_skip | go_guarded | go_step | go_upon)
  refine (HL.out _).mono ?_
  rintro e w3 ⟨rfl, hb3⟩
  obtain ⟨hc3, hf3⟩ := bcell hb3
  have hz3 := hb3.size
  have q3_0 : w.heap.size < w3.heap.size := by omega
  dsimp only [gotS]
  repeat (first | go_values | go_skip | go_guarded | go_step | go_upon)
  refine bodyPost_ret (v := gotT (.inr (⟨3, l, 0, a⟩, n))) (by simp [gotT, tokV, mkS, wd_zero, results, Tryd.results68, go_sem, hc1, hc2, q1_0, q2_0, hc3]) rfl ?_
  refine ⟨rfl, ?_⟩
  repeat (first | (with_reducible exact Below.refl _ _) | (with_reducible assumption) | (with_reducible refine bal ?_ _) | (with_reducible refine bdr ?_) | (with_reducible refine bdrn ?_ _) | (with_reducible refine bset ?_ (by first | exact Nat.le_refl _ | (simp; done) | (simp; omega) | omega) _) | (with_reducible refine bstep ?_ (by assumption)))
set_option maxRecDepth 100000 in
set_option maxHeartbeats 1600000 in
theorem tk_sq_no (S : ByteArray) (a : Nat) (w : World) (hs : S.size ≤ 100000) (ha : a < S.size) (h0 : nameLen (bl S) a = 0) (hsg : isSign S[a].toNat = false) (hq : S[a].toNat = 39) {ec en : Nat} (hl : litGo (bl S) S[a].toNat a ((bl S).length + 1) (a + 1) [] = .inl (ec, en)) (hec : ec ≠ 0) :
    Calls Tryd.prog 68 #[.string S, .int .i64 (a : Int)] w (Ans (gotT (tokAt (bl S) a)) w) := by
  have hlen := bl_length S
  have hs2 : S.size ≤ 140737488355328 := by omega
  have hv := byteAt_ba ha
  have h256 := UInt8.toNat_lt S[a]
  have HN := Lib.hid (fun w => h0 ▸ letters_any S a w hs2 (by omega))
  have HB := Lib.hid (fun w => signs_any S[a].toNat _ w hsg)
  have m60 : ((S[a].toNat : Int) == 60) = false := by simp; omega
  have m39 : ((S[a].toNat : Int) == 39) = true := by simp; omega
  have HL := Lib.hid (fun w => rlit_any S a w hs ha)
  rw [hl] at HL
  have k5 : ((ec : Int) != 0) = true := by simp; omega
  have k6 : ((ec : Int) == 0) = false := by simp; omega
  have HO := Lib.hid (show tokAt (bl S) a = .inl (ec, en) by rw [tokAt, h0, if_neg (by decide), if_neg (by decide), hv, hsg, if_neg (by decide), if_neg (by omega), if_pos (by omega), hl])
  rw [HO.out]
  clear HO hv h0 hsg hq hl hec
  go_enter Tryd.func68, Tryd.ntmps68
  repeat (first | go_values | go_skip | go_guarded | go_step | go_upon)
  refine (HN.out _).mono ?_
  rintro e w1 ⟨rfl, hb1⟩
  obtain ⟨hc1, hf1⟩ := bcell hb1
  have hz1 := hb1.size
  try simp at hz1
  have q1_0 : w.heap.size < w1.heap.size := by omega
  dsimp only
  repeat (first | go_values | go_skip | go_guarded | go_step | go_upon)
  refine (HB.out _).mono ?_
  rintro e w2 ⟨rfl, hb2⟩
  obtain ⟨hc2, hf2⟩ := bcell hb2
  have hz2 := hb2.size
  try simp at hz2
  have q2_0 : w.heap.size < w2.heap.size := by omega
  dsimp only
  repeat (first | go_values | go_skip | go_guarded | go_step | go_upon)
  refine (HL.out _).mono ?_
  rintro e w3 ⟨rfl, hb3⟩
  obtain ⟨hc3, hf3⟩ := bcell hb3
  have hz3 := hb3.size
  have q3_0 : w.heap.size < w3.heap.size := by omega
  dsimp only [gotS]
  repeat (first | go_values | go_skip | go_guarded | go_step | go_upon)
  refine bodyPost_ret (v := gotT (.inl (ec, en))) (by simp [gotT, tok0, results, Tryd.results68, go_sem, hc1, hc2, q1_0, q2_0, hc3]) rfl ?_
  refine ⟨rfl, ?_⟩
  repeat (first | (with_reducible exact Below.refl _ _) | (with_reducible assumption) | (with_reducible refine bal ?_ _) | (with_reducible refine bdr ?_) | (with_reducible refine bdrn ?_ _) | (with_reducible refine bset ?_ (by first | exact Nat.le_refl _ | (simp; done) | (simp; omega) | omega) _) | (with_reducible refine bstep ?_ (by assumption)))
set_option maxRecDepth 100000 in
set_option maxHeartbeats 1600000 in
theorem tk_dq_ok (S : ByteArray) (a : Nat) (w : World) (hs : S.size ≤ 100000) (ha : a < S.size) (h0 : nameLen (bl S) a = 0) (hsg : isSign S[a].toNat = false) (hq : S[a].toNat = 34) {l : List UInt8} {n : Nat} (hl : litGo (bl S) S[a].toNat a ((bl S).length + 1) (a + 1) [] = .inr (l, n)) :
    Calls Tryd.prog 68 #[.string S, .int .i64 (a : Int)] w (Ans (gotT (tokAt (bl S) a)) w) := by
  have hlen := bl_length S
  have hs2 : S.size ≤ 140737488355328 := by omega
  have hv := byteAt_ba ha
  have h256 := UInt8.toNat_lt S[a]
  have HN := Lib.hid (fun w => h0 ▸ letters_any S a w hs2 (by omega))
  have HB := Lib.hid (fun w => signs_any S[a].toNat _ w hsg)
  have m60 : ((S[a].toNat : Int) == 60) = false := by simp; omega
  have m39 : ((S[a].toNat : Int) == 39) = false := by simp; omega
  have m34 : ((S[a].toNat : Int) == 34) = true := by simp; omega
  have HL := Lib.hid (fun w => rlit_any S a w hs ha)
  rw [hl] at HL
  have HO := Lib.hid (show tokAt (bl S) a = .inr (⟨3, l, 0, a⟩, n) by rw [tokAt, h0, if_neg (by decide), if_neg (by decide), hv, hsg, if_neg (by decide), if_neg (by omega), if_pos (by omega), hl])
  rw [HO.out]
  clear HO hv h0 hsg hq hl
  go_enter Tryd.func68, Tryd.ntmps68
  repeat (first | go_values | go_skip | go_guarded | go_step | go_upon)
  refine (HN.out _).mono ?_
  rintro e w1 ⟨rfl, hb1⟩
  obtain ⟨hc1, hf1⟩ := bcell hb1
  have hz1 := hb1.size
  try simp at hz1
  have q1_0 : w.heap.size < w1.heap.size := by omega
  dsimp only
  repeat (first | go_values | go_skip | go_guarded | go_step | go_upon)
  refine (HB.out _).mono ?_
  rintro e w2 ⟨rfl, hb2⟩
  obtain ⟨hc2, hf2⟩ := bcell hb2
  have hz2 := hb2.size
  try simp at hz2
  have q2_0 : w.heap.size < w2.heap.size := by omega
  dsimp only
  repeat (first | go_values | go_skip | go_guarded | go_step | go_upon)
  refine (HL.out _).mono ?_
  rintro e w3 ⟨rfl, hb3⟩
  obtain ⟨hc3, hf3⟩ := bcell hb3
  have hz3 := hb3.size
  have q3_0 : w.heap.size < w3.heap.size := by omega
  dsimp only [gotS]
  repeat (first | go_values | go_skip | go_guarded | go_step | go_upon)
  refine bodyPost_ret (v := gotT (.inr (⟨3, l, 0, a⟩, n))) (by simp [gotT, tokV, mkS, wd_zero, results, Tryd.results68, go_sem, hc1, hc2, q1_0, q2_0, hc3]) rfl ?_
  refine ⟨rfl, ?_⟩
  repeat (first | (with_reducible exact Below.refl _ _) | (with_reducible assumption) | (with_reducible refine bal ?_ _) | (with_reducible refine bdr ?_) | (with_reducible refine bdrn ?_ _) | (with_reducible refine bset ?_ (by first | exact Nat.le_refl _ | (simp; done) | (simp; omega) | omega) _) | (with_reducible refine bstep ?_ (by assumption)))
set_option maxRecDepth 100000 in
set_option maxHeartbeats 1600000 in
theorem tk_dq_no (S : ByteArray) (a : Nat) (w : World) (hs : S.size ≤ 100000) (ha : a < S.size) (h0 : nameLen (bl S) a = 0) (hsg : isSign S[a].toNat = false) (hq : S[a].toNat = 34) {ec en : Nat} (hl : litGo (bl S) S[a].toNat a ((bl S).length + 1) (a + 1) [] = .inl (ec, en)) (hec : ec ≠ 0) :
    Calls Tryd.prog 68 #[.string S, .int .i64 (a : Int)] w (Ans (gotT (tokAt (bl S) a)) w) := by
  have hlen := bl_length S
  have hs2 : S.size ≤ 140737488355328 := by omega
  have hv := byteAt_ba ha
  have h256 := UInt8.toNat_lt S[a]
  have HN := Lib.hid (fun w => h0 ▸ letters_any S a w hs2 (by omega))
  have HB := Lib.hid (fun w => signs_any S[a].toNat _ w hsg)
  have m60 : ((S[a].toNat : Int) == 60) = false := by simp; omega
  have m39 : ((S[a].toNat : Int) == 39) = false := by simp; omega
  have m34 : ((S[a].toNat : Int) == 34) = true := by simp; omega
  have HL := Lib.hid (fun w => rlit_any S a w hs ha)
  rw [hl] at HL
  have k5 : ((ec : Int) != 0) = true := by simp; omega
  have k6 : ((ec : Int) == 0) = false := by simp; omega
  have HO := Lib.hid (show tokAt (bl S) a = .inl (ec, en) by rw [tokAt, h0, if_neg (by decide), if_neg (by decide), hv, hsg, if_neg (by decide), if_neg (by omega), if_pos (by omega), hl])
  rw [HO.out]
  clear HO hv h0 hsg hq hl hec
  go_enter Tryd.func68, Tryd.ntmps68
  repeat (first | go_values | go_skip | go_guarded | go_step | go_upon)
  refine (HN.out _).mono ?_
  rintro e w1 ⟨rfl, hb1⟩
  obtain ⟨hc1, hf1⟩ := bcell hb1
  have hz1 := hb1.size
  try simp at hz1
  have q1_0 : w.heap.size < w1.heap.size := by omega
  dsimp only
  repeat (first | go_values | go_skip | go_guarded | go_step | go_upon)
  refine (HB.out _).mono ?_
  rintro e w2 ⟨rfl, hb2⟩
  obtain ⟨hc2, hf2⟩ := bcell hb2
  have hz2 := hb2.size
  try simp at hz2
  have q2_0 : w.heap.size < w2.heap.size := by omega
  dsimp only
  repeat (first | go_values | go_skip | go_guarded | go_step | go_upon)
  refine (HL.out _).mono ?_
  rintro e w3 ⟨rfl, hb3⟩
  obtain ⟨hc3, hf3⟩ := bcell hb3
  have hz3 := hb3.size
  have q3_0 : w.heap.size < w3.heap.size := by omega
  dsimp only [gotS]
  repeat (first | go_values | go_skip | go_guarded | go_step | go_upon)
  refine bodyPost_ret (v := gotT (.inl (ec, en))) (by simp [gotT, tok0, results, Tryd.results68, go_sem, hc1, hc2, q1_0, q2_0, hc3]) rfl ?_
  refine ⟨rfl, ?_⟩
  repeat (first | (with_reducible exact Below.refl _ _) | (with_reducible assumption) | (with_reducible refine bal ?_ _) | (with_reducible refine bdr ?_) | (with_reducible refine bdrn ?_ _) | (with_reducible refine bset ?_ (by first | exact Nat.le_refl _ | (simp; done) | (simp; omega) | omega) _) | (with_reducible refine bstep ?_ (by assumption)))
set_option maxRecDepth 100000 in
set_option maxHeartbeats 1600000 in
theorem tk_cl_ok (S : ByteArray) (a : Nat) (w : World) (hs : S.size ≤ 100000) (ha : a < S.size) (h0 : nameLen (bl S) a = 0) (hsg : isSign S[a].toNat = false) (hq : S[a].toNat = 91) {c : BitVec 256} {n : Nat} (hl : parsed ((bl S).drop a) = .inr (c, n)) :
    Calls Tryd.prog 68 #[.string S, .int .i64 (a : Int)] w (Ans (gotT (tokAt (bl S) a)) w) := by
  have hlen := bl_length S
  have hs2 : S.size ≤ 140737488355328 := by omega
  have hv := byteAt_ba ha
  have h256 := UInt8.toNat_lt S[a]
  have HN := Lib.hid (fun w => h0 ▸ letters_any S a w hs2 (by omega))
  have HB := Lib.hid (fun w => signs_any S[a].toNat _ w hsg)
  have m60 : ((S[a].toNat : Int) == 60) = false := by simp; omega
  have m39 : ((S[a].toNat : Int) == 39) = false := by simp; omega
  have m34 : ((S[a].toNat : Int) == 34) = false := by simp; omega
  have m91 : ((S[a].toNat : Int) == 91) = true := by simp; omega
  have hkb := kbl_extract S a (by omega)
  have hks := kbl_size S a (by omega)
  have wn : (a : Int) + (n : Int) = ((a + n : Nat) : Int) := by omega
  have hpd := parsed_bd hl
  rw [List.length_drop] at hpd
  have HL := Lib.hid (fun w => refparse_ok (S.extract a S.size) w (by omega) (hkb ▸ hl))
  have wr : IntKind.i64.wrap ((a : Int) + (n : Int)) = (a : Int) + (n : Int) := by rw [IntKind.wrap_i64]; omega
  have HO := Lib.hid (show tokAt (bl S) a = .inr (⟨4, [], c, a⟩, a + n) by rw [tokAt, h0, if_neg (by decide), if_neg (by decide), hv, hsg, if_neg (by decide), if_neg (by omega), if_neg (by omega), if_pos hq, hl])
  rw [HO.out]
  clear HO hv h0 hsg hq hl hkb hks wn hpd
  go_enter Tryd.func68, Tryd.ntmps68
  repeat (first | go_values | go_skip | go_guarded | go_step | go_upon)
  refine (HN.out _).mono ?_
  rintro e w1 ⟨rfl, hb1⟩
  obtain ⟨hc1, hf1⟩ := bcell hb1
  have hz1 := hb1.size
  try simp at hz1
  have q1_0 : w.heap.size < w1.heap.size := by omega
  dsimp only
  repeat (first | go_values | go_skip | go_guarded | go_step | go_upon)
  refine (HB.out _).mono ?_
  rintro e w2 ⟨rfl, hb2⟩
  obtain ⟨hc2, hf2⟩ := bcell hb2
  have hz2 := hb2.size
  try simp at hz2
  have q2_0 : w.heap.size < w2.heap.size := by omega
  dsimp only
  repeat (first | go_values | go_skip | go_guarded | go_step | go_upon)
  refine (HL.out _).mono ?_
  rintro e w3 ⟨rfl, hb3⟩
  obtain ⟨hc3, hf3⟩ := bcell hb3
  have hz3 := hb3.size
  have q3_0 : w.heap.size < w3.heap.size := by omega
  dsimp only
  repeat (first | go_values | go_skip | go_guarded | go_step | go_upon)
  refine bodyPost_ret (v := gotT (.inr (⟨4, [], c, a⟩, a + n))) (by simp [gotT, tokV, mkS, results, Tryd.results68, go_sem, hc1, hc2, q1_0, q2_0, hc3, q3_0]) rfl ?_
  refine ⟨rfl, ?_⟩
  repeat (first | (with_reducible exact Below.refl _ _) | (with_reducible assumption) | (with_reducible refine bal ?_ _) | (with_reducible refine bdr ?_) | (with_reducible refine bdrn ?_ _) | (with_reducible refine bset ?_ (by first | exact Nat.le_refl _ | (simp; done) | (simp; omega) | omega) _) | (with_reducible refine bstep ?_ (by assumption)))
set_option maxRecDepth 100000 in
set_option maxHeartbeats 1600000 in
theorem tk_cl_no (S : ByteArray) (a : Nat) (w : World) (hs : S.size ≤ 100000) (ha : a < S.size) (h0 : nameLen (bl S) a = 0) (hsg : isSign S[a].toNat = false) (hq : S[a].toNat = 91) {ec n : Nat} (hl : parsed ((bl S).drop a) = .inl (ec, n)) (hec : ec ≠ 0) :
    Calls Tryd.prog 68 #[.string S, .int .i64 (a : Int)] w (Ans (gotT (tokAt (bl S) a)) w) := by
  have hlen := bl_length S
  have hs2 : S.size ≤ 140737488355328 := by omega
  have hv := byteAt_ba ha
  have h256 := UInt8.toNat_lt S[a]
  have HN := Lib.hid (fun w => h0 ▸ letters_any S a w hs2 (by omega))
  have HB := Lib.hid (fun w => signs_any S[a].toNat _ w hsg)
  have m60 : ((S[a].toNat : Int) == 60) = false := by simp; omega
  have m39 : ((S[a].toNat : Int) == 39) = false := by simp; omega
  have m34 : ((S[a].toNat : Int) == 34) = false := by simp; omega
  have m91 : ((S[a].toNat : Int) == 91) = true := by simp; omega
  have hkb := kbl_extract S a (by omega)
  have hks := kbl_size S a (by omega)
  have wn : (a : Int) + (n : Int) = ((a + n : Nat) : Int) := by omega
  have hpd := parsed_le hl
  rw [List.length_drop] at hpd
  have HL := Lib.hid (fun w => refparse_no (S.extract a S.size) w (by omega) (hkb ▸ hl))
  have wr : IntKind.i64.wrap ((a : Int) + (n : Int)) = (a : Int) + (n : Int) := by rw [IntKind.wrap_i64]; omega
  have k5 : ((ec : Int) != 0) = true := by simp; omega
  have k6 : ((ec : Int) == 0) = false := by simp; omega
  have HO := Lib.hid (show tokAt (bl S) a = .inl (ec, a + n) by rw [tokAt, h0, if_neg (by decide), if_neg (by decide), hv, hsg, if_neg (by decide), if_neg (by omega), if_neg (by omega), if_pos hq, hl])
  rw [HO.out]
  clear HO hv h0 hsg hq hl hkb hks wn hpd hec
  go_enter Tryd.func68, Tryd.ntmps68
  repeat (first | go_values | go_skip | go_guarded | go_step | go_upon)
  refine (HN.out _).mono ?_
  rintro e w1 ⟨rfl, hb1⟩
  obtain ⟨hc1, hf1⟩ := bcell hb1
  have hz1 := hb1.size
  try simp at hz1
  have q1_0 : w.heap.size < w1.heap.size := by omega
  dsimp only
  repeat (first | go_values | go_skip | go_guarded | go_step | go_upon)
  refine (HB.out _).mono ?_
  rintro e w2 ⟨rfl, hb2⟩
  obtain ⟨hc2, hf2⟩ := bcell hb2
  have hz2 := hb2.size
  try simp at hz2
  have q2_0 : w.heap.size < w2.heap.size := by omega
  dsimp only
  repeat (first | go_values | go_skip | go_guarded | go_step | go_upon)
  refine (HL.out _).mono ?_
  rintro e w3 ⟨rfl, hb3⟩
  obtain ⟨hc3, hf3⟩ := bcell hb3
  have hz3 := hb3.size
  have q3_0 : w.heap.size < w3.heap.size := by omega
  dsimp only
  repeat (first | go_values | go_skip | go_guarded | go_step | go_upon)
  refine bodyPost_ret (v := gotT (.inl (ec, a + n))) (by simp [gotT, tok0, results, Tryd.results68, go_sem, hc1, hc2, q1_0, q2_0, hc3, q3_0]) rfl ?_
  refine ⟨rfl, ?_⟩
  repeat (first | (with_reducible exact Below.refl _ _) | (with_reducible assumption) | (with_reducible refine bal ?_ _) | (with_reducible refine bdr ?_) | (with_reducible refine bdrn ?_ _) | (with_reducible refine bset ?_ (by first | exact Nat.le_refl _ | (simp; done) | (simp; omega) | omega) _) | (with_reducible refine bstep ?_ (by assumption)))
theorem lit_code {s : List UInt8} {q st : Nat} : ∀ {f a e n : Nat} {l : List UInt8}, litGo s q st f a l = .inl (e, n) → e ≠ 0 := by
  intro f
  induction f with
  | zero => intro a e n l h; simp [litGo] at h; omega
  | succ f ih =>
    intro a e n l h
    rw [litGo] at h
    split at h
    · simp at h; omega
    split at h
    · cases h
    split at h
    · next er he => rw [Sum.inl.inj h] at he; have := lch_code he; omega
    · split at h
      · simp at h; omega
      · exact ih h
theorem rtoken_any (S : ByteArray) (a : Nat) (w : World) (hs : S.size ≤ 100000) (ha : a < S.size) :
    Calls Tryd.prog 68 #[.string S, .int .i64 (a : Int)] w (Ans (gotT (tokAt (bl S) a)) w) := by
  by_cases h : 32 < nameLen (bl S) a
  · exact tk_long S a w hs ha h
  by_cases h1 : 0 < nameLen (bl S) a
  · exact tk_name S a w hs ha h h1
  have h0 : nameLen (bl S) a = 0 := by omega
  cases hsg : isSign S[a].toNat
  · by_cases h60 : S[a].toNat = 60
    · rcases Nat.lt_or_ge (a + 1) S.size with hb | hb
      · by_cases h45 : byteAt (bl S) (a + 1) = 45
        · exact tk_arrow S a w hs ha h0 hsg h60 hb h45
        · exact tk_lt2 S a w hs ha h0 hsg h60 hb h45
      · exact tk_lt1 S a w hs ha h0 hsg h60 hb
    by_cases h39 : S[a].toNat = 39
    · cases hl : litGo (bl S) S[a].toNat a ((bl S).length + 1) (a + 1) [] with
      | inl er => exact tk_sq_no S a w hs ha h0 hsg h39 hl (lit_code hl)
      | inr q => exact tk_sq_ok S a w hs ha h0 hsg h39 hl
    by_cases h34 : S[a].toNat = 34
    · cases hl : litGo (bl S) S[a].toNat a ((bl S).length + 1) (a + 1) [] with
      | inl er => exact tk_dq_no S a w hs ha h0 hsg h34 hl (lit_code hl)
      | inr q => exact tk_dq_ok S a w hs ha h0 hsg h34 hl
    by_cases h91 : S[a].toNat = 91
    · cases hl : parsed ((bl S).drop a) with
      | inl er => exact tk_cl_no S a w hs ha h0 hsg h91 hl (by have := parsed_code hl; omega)
      | inr q => exact tk_cl_ok S a w hs ha h0 hsg h91 hl
    · exact tk_bad S a w hs ha h0 hsg h60 h39 h34 h91
  · exact tk_sign S a w hs ha h0 hsg
end Go.Proofs.YtlohpplpnddfaaaDoor
namespace Go.Proofs.YtlohpplpnddfaaaDoor
open Go.RowKit Go.Sort

theorem rtoken_ok (S : ByteArray) (a : Nat) (w : World) (hs : S.size ≤ 100000) (ha : a < S.size) {t : Tok} {n : Nat} (h : tokAt (bl S) a = .inr (t, n)) :
    Calls Tryd.prog 68 #[.string S, .int .i64 (a : Int)] w (Ans (.tuple #[.agg #[.int .i64 (t.kind : Int), .string (mkS t.text), .int .u64 (wd t.cls 0), .int .u64 (wd t.cls 1), .int .u64 (wd t.cls 2), .int .u64 (wd t.cls 3), .int .i64 (t.pos : Int)], .int .i64 (n : Int), .int .i64 0]) w) := by
  have := rtoken_any S a w hs ha
  rw [h] at this
  exact this
theorem rtoken_no (S : ByteArray) (a : Nat) (w : World) (hs : S.size ≤ 100000) (ha : a < S.size) {e n : Nat} (h : tokAt (bl S) a = .inl (e, n)) :
    Calls Tryd.prog 68 #[.string S, .int .i64 (a : Int)] w (Ans (.tuple #[.agg #[.int .i64 0, .string ⟨#[]⟩, .int .u64 0, .int .u64 0, .int .u64 0, .int .u64 0, .int .i64 0], .int .i64 (n : Int), .int .i64 (e : Int)]) w) := by
  have := rtoken_any S a w hs ha
  rw [h] at this
  exact this
theorem tok_code {s : List UInt8} {a e n : Nat} (h : tokAt s a = .inl (e, n)) : e ≠ 0 := by
  unfold tokAt at h
  split at h
  · simp at h; omega
  split at h
  · cases h
  split at h
  · cases h
  split at h
  · cases h
  split at h
  · split at h
    · next er he => rw [Sum.inl.inj h] at he; exact lit_code he
    · cases h
  split at h
  · split at h
    · next e2 n2 he => simp at h; have := parsed_code he; omega
    · cases h
  · simp at h; omega
/-- The tokens by the document, or what is wrong. -/
def RToksP (w : World) (g : (Nat × Nat) ⊕ List Tok) (e : Ending) (w' : World) : Prop :=
  match g with
  | .inr l => ∃ v, e = .returned (.tuple #[v, .int .i64 0, .int .i64 0]) ∧ w'.ownsRow w.heap.size 53 7 v l.length (tokCells l) ∧ Below w.heap.size w w'
  | .inl er => e = .returned (.tuple #[.slice none 0 0, .int .i64 (er.2 : Int), .int .i64 (er.1 : Int)]) ∧ Below w.heap.size w w'
theorem blks_go {s : List UInt8} {acc : List Tok} {f a : Nat} (ha : a ≤ s.length) (hf : s.length < f + a) :
    ∃ f', s.length < f' + blkEnd s a ∧ toksGo s f a acc = toksGo s f' (blkEnd s a) acc ∧ (blkEnd s a < s.length → byteAt s (blkEnd s a) ≠ 35 ∧ isBlank (byteAt s (blkEnd s a)) = false) :=
  toks_blk ha (by omega) hf
theorem blkEnd_le {s : List UInt8} {a : Nat} (ha : a ≤ s.length) : a ≤ blkEnd s a ∧ blkEnd s a ≤ s.length := blkGo_le ha
set_option maxRecDepth 100000 in
set_option maxHeartbeats 6400000 in
theorem rtokens_any (S : ByteArray) (w : World) (hs : S.size ≤ 8192) : Calls Tryd.prog 41 #[.string S] w (RToksP w (toks (bl S))) := by
  have hlen := bl_length S
  obtain ⟨i0, iH, iz, is, ib⟩ := info_parts info_tok
  have d1 : decide ((8192 : Int) < S.size) = false := by simp; omega
  have hs1 : S.size ≤ 100000 := by omega
  have hs2 : S.size ≤ 140737488355328 := by omega
  obtain ⟨f0, g1, g2, g3⟩ := blks_go (s := bl S) (acc := []) (f := 2 * (bl S).length + 2) (a := 0) (Nat.zero_le _) (by omega)
  have hb0 := blkEnd_le (s := bl S) (a := 0) (Nat.zero_le _)
  have HG := Lib.hid (show toksGo (bl S) f0 (blkEnd (bl S) 0) [] = toks (bl S) from g2.symm)
  have HB := Lib.hid (fun w => blanks_any S 0 w hs2 (Nat.zero_le _))
  have H3 := Lib.hid g3
  generalize toks (bl S) = G at *
  generalize blkEnd (bl S) 0 = b0 at *
  clear g2 g3
  go_enter Tryd.func41, Tryd.ntmps41
  repeat (first | go_values | go_skip | go_guarded | go_step | go_upon)
  refine (HB.out _).mono ?_
  rintro e w1 ⟨rfl, hb1⟩
  obtain ⟨hc1, hf1⟩ := bcell hb1
  have hz1 := hb1.size
  try simp at hz1
  dsimp only
  repeat (first | go_values | go_skip | go_guarded | go_step | go_upon)
  go_loopw [5, 6] (fun v t wr => ∃ (f a : Nat) (l : List Tok), t = .int .i64 (a : Int) ∧ a ≤ S.size ∧ wr.ownsRow w.heap.size 53 7 v l.length (tokCells l) ∧ Below w.heap.size w wr ∧ Hid (toksGo (bl S) f a l = G) ∧ (bl S).length < f + a ∧ l.length ≤ a ∧ Hid (a < (bl S).length → byteAt (bl S) a ≠ 35 ∧ isBlank (byteAt (bl S) a) = false)) (fun _ t _ => S.size - (intOf t).toNat)
  case atStart => exact ⟨f0, b0, [], rfl, by omega, World.ownsRow_nil _ _ _ _, hb1, HG, g1, by simp, H3⟩
  case round =>
    obtain ⟨f, a, l, rfl, ha, hO, hb, hG, hf, hla, hnb⟩ := hrel
    obtain ⟨f, rfl⟩ : ∃ g, f = g + 1 := ⟨f - 1, by omega⟩
    rcases Nat.lt_or_ge a S.size with hlt | hge
    · have k1 : decide (a < S.size) = true := by simpa using hlt
      have hn2 := hnb.out (by omega)
      cases ht : tokAt (bl S) a with
      | inl er =>
        obtain ⟨ec, en⟩ := er
        have HX := Lib.hid (show G = .inl (ec, en) by rw [← hG.out, toks_bad (by omega) hn2.1 hn2.2 ht])
        have HT := Lib.hid ht
        have hec := tok_code ht
        have k5 : ((ec : Int) != 0) = true := by simp; omega
        have k6 : ((ec : Int) == 0) = false := by simp; omega
        clear ht hn2 hO
        repeat (first | go_values | go_skip | go_guarded | go_step | go_upon)
        refine (rtoken_no S a _ hs1 hlt HT.out).mono ?_
        rintro e w2 ⟨rfl, hb2⟩
        dsimp only
        repeat (first | go_values | go_skip | go_guarded | go_step | go_upon)
        go_ret3
        rw [HX.out]
        exact ⟨rfl, (by repeat (first | exact Below.refl _ _ | assumption | refine bal ?_ _ | refine bdr ?_ | refine bdrn ?_ _ | (refine bset ?_ (by first | exact Nat.le_refl _ | (simp; done) | (simp; omega) | omega) _) | refine bstep ?_ (by assumption)))⟩
      | inr q =>
        obtain ⟨t, n⟩ := q
        have bd := tokAt_bd (by omega) ht
        have HX := Lib.hid (show toksGo (bl S) f n (l ++ [t]) = G by rw [← hG.out, toks_on (by omega) hn2.1 hn2.2 ht])
        have HT := Lib.hid ht
        have bd1 := bd.1
        have bd2 := bd.2.1
        clear ht hn2 bd
        repeat (first | go_values | go_skip | go_guarded | go_step | go_upon)
        refine (rtoken_ok S a _ hs1 hlt HT.out).mono ?_
        rintro e w2 ⟨rfl, hb2⟩
        have HO2 := Lib.hid (owns_below hO hb2)
        have hbw : Below w.heap.size w w2 := bstep hb hb2
        have HN := Lib.hid (fun (o : Obj) => new_two w2 o (.cells #[.int .i64 (t.kind : Int), .string (mkS t.text), .int .u64 (wd t.cls 0), .int .u64 (wd t.cls 1), .int .u64 (wd t.cls 2), .int .u64 (wd t.cls 3), .int .i64 (t.pos : Int)] 53))
        have HX2 := Lib.hid (blks_go (acc := l ++ [t]) bd2 (show (bl S).length < f + n by omega))
        have hbn := blkEnd_le bd2
        have HBn := Lib.hid (fun w => blanks_any S n w hs2 (by omega))
        clear hO
        dsimp only
        repeat (first | (at_builtin; refine wpList_append_own _ rfl _ _ 49 rfl w.heap.size 53 i0 _ 7 64 Tryd.underlying49 iH iz is ib rfl (by decide) _ _ _ rfl ((HO2.out.alloc _).alloc _) ⟨w2.heap.size + 1, 0, none⟩ 1 1 [.int .i64 (t.kind : Int), .string (mkS t.text), .int .u64 (wd t.cls 0), .int .u64 (wd t.cls 1), .int .u64 (wd t.cls 2), .int .u64 (wd t.cls 3), .int .i64 (t.pos : Int)] rfl rfl (World.news_of_block (cs := #[.int .i64 (t.kind : Int), .string (mkS t.text), .int .u64 (wd t.cls 0), .int .u64 (wd t.cls 1), .int .u64 (wd t.cls 2), .int .u64 (wd t.cls 3), .int .i64 (t.pos : Int)]) (t := 53) (fr := (0, 0)) (HN.out _)) ?c2 ?c3 ?c4 ?c5 ?c6) | go_values | go_skip | go_guarded | go_step | go_upon)
        case c2 => simp [Value.oneCell']
        case c3 => unfold maxLen; omega
        case c4 => omega
        case c5 => simp; have := hbw.size; omega
        case c6 =>
          intro v3 w3 hown3 hgr3 _
          have hb3 : Below w.heap.size w w3 := below_grown (bal (bal hbw _) _) hgr3 (fun k hk => (HO2.out.lt k hk).1)
          have HT3 := Lib.hid hown3
          clear hown3 hgr3
          repeat (first | go_values | go_skip | go_guarded | go_step | go_upon)
          refine (HBn.out _).mono ?_
          rintro e w4 ⟨rfl, hb4⟩
          dsimp only
          obtain ⟨f', y1, y2, y3⟩ := HX2.out
          have HY := Lib.hid (y2.symm.trans HX.out)
          have HY3 := Lib.hid y3
          clear y2 y3
          repeat (first | go_values | go_skip | go_guarded | go_step | go_upon)
          refine ⟨⟨f', blkEnd (bl S) n, l ++ [t], rfl, by omega, ?_, bstep hb3 hb4, HY, y1, by simp; omega, HY3⟩, by simp [intOf]; omega⟩
          rw [tokCells_append, List.length_append]
          exact owns_below HT3.out hb4
    · obtain rfl : a = S.size := by omega
      have HX := Lib.hid (show G = .inr (l ++ [⟨6, [], 0, S.size⟩]) by rw [← hG.out, toks_end (by omega), hlen])
      have HO2 := Lib.hid hO
      clear hO
      repeat (first | (at_builtin; refine wpList_append_own _ rfl _ _ 49 rfl w.heap.size 53 i0 _ 7 64 Tryd.underlying49 iH iz is ib rfl (by decide) _ _ _ rfl (HO2.out.alloc _) ⟨wr.heap.size, 0, none⟩ 1 1 [.int .i64 6, .string ⟨#[]⟩, .int .u64 0, .int .u64 0, .int .u64 0, .int .u64 0, .int .i64 (S.size : Int)] rfl rfl (cell_7_new _ _ _ _ _ _ _ _ _) ?c2 ?c3 ?c4 ?c5 ?c6) | go_values | go_skip | go_guarded | go_step | go_upon)
      case c2 => simp [Value.oneCell']
      case c3 => unfold maxLen; omega
      case c4 => omega
      case c5 => simp; have := hb.size; omega
      case c6 =>
        intro v3 w3 hown3 hgr3 _
        have hb3 : Below w.heap.size w w3 := below_grown (bal hb _) hgr3 (fun k hk => (HO2.out.lt k hk).1)
        have HT3 := Lib.hid hown3
        clear hown3 hgr3
        repeat (first | go_values | go_skip | go_guarded | go_step | go_upon)
        go_ret3
        rw [HX.out]
        refine ⟨v3, rfl, ?_, hb3⟩
        have e6 : tokCells [(⟨6, [], 0, S.size⟩ : Tok)] = [.int .i64 6, .string ⟨#[]⟩, .int .u64 0, .int .u64 0, .int .u64 0, .int .u64 0, .int .i64 (S.size : Int)] := by simp [tokCells, tokC, wd_zero, mkS]
        rw [tokCells_append, List.length_append, e6]
        exact HT3.out
end Go.Proofs.YtlohpplpnddfaaaDoor
namespace Go.Proofs.YtlohpplpnddfaaaDoor
open Go.RowKit Go.Sort

set_option maxRecDepth 100000 in
set_option maxHeartbeats 800000 in
theorem rtokens_long (S : ByteArray) (w : World) (h8 : 8192 < S.size) : Calls Tryd.prog 41 #[.string S] w (Ans (.tuple #[.slice none 0 0, .int .i64 (-1), .int .i64 2]) w) := by
  have d1 : decide ((8192 : Int) < S.size) = true := by simp; omega
  go_enter Tryd.func41, Tryd.ntmps41
  repeat (first | go_values | go_skip | go_guarded | go_step | go_upon)
  go_ret3
  exact ⟨rfl, (by repeat (first | exact Below.refl _ _ | assumption | refine bal ?_ _ | refine bdr ?_ | refine bdrn ?_ _ | (refine bset ?_ (by first | exact Nat.le_refl _ | (simp; done) | (simp; omega) | omega) _) | refine bstep ?_ (by assumption)))⟩
theorem toks_code {s : List UInt8} : ∀ {f a e n : Nat} {l : List Tok}, toksGo s f a l = .inl (e, n) → e ≠ 0 := by
  intro f
  induction f with
  | zero => intro a e n l h; simp [toksGo] at h; omega
  | succ f ih =>
    intro a e n l h
    rw [toksGo] at h
    split at h
    · cases h
    split at h
    · exact ih h
    split at h
    · exact ih h
    split at h
    · next er he => rw [Sum.inl.inj h] at he; exact tok_code he
    · exact ih h
theorem lexed_code {s : List UInt8} {e : Nat} {x : Int} (h : lexed s = .inl (e, x)) : e ≠ 0 := by
  unfold lexed at h
  split at h
  · simp at h; omega
  · split at h
    · next er he => simp at h; obtain ⟨e1, e2⟩ := er; simp at h; have := toks_code he; omega
    · cases h
theorem rlexed_no (S : ByteArray) (w : World) {e : Nat} {x : Int} (h : lexed (bl S) = .inl (e, x)) : Calls Tryd.prog 41 #[.string S] w (Ans (.tuple #[.slice none 0 0, .int .i64 x, .int .i64 (e : Int)]) w) := by
  have hlen := bl_length S
  unfold lexed at h
  split at h
  · next h8 =>
    simp at h
    obtain ⟨rfl, rfl⟩ := h
    exact rtokens_long S w (by omega)
  · next h8 =>
    split at h
    · next er he =>
      obtain ⟨e1, e2⟩ := er
      simp at h
      obtain ⟨rfl, rfl⟩ := h
      have := rtokens_any S w (by omega)
      rw [he] at this
      exact this
    · cases h
theorem rlexed_ok (S : ByteArray) (w : World) {l : List Tok} (h : lexed (bl S) = .inr l) :
    Calls Tryd.prog 41 #[.string S] w (fun e w' => ∃ v, e = .returned (.tuple #[v, .int .i64 0, .int .i64 0]) ∧ w'.ownsRow w.heap.size 53 7 v l.length (tokCells l) ∧ Below w.heap.size w w') := by
  obtain ⟨h1, h2⟩ := lexed_inr h
  have := rtokens_any S w (by rw [← bl_length]; exact h1)
  rw [h2] at this
  exact this
end Go.Proofs.YtlohpplpnddfaaaDoor
