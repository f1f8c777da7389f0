/- uses' closure: the place of a Ref's rule into the set. | slices.Sorted(maps.Keys(m)): the set's places, rising. | The places of a set, rising: plain. | scope.uses: the rules that a tree uses, rising. | The rows of uses; to which rules one leads; a visit: plain. | The scope laws' small case: plain. | A row of rows of places; sets of places by a Bool: plain. -/
import Derived.Test.YtjlcoldnhbkcgaaGreatDoorG40
import Derived.Test.YtjlcoldnhbkcgaaGreatDoorSorted
import Derived.Test.YtjlcoldnhbkcgaaGreatDoorG41
import Derived.Test.YtjlcoldnhbkcgaaGreatDoorG34
import Derived.Test.YtjlcoldnhbkcgaaGreatDoorG36
namespace Go.Proofs.YtjlcoldnhbkcgaaGreatDoor
open Go.RowKit Go.Sort Go.Maps

theorem map_ib : Tryz.prog.underlying 73 = some (.map 3 4) := by kernel_rfl
theorem key_int {i : Int} (h : (Lit.int .i64 i).wf = true) : keyOf Tryz.prog 3 (.int .i64 i) = some (.int .i64 i) := keyOf_int_mk Tryz.underlying3 h
/-- The places that are in the set: those that satisfy p, all below a bound. -/
def SetD (p : Nat → Prop) (S : DataW Unit) : Prop := (∃ es, S = .map es ∧ ∀ e ∈ es, ∃ i : Nat, e.1 = .int .i64 (i : Int)) ∧ ∀ i : Nat, Maps.has S (.int .i64 (i : Int)) = true ↔ p i
theorem setD_nil : SetD (fun _ => False) (.map []) := ⟨⟨[], rfl, fun e h => (by cases h)⟩, fun i => ⟨fun h => (by cases h), fun h => h.elim⟩⟩
theorem int_ne {i j : Nat} (h : i ≠ j) : (Lit.int .i64 (i : Int)) ≠ Lit.int .i64 (j : Int) := fun e => h (by injection e with _ e; omega)
theorem setD_put {p : Nat → Prop} {S : DataW Unit} {k : Nat} (h : SetD p S) (hS : IsMap S) : SetD (fun i => p i ∨ i = k) (S.put (.int .i64 (k : Int)) (.lit (.bool true))) := by
  refine ⟨?_, fun i => ?_⟩
  · obtain ⟨es, rfl, hes⟩ := h.1
    refine ⟨_, rfl, fun e he => ?_⟩
    rcases Go.ChangeMaps.mem_insert_iff.1 he with rfl | he
    · exact ⟨k, rfl⟩
    · exact hes e (List.mem_filter.1 he).1
  · by_cases hk : i = k
    · subst hk
      rw [has_put_same hS (by trivial)]
      exact ⟨fun _ => .inr rfl, fun _ => rfl⟩
    · rw [has_put_other (int_ne hk), h.2 i]
      exact ⟨.inl, fun h => h.resolve_right hk⟩
/-- The places of Refs. -/
def RfP (g : List Rr) (pre : List (List UInt8 × Int)) (i : Nat) : Prop := ∃ x ∈ pre, fdx g x.1 = some i
theorem rfP_snoc {g : List Rr} {pre : List (List UInt8 × Int)} {x : List UInt8 × Int} {k : Nat} (hk : fdx g x.1 = some k) {S : DataW Unit} (h : SetD (fun i => RfP g pre i ∨ i = k) S) : SetD (RfP g (pre ++ [x])) S := by
  refine ⟨h.1, fun i => (h.2 i).trans ⟨?_, ?_⟩⟩
  · rintro (⟨z, hz, e⟩ | rfl)
    · exact ⟨z, List.mem_append_left _ hz, e⟩
    · exact ⟨x, by simp, hk⟩
  · rintro ⟨z, hz, e⟩
    rcases List.mem_append.1 hz with hz | hz
    · exact .inl ⟨z, hz, e⟩
    · obtain rfl := List.mem_singleton.1 hz
      rw [hk] at e
      injection e with e
      exact .inr e.symm
/-- What stands while uses goes through a tree. -/
structure UsS (g : List Rr) (n0 sb : Nat) (w0 : World) (pre : List (List UInt8 × Int)) (W : World) : Prop where
  other : ∀ b, b < n0 → b ≠ sb → W.heap[b]? = w0.heap[b]?
  set : ∃ S : DataW Unit, W.ownsMap Tryz.prog 3 (plainElem Tryz.prog 4) sb pre.length S ∧ (pre.all (known g) = true → SetD (RfP g pre) S)
theorem uss_stab {g : List Rr} {n0 sb : Nat} {w0 : World} (hsb : sb < n0) : ∀ pre W W', n0 ≤ W.heap.size → UsS g n0 sb w0 pre W → Below n0 W W' → UsS g n0 sb w0 pre W' := fun _ _ _ _ h hb => by
  obtain ⟨h1, S, h2, h3⟩ := h
  exact ⟨fun b hb' hne => (hb.block b hb').trans (h1 b hb' hne), S, owns_same h2 (hb.block sb hsb), h3⟩
set_option maxRecDepth 100000 in
set_option maxHeartbeats 6400000 in
theorem uses1_any {g : List Rr} {D : DataW Unit} {m sx mx sb n0 : Nat} {w0 : World} (hD : PlcD g D) (_ : g.length ≤ 1000) (hown : w0.ownsMap Tryz.prog 9 (plainElem Tryz.prog 3) m g.length D) (hmx : w0.heap[mx]? = some (.cells #[.map (some m)] 70 (0, 0))) (hsx : w0.heap[sx]? = some (.cells #[.map (some sb)] 73 (0, 0))) (hm : m < n0) (hmb : mx < n0) (hsb : sb < n0) (hsxl : sx < n0) (h1 : m ≠ sb) (h2 : mx ≠ sb) (h3 : sx ≠ sb) :
    YieldC n0 51 sx mx (UsS g n0 sb w0) (fun _ => true) := by
  intro pre x c a n cap q W hpl hxl hq hn0 hS
  obtain rfl : q = true := hq.symm
  obtain ⟨h4, S, h5, h6⟩ := hS
  obtain ⟨t, p⟩ := x
  have hm1 := cell_alloc_lt
  have k2 := owns_same hown (h4 m hm h1)
  have k3 := (h4 mx hmb h2).trans hmx
  have k4 := (h4 sx hsxl h3).trans hsx
  have hO1 := k2.alloc (.cells #[.int .i64 5, .string (mkS t), .int .u64 (wd c 0), .int .u64 (wd c 1), .int .u64 (wd c 2), .int .u64 (wd c 3), .slice a n cap, .int .i64 p] 40)
  obtain ⟨cc, hrun, hat, hwf⟩ := hO1.lookup_int str_law map_si Tryz.underlying3 (zero_int _) (key_name hxl)
  obtain ⟨w2, hrun2, hown2, hg2⟩ := (h5.alloc (.cells #[.int .i64 5, .string (mkS t), .int .u64 (wd c 0), .int .u64 (wd c 1), .int .u64 (wd c 2), .int .u64 (wd c 3), .slice a n cap, .int .i64 p] 40)).update (val := .bool true) int_law map_ib (by unfold maxLen; omega) (key_int hwf) (plainElem_bool Tryz.underlying4 true)
  have b1 := (cells_at k3).1 0
  have b2 := (cells_at k3).2.2
  have f1 := (cells_at k4).1 0
  have f2 := (cells_at k4).2.2
  have H4 := Lib.hid h4
  have HO2 := Lib.hid hown2
  have HG2 := Lib.hid hg2
  have HAT := Lib.hid hat
  have H6 := Lib.hid h6
  have H5 := Lib.hid h5
  clear h4 h5 h6 k2 k3 k4 hat hown hmx hsx hown2 hg2 hO1
  dsimp only [trC]
  go_enter Tryz.func51, Tryz.ntmps51
  repeat (first | go_values | go_skip | go_guarded | go_step | go_upon)
  go_ret
  have hlt : ∀ b, b < n0 → b < W.heap.size := fun b hb => Nat.lt_of_lt_of_le hb hn0
  have hE : ∀ b, b < W.heap.size → b ≠ sb → w2.heap[b]? = W.heap[b]? := fun b hb hne => (HG2.out.block b (by simp; omega) (fun e => hne (by injection e))).trans (RowKit.Below.heap_alloc _ _ _ hb)
  have hz := HG2.out.size
  simp only [World.size_alloc] at hz
  refine ⟨rfl, ⟨fun b hb hne => (hE b (hlt b hb) hne).trans (H4.out b hb hne), S.put (.int .i64 cc) (.lit (.bool true)), by rw [List.length_append, List.length_singleton]; exact HO2.out, fun hall => ?_⟩, ⟨HG2.out.os, HG2.out.tape, HG2.out.output, by omega, fun k h1 h2 => hE k h2 (by omega)⟩⟩
  rw [List.all_append, Bool.and_eq_true] at hall
  obtain ⟨k, hk⟩ := Option.isSome_iff_exists.1 (show (fdx g t).isSome = true from by simpa [known] using hall.2)
  have hkc := (hD t).2 k hk
  rw [HAT.out] at hkc
  injection hkc with hkc
  injection hkc with _ hkc
  subst hkc
  exact rfP_snoc hk (setD_put (H6.out hall.1) H5.out.isMap)
end Go.Proofs.YtjlcoldnhbkcgaaGreatDoor
namespace Go.Proofs.YtjlcoldnhbkcgaaGreatDoor
open Go.RowKit Go.Sort Go.Maps Go.Shelf

theorem keys_any (mb : Option Nat) (W : World) : Calls Tryz.prog 33 #[.map mb] W (fun e w' => e = .returned (.func (.func 54) #[] #[.pointer (some ⟨W.heap.size, 0, none⟩)]) ∧ w' = W.alloc (.cells #[.map mb] 73)) :=
  (callsIn_wide (n := 5)).1 (AnyZI.keys_in Tryz.keysA Fence.wide 5 trivial rfl mb W)
theorem sorts_any (m : Nat) : AnyZI.SortsIn Tryz.prog Tryz.sortedA_ren Fence.wide m :=
  ⟨fun blk off cap ss W hH hblk hsz => callsIn_wide.2 (AnyM.slices_Sort_int Tryz.sortA blk off cap ss W hH hblk hsz),
   fun p cap W => callsIn_wide.2 (AnyM.slices_Sort_int_none Tryz.sortA p cap W)⟩
set_option maxHeartbeats 1000000 in
theorem sorted_keys (b nn : Nat) (D0 : DataW Unit) (R : Value → Option (DataW Unit × List MemPlace)) (w : World) (hown : w.ownsMap Tryz.prog 3 R b nn D0) (hmax : Maps.size D0 ≤ maxLen) (hbytes : Maps.size D0 * 8 ≤ 140737488355328) :
    Calls Tryz.prog 32 #[.func (.func 54) #[] #[.pointer (some ⟨w.heap.size, 0, none⟩)]] (w.alloc (.cells #[.map (some b)] 73)) (fun e w' => ∃ (v : Value) (ss : List Int), e = .returned v ∧ ss.Perm (intKeys D0) ∧
      w'.ownsRow (w.alloc (.cells #[.map (some b)] 73)).heap.size 3 1 v ss.length ((ss.mergeSort (fun x y => decide (x ≤ y))).map encZ) ∧ (v = .slice none 0 0 ↔ ss = []) ∧ Below (w.alloc (.cells #[.map (some b)] 73)).heap.size (w.alloc (.cells #[.map (some b)] 73)) w') := by
  have hbl := hown.lt
  have hseq : SeqGives Fence.wide 2 Tryz.prog 54 #[.pointer (some ⟨w.heap.size, 0, none⟩)] encZ (fun ss => ss.Perm (intKeys D0)) (Maps.size D0) (w.alloc (.cells #[.map (some b)] 73)) :=
    AnyZI.keys_gives (ρ := Tryz.keysA_ren) { Tryz.keysA with } Fence.wide _ trivial rfl (by omega) w.heap.size b nn D0 _ (by simp) (by simp) (by
      obtain ⟨es, clock, hb, Ft, hs, hD⟩ := hown
      exact ⟨es, clock, (RowKit.Below.heap_alloc _ _ b hbl).trans hb, Ft, hs, hD⟩)
  exact (callsIn_wide (n := 5)).1 (AnyZI.sorted_in Tryz.sortedA Fence.wide 5 trivial trivial trivial trivial rfl (by omega) (sorts_any _) (enters_of Tryz.func53 (by kernel_rfl) rfl) 54 #[.pointer (some ⟨w.heap.size, 0, none⟩)] trivial (enters_of Tryz.func54 (by kernel_rfl) rfl) _ _ hmax hbytes _ hseq)
end Go.Proofs.YtjlcoldnhbkcgaaGreatDoor
namespace Go.Proofs.YtjlcoldnhbkcgaaGreatDoor
open Go.RowKit Go.Sort Go.Maps Go.Shelf

/-- Rising, and just those. -/
def SetL (p : Nat → Prop) (us : List Nat) : Prop := us.Pairwise (· < ·) ∧ ∀ i, i ∈ us ↔ p i
theorem strict_of {zs : List Int} (h : zs.Pairwise (fun x y => x ≤ y)) (hn : zs.Nodup) : zs.Pairwise (· < ·) := by
  induction zs with
  | nil => exact .nil
  | cons z zs ih =>
    rw [List.pairwise_cons] at h ⊢
    rw [List.nodup_cons] at hn
    exact ⟨fun y hy => by have h1 := h.1 y hy; have h2 : z ≠ y := fun e => hn.1 (by rw [e]; exact hy); omega, ih h.2 hn.2⟩
theorem setL_of {p : Nat → Prop} {S : DataW Unit} (h : SetD p S) (hT : Tidy S) {ss : List Int} (hp : ss.Perm (intKeys S)) : ∃ us : List Nat, (ss.mergeSort (fun x y => decide (x ≤ y))).map encZ = us.map (fun (i : Nat) => Value.int .i64 (i : Int)) ∧ SetL p us ∧ us.length = ss.length := by
  obtain ⟨es, rfl, hne⟩ := hT
  obtain ⟨es', e1, hint⟩ := h.1
  injection e1 with e1
  subst e1
  have hself : ∀ e ∈ es, Maps.has (DataW.map es) e.1 = true := fun e he => by
    rw [has_eq, List.any_eq_true]
    obtain ⟨i, hi⟩ := hint e he
    exact ⟨e, he, Go.WideAt.sameKey_self (by rw [hi]; trivial)⟩
  have hback : ∀ k, Maps.has (DataW.map es) k = true → ∃ e ∈ es, e.1 = k := fun k hk => by
    rw [has_eq, List.any_eq_true] at hk
    obtain ⟨e, he, h2⟩ := hk
    refine ⟨e, he, ?_⟩
    by_cases hc : e.1 = k
    · exact hc
    · rw [sameKey_ne hc] at h2; cases h2
  obtain ⟨zs, hzs⟩ : ∃ zs, zs = ss.mergeSort (fun x y => decide (x ≤ y)) := ⟨_, rfl⟩
  have hperm : zs.Perm (es.map fun q => Go.intOf q.1) := by rw [hzs]; exact (List.mergeSort_perm _ _).trans hp
  have hle : zs.Pairwise (fun x y => x ≤ y) := by
    rw [hzs]
    have := List.pairwise_mergeSort (le := fun x y : Int => decide (x ≤ y)) (fun a b c h1 h2 => by simp at *; omega) (fun a b => by simp; omega) ss
    exact this.imp (fun h => by simpa using h)
  have hkey : ∀ e ∈ es, ∃ i : Nat, e.1 = .int .i64 (i : Int) ∧ Go.intOf e.1 = (i : Int) := fun e he => by
    obtain ⟨i, hi⟩ := hint e he
    exact ⟨i, hi, by rw [hi]; rfl⟩
  have hnd : (es.map fun q => Go.intOf q.1).Nodup := by
    rw [List.nodup_iff_pairwise_ne, List.pairwise_map]
    refine (List.pairwise_iff_forall_sublist.2 fun {a b} hs => ?_)
    have hab := List.pairwise_iff_forall_sublist.1 hne hs
    have ha := hs.subset (show a ∈ [a, b] by simp)
    have hb := hs.subset (show b ∈ [a, b] by simp)
    obtain ⟨i, h1, h2⟩ := hkey a ha
    obtain ⟨j, h3, h4⟩ := hkey b hb
    intro e
    rw [h2, h4] at e
    exact hab (by rw [h1, h3, e])
  have hznd : zs.Nodup := hperm.symm.nodup hnd
  have hnn : ∀ z ∈ zs, ((z.toNat : Nat) : Int) = z := fun z hz => by
    obtain ⟨e, he, rfl⟩ := List.mem_map.1 (hperm.mem_iff.1 hz)
    obtain ⟨i, _, h2⟩ := hkey e he
    rw [h2]
    rfl
  refine ⟨zs.map Int.toNat, ?_, ⟨?_, fun i => ?_⟩, ?_⟩
  · rw [← hzs, List.map_map]
    refine List.map_congr_left fun z hz => ?_
    show Value.int .i64 z = Value.int .i64 ((z.toNat : Nat) : Int)
    rw [hnn z hz]
  · rw [List.pairwise_map]
    refine List.Pairwise.imp_of_mem ?_ (strict_of hle hznd)
    intro a b ha hb hab
    have h1 := hnn a ha
    have h2 := hnn b hb
    omega
  · rw [← h.2 i, List.mem_map]
    constructor
    · rintro ⟨z, hz, rfl⟩
      rw [hnn z hz]
      obtain ⟨e, he, rfl⟩ := List.mem_map.1 (hperm.mem_iff.1 hz)
      obtain ⟨j, h1, h2⟩ := hkey e he
      rw [h2, ← h1]
      exact hself e he
    · intro hi
      obtain ⟨e, he, h1⟩ := hback _ hi
      refine ⟨(i : Int), hperm.mem_iff.2 (List.mem_map.2 ⟨e, he, by rw [h1]; rfl⟩), rfl⟩
  · rw [List.length_map, hzs, List.length_mergeSort]
end Go.Proofs.YtjlcoldnhbkcgaaGreatDoor
namespace Go.Proofs.YtjlcoldnhbkcgaaGreatDoor
open Go.RowKit Go.Sort Go.Maps Go.Shelf

theorem few_lt {n : Nat} {us : List Nat} (h : us.Pairwise (· < ·)) (hn : ∀ i ∈ us, i < n) : us.length ≤ n := by
  have key : ∀ (us : List Nat) (a : Nat), us.Pairwise (· < ·) → (∀ i ∈ us, a ≤ i ∧ i < n) → a ≤ n → us.length + a ≤ n := by
    intro us
    induction us with
    | nil => intro a _ _ h; simpa using h
    | cons x us ih =>
      intro a hp hb _
      rw [List.pairwise_cons] at hp
      have h1 := hb x List.mem_cons_self
      have := ih (x + 1) hp.2 (fun i hi => ⟨hp.1 i hi, (hb i (List.mem_cons_of_mem _ hi)).2⟩) (by omega)
      rw [List.length_cons]
      omega
  have := key us 0 h (fun i hi => ⟨Nat.zero_le _, hn i hi⟩) (Nat.zero_le _)
  omega
set_option maxRecDepth 100000 in
set_option maxHeartbeats 6400000 in
theorem uses_any {g : List Rr} {D : DataW Unit} {m : Nat} {n : Tr} {c : List Value} {P : Nat → Prop} (w : World) (hD : PlcD g D) (hg : g.length ≤ 1000) (hown : w.ownsMap Tryz.prog 9 (plainElem Tryz.prog 3) m g.length D) (hr : RepA w P n c) (hP : ∀ b, P b → b < w.heap.size) (hx : ∀ x ∈ rfT n, x.1.length ≤ 1000000) (hlen : (rfT n).length ≤ 1000000000) (hk : (rfT n).all (known g) = true) :
    Calls Tryz.prog 30 #[.map (some m), .agg c.toArray] w (fun e w' => ∃ (us : List Nat) (v : Value), e = .returned v ∧ w'.ownsRow w.heap.size 3 1 v us.length (us.map (fun (i : Nat) => Value.int .i64 (i : Int))) ∧ SetL (RfP g (rfT n)) us ∧ (v = .slice none 0 0 ↔ us = []) ∧ Below w.heap.size w w') := by
  obtain ⟨k, t, x, v, l, p, hn, rfl, hl⟩ := hr.form
  obtain ⟨sa, cap, rfl, _⟩ := hl.slice
  have hz4 : ((((w.alloc (.cells #[.map (some m)] 70)).alloc (.cells #[.int .i64 k, .string (mkS t), .int .u64 (wd x 0), .int .u64 (wd x 1), .int .u64 (wd x 2), .int .u64 (wd x 3), .slice sa l.length cap, .int .i64 p] 40)).alloc (.map #[] 0)).alloc (.cells #[.map (some (w.heap.size + 1 + 1))] 73)).heap.size = w.heap.size + 1 + 1 + 1 + 1 := by simp
  have hE : ∀ b, b < w.heap.size → ((((w.alloc (.cells #[.map (some m)] 70)).alloc (.cells #[.int .i64 k, .string (mkS t), .int .u64 (wd x 0), .int .u64 (wd x 1), .int .u64 (wd x 2), .int .u64 (wd x 3), .slice sa l.length cap, .int .i64 p] 40)).alloc (.map #[] 0)).alloc (.cells #[.map (some (w.heap.size + 1 + 1))] 73)).heap[b]? = w.heap[b]? := fun b hb => (RowKit.Below.heap_alloc _ _ _ (by simp; omega)).trans ((RowKit.Below.heap_alloc _ _ _ (by simp; omega)).trans ((RowKit.Below.heap_alloc _ _ _ (by simp; omega)).trans (RowKit.Below.heap_alloc _ _ _ hb)))
  have hmx : ((((w.alloc (.cells #[.map (some m)] 70)).alloc (.cells #[.int .i64 k, .string (mkS t), .int .u64 (wd x 0), .int .u64 (wd x 1), .int .u64 (wd x 2), .int .u64 (wd x 3), .slice sa l.length cap, .int .i64 p] 40)).alloc (.map #[] 0)).alloc (.cells #[.map (some (w.heap.size + 1 + 1))] 73)).heap[w.heap.size]? = some (.cells #[.map (some m)] 70 (0, 0)) := (RowKit.Below.heap_alloc _ _ _ (by simp; omega)).trans ((RowKit.Below.heap_alloc _ _ _ (by simp; omega)).trans ((RowKit.Below.heap_alloc _ _ _ (by simp)).trans (heap_alloc_new w _)))
  have hsx : ((((w.alloc (.cells #[.map (some m)] 70)).alloc (.cells #[.int .i64 k, .string (mkS t), .int .u64 (wd x 0), .int .u64 (wd x 1), .int .u64 (wd x 2), .int .u64 (wd x 3), .slice sa l.length cap, .int .i64 p] 40)).alloc (.map #[] 0)).alloc (.cells #[.map (some (w.heap.size + 1 + 1))] 73)).heap[w.heap.size + 1 + 1 + 1]? = some (.cells #[.map (some (w.heap.size + 1 + 1))] 73 (0, 0)) := by
    have h := heap_alloc_new (((w.alloc (.cells #[.map (some m)] 70)).alloc (.cells #[.int .i64 k, .string (mkS t), .int .u64 (wd x 0), .int .u64 (wd x 1), .int .u64 (wd x 2), .int .u64 (wd x 3), .slice sa l.length cap, .int .i64 p] 40)).alloc (.map #[] 0)) (.cells #[.map (some (w.heap.size + 1 + 1))] 73)
    simpa using h
  have hsb : ((((w.alloc (.cells #[.map (some m)] 70)).alloc (.cells #[.int .i64 k, .string (mkS t), .int .u64 (wd x 0), .int .u64 (wd x 1), .int .u64 (wd x 2), .int .u64 (wd x 3), .slice sa l.length cap, .int .i64 p] 40)).alloc (.map #[] 0)).alloc (.cells #[.map (some (w.heap.size + 1 + 1))] 73)).ownsMap Tryz.prog 3 (plainElem (H := Unit) Tryz.prog 4) (w.heap.size + 1 + 1) 0 (.map []) := by
    have h := (World.ownsMap_made ((w.alloc (.cells #[.map (some m)] 70)).alloc (.cells #[.int .i64 k, .string (mkS t), .int .u64 (wd x 0), .int .u64 (wd x 1), .int .u64 (wd x 2), .int .u64 (wd x 3), .slice sa l.length cap, .int .i64 p] 40)) Tryz.prog 3 (plainElem (H := Unit) Tryz.prog 4)).alloc (.cells #[.map (some (w.heap.size + 1 + 1))] 73)
    simpa using h
  have hml := hown.lt
  have hYC : YieldC (w.heap.size + 1 + 1 + 1 + 1) 51 (w.heap.size + 1 + 1 + 1) w.heap.size (UsS g (w.heap.size + 1 + 1 + 1 + 1) (w.heap.size + 1 + 1) ((((w.alloc (.cells #[.map (some m)] 70)).alloc (.cells #[.int .i64 k, .string (mkS t), .int .u64 (wd x 0), .int .u64 (wd x 1), .int .u64 (wd x 2), .int .u64 (wd x 3), .slice sa l.length cap, .int .i64 p] 40)).alloc (.map #[] 0)).alloc (.cells #[.map (some (w.heap.size + 1 + 1))] 73))) (fun _ => true) := uses1_any hD hg (owns_same hown (hE m hml)) hmx hsx (by omega) (by omega) (by omega) (by omega) (by omega) (by omega) (by omega)
  have hRC : RefC (w.heap.size + 1 + 1 + 1 + 1) 51 (w.heap.size + 1 + 1 + 1) w.heap.size (UsS g (w.heap.size + 1 + 1 + 1 + 1) (w.heap.size + 1 + 1) ((((w.alloc (.cells #[.map (some m)] 70)).alloc (.cells #[.int .i64 k, .string (mkS t), .int .u64 (wd x 0), .int .u64 (wd x 1), .int .u64 (wd x 2), .int .u64 (wd x 3), .slice sa l.length cap, .int .i64 p] 40)).alloc (.map #[] 0)).alloc (.cells #[.map (some (w.heap.size + 1 + 1))] 73))) (fun _ => true) ((((w.alloc (.cells #[.map (some m)] 70)).alloc (.cells #[.int .i64 k, .string (mkS t), .int .u64 (wd x 0), .int .u64 (wd x 1), .int .u64 (wd x 2), .int .u64 (wd x 3), .slice sa l.length cap, .int .i64 p] 40)).alloc (.map #[] 0)).alloc (.cells #[.map (some (w.heap.size + 1 + 1))] 73)) P n := refs_any (enters_of Tryz.func51 (by kernel_rfl) rfl) (fun _ W h b hb => h.other b (by have := hP b hb; omega) (by have := hP b hb; omega)) (uss_stab (by omega)) hYC n
  have hall : (rfT n).all (fun _ => true) = true := by simp
  have hC := hRC [] _ true ((((w.alloc (.cells #[.map (some m)] 70)).alloc (.cells #[.int .i64 k, .string (mkS t), .int .u64 (wd x 0), .int .u64 (wd x 1), .int .u64 (wd x 2), .int .u64 (wd x 3), .slice sa l.length cap, .int .i64 p] 40)).alloc (.map #[] 0)).alloc (.cells #[.map (some (w.heap.size + 1 + 1))] 73)) (by simp only [List.length_nil]; omega) hx hall (hr.mono (w' := ((((w.alloc (.cells #[.map (some m)] 70)).alloc (.cells #[.int .i64 k, .string (mkS t), .int .u64 (wd x 0), .int .u64 (wd x 1), .int .u64 (wd x 2), .int .u64 (wd x 3), .slice sa l.length cap, .int .i64 p] 40)).alloc (.map #[] 0)).alloc (.cells #[.map (some (w.heap.size + 1 + 1))] 73))) (fun b hb => hE b (hP b hb)) (fun _ h => h)) (by omega) ⟨fun _ _ _ => rfl, .map [], hsb, fun _ => ⟨⟨[], rfl, fun e h => (by cases h)⟩, fun i => ⟨fun h => (by cases h), fun ⟨z, hz, _⟩ => (by cases hz)⟩⟩⟩
  rw [List.nil_append, vis_all hall] at hC
  have HC := Lib.hid hC
  have HK := Lib.hid hk
  have HSX := Lib.hid hsx
  have HB4 := Lib.hid (show Below w.heap.size w ((((w.alloc (.cells #[.map (some m)] 70)).alloc (.cells #[.int .i64 k, .string (mkS t), .int .u64 (wd x 0), .int .u64 (wd x 1), .int .u64 (wd x 2), .int .u64 (wd x 3), .slice sa l.length cap, .int .i64 p] 40)).alloc (.map #[] 0)).alloc (.cells #[.map (some (w.heap.size + 1 + 1))] 73)) from bal (bal (bal (bal (Below.refl _ w) _) _) _) _)
  have HLN := Lib.hid hlen
  have hm1 := cell_alloc_lt
  have hmk : ∀ w : World, (Instr.makeMap 73 none).run Tryz.prog w = .ok (.map (some w.heap.size)) (w.alloc (.map #[] 0)) := fun w => rfl
  clear hl hn hr hP hx hlen hk hown hD hz4 hE hmx hsx hsb hYC hRC hall hC
  dsimp only [trC, fnV] at HC
  dsimp only [trC]
  go_enter Tryz.func30, Tryz.ntmps30
  repeat (first | go_values | go_skip | go_guarded | go_step | go_upon)
  refine HC.out.mono ?_
  rintro e w5 ⟨rfl, hs, hm5⟩
  obtain ⟨ho, S, hownS, hset⟩ := hs
  have hsx5 : w5.heap[w.heap.size + 1 + 1 + 1]? = some (.cells #[.map (some (w.heap.size + 1 + 1))] 73 (0, 0)) := (ho _ (by omega) (by omega)).trans HSX.out
  have z5 : w.heap.size + 1 + 1 + 1 + 1 ≤ w5.heap.size := by have := hm5.size; simpa using this
  have HB5 := Lib.hid (show Below w.heap.size w w5 from HB4.out.trans ⟨hm5.os, hm5.tape, hm5.output, hm5.size, fun b hb => ho b (by omega) (by omega)⟩)
  have HS := Lib.hid (hset HK.out)
  have HO := Lib.hid hownS
  have hsz := hownS.size_le
  have c1 := (cells_at hsx5).1 0
  clear ho hownS hset hsx5 hm5
  dsimp only
  repeat (first | go_values | go_skip | go_guarded | go_step | go_upon)
  refine (keys_any (some (w.heap.size + 1 + 1)) w5).mono ?_
  rintro e w6 ⟨rfl, rfl⟩
  dsimp only
  repeat (first | go_values | go_skip | go_guarded | go_step | go_upon)
  refine (sorted_keys (w.heap.size + 1 + 1) _ S _ w5 HO.out (by unfold maxLen; have := HLN.out; omega) (by have := HLN.out; omega)).mono ?_
  rintro e w7 ⟨v, ss, rfl, hperm, hrow, hnil, hb7⟩
  obtain ⟨us, hmap, hsl, hl2⟩ := setL_of HS.out (HO.out.tidy int_law) hperm
  rw [hmap, ← hl2] at hrow
  have HR7 := Lib.hid hrow
  have HSL := Lib.hid hsl
  have HNIL := Lib.hid (show v = .slice none 0 0 ↔ us = [] from hnil.trans ⟨fun e => List.eq_nil_of_length_eq_zero (by rw [hl2, e]; rfl), fun e => List.eq_nil_of_length_eq_zero (by rw [← hl2, e]; rfl)⟩)
  have HB7 := Lib.hid (show Below w.heap.size w w7 from HB5.out.trans (((bal (Below.refl _ w5) _).trans (hb7.mono (by simp))).mono HB5.out.size))
  clear hmap hrow hnil hperm hsl hl2 hb7
  dsimp only
  repeat (first | go_values | go_skip | go_guarded | go_step | go_upon)
  go_ret
  exact ⟨us, v, rfl, ownsRow_base_a HR7.out (by have := HB5.out.size; simp; omega), HSL.out, HNIL.out, HB7.out⟩
end Go.Proofs.YtjlcoldnhbkcgaaGreatDoor
namespace Go.Proofs.YtjlcoldnhbkcgaaGreatDoor
open Go.RowKit

theorem rise_det : ∀ {l m : List Nat}, l.Pairwise (· < ·) → m.Pairwise (· < ·) → (∀ i, i ∈ l ↔ i ∈ m) → l = m
  | [], [], _, _, _ => rfl
  | [], y :: m, _, _, h => absurd ((h y).2 List.mem_cons_self) (by simp)
  | x :: l, [], _, _, h => absurd ((h x).1 List.mem_cons_self) (by simp)
  | x :: l, y :: m, hl, hm, h => by
    rw [List.pairwise_cons] at hl hm
    have hxy : x = y := by
      rcases List.mem_cons.1 ((h x).1 List.mem_cons_self) with e | e
      · exact e
      · rcases List.mem_cons.1 ((h y).2 List.mem_cons_self) with e2 | e2
        · exact e2.symm
        · have h1 := hm.1 x e
          have h2 := hl.1 y e2
          omega
    subst hxy
    rw [rise_det hl.2 hm.2 (fun i => ⟨fun hi => ?_, fun hi => ?_⟩)]
    · rcases List.mem_cons.1 ((h i).1 (List.mem_cons_of_mem _ hi)) with e | e
      · have := hl.1 i hi; omega
      · exact e
    · rcases List.mem_cons.1 ((h i).2 (List.mem_cons_of_mem _ hi)) with e | e
      · have := hm.1 i hi; omega
      · exact e
theorem SetL.det {p : Nat → Prop} {l m : List Nat} (h : SetL p l) (h' : SetL p m) : l = m := rise_det h.1 h'.1 (fun i => (h.2 i).trans (h'.2 i).symm)
/-- The rules that a tree uses. -/
def usL (g : List Rr) (n : Tr) : List Nat := (List.range g.length).filter (fun i => (rfT n).any (fun x => fdx g x.1 == some i))
theorem usL_set (g : List Rr) (n : Tr) : SetL (RfP g (rfT n)) (usL g n) := by
  refine ⟨List.Pairwise.filter _ List.pairwise_lt_range, fun i => ?_⟩
  rw [usL, List.mem_filter, List.any_eq_true, List.mem_range]
  constructor
  · rintro ⟨_, x, hx, he⟩
    exact ⟨x, hx, by simpa using he⟩
  · rintro ⟨x, hx, he⟩
    exact ⟨fdx_lt he, x, hx, by simpa using he⟩
theorem usL_is {g : List Rr} {n : Tr} {us : List Nat} (h : SetL (RfP g (rfT n)) us) : us = usL g n := h.det (usL_set g n)
theorem usL_lt {g : List Rr} {n : Tr} {i : Nat} (h : i ∈ usL g n) : i < g.length := by
  rw [usL, List.mem_filter, List.mem_range] at h
  exact h.1
def rowsG (g : List Rr) : List (List Nat) := g.map (fun y => usL g y.body)
theorem rowsG_len (g : List Rr) : (rowsG g).length = g.length := by simp [rowsG]
theorem rowsG_get {g : List Rr} {i : Nat} {y : Rr} (h : g[i]? = some y) : (rowsG g)[i]? = some (usL g y.body) := by simp [rowsG, h]
theorem rowsG_lt {g : List Rr} {i : Nat} {us : List Nat} (h : (rowsG g)[i]? = some us) : ∀ u ∈ us, u < g.length := by
  unfold rowsG at h
  rw [List.getElem?_map, Option.map_eq_some_iff] at h
  obtain ⟨y, _, rfl⟩ := h
  exact fun u hu => usL_lt hu
/-- To which rules one leads. -/
inductive Rch (rows : List (List Nat)) (i : Nat) : Nat → Prop
  | self : Rch rows i i
  | step {j k : Nat} {us : List Nat} : Rch rows i j → rows[j]? = some us → k ∈ us → Rch rows i k
theorem Rch.trans {rows : List (List Nat)} {i j k : Nat} (h : Rch rows i j) (h' : Rch rows j k) : Rch rows i k := by
  induction h' with
  | self => exact h
  | step _ h1 h2 ih => exact .step ih h1 h2
theorem Rch.lt {g : List Rr} {i k : Nat} (h : Rch (rowsG g) i k) (hi : i < g.length) : k < g.length := by
  induction h with
  | self => exact hi
  | step _ h1 h2 _ => exact rowsG_lt h1 _ h2
/-- What a visit does to the set. -/
structure VisP (rows : List (List Nat)) (p q : Nat → Bool) (i : Nat) : Prop where
  sub : ∀ k, p k = true → q k = true
  has : q i = true
  cl : ∀ k us, q k = true → p k = false → rows[k]? = some us → ∀ u ∈ us, q u = true
  fr : ∀ k, q k = true → p k = true ∨ Rch rows i k
theorem VisP.skip {rows : List (List Nat)} {p : Nat → Bool} {i : Nat} (h : p i = true) : VisP rows p p i := ⟨fun _ h => h, h, fun k us h1 h2 => (by rw [h1] at h2; cases h2), fun k h => .inl h⟩
def mark (p : Nat → Bool) (i : Nat) : Nat → Bool := fun k => p k || k == i
/-- What stands within a visit. -/
structure VisL (rows : List (List Nat)) (p q : Nat → Bool) (i : Nat) (us : List Nat) (t : Nat) : Prop where
  sub : ∀ k, p k = true → q k = true
  has : q i = true
  cl : ∀ k us', q k = true → p k = false → k ≠ i → rows[k]? = some us' → ∀ u ∈ us', q u = true
  ks : ∀ u ∈ us.take t, q u = true
  fr : ∀ k, q k = true → p k = true ∨ Rch rows i k
theorem VisL.start (rows : List (List Nat)) (p : Nat → Bool) (i : Nat) (us : List Nat) : VisL rows p (mark p i) i us 0 := by
  refine ⟨fun k h => by simp [mark, h], by simp [mark], fun k us' h1 h2 h3 => ?_, fun u hu => by simp at hu, fun k h => ?_⟩
  · simp [mark, h2, h3] at h1
  · simp only [mark, Bool.or_eq_true, beq_iff_eq] at h
    rcases h with h | rfl
    · exact .inl h
    · exact .inr .self
theorem VisL.next {rows : List (List Nat)} {p q q' : Nat → Bool} {i t u : Nat} {us : List Nat} (h : VisL rows p q i us t) (hr : rows[i]? = some us) (hu : us[t]? = some u) (hv : VisP rows q q' u) : VisL rows p q' i us (t + 1) := by
  have hm := List.mem_of_getElem? hu
  refine ⟨fun k hk => hv.sub k (h.sub k hk), hv.sub i h.has, fun k us' h1 h2 h3 h4 x hx => ?_, fun x hx => ?_, fun k hk => ?_⟩
  · cases hq : q k with
    | true => exact hv.sub x (h.cl k us' hq h2 h3 h4 x hx)
    | false => exact hv.cl k us' h1 hq h4 x hx
  · rw [List.take_add_one, hu] at hx
    rcases List.mem_append.1 hx with hx | hx
    · exact hv.sub x (h.ks x hx)
    · obtain rfl : x = u := by simpa using hx
      exact hv.has
  · rcases hv.fr k hk with h1 | h1
    · exact h.fr k h1
    · exact .inr ((Rch.step .self hr hm).trans h1)
theorem VisL.done {rows : List (List Nat)} {p q : Nat → Bool} {i : Nat} {us : List Nat} (h : VisL rows p q i us us.length) (hr : rows[i]? = some us) : VisP rows p q i := by
  refine ⟨h.sub, h.has, fun k us' h1 h2 h3 x hx => ?_, h.fr⟩
  by_cases hk : k = i
  · subst hk
    rw [hr] at h3
    injection h3 with h3
    subst h3
    exact h.ks x (by rw [List.take_length]; exact hx)
  · exact h.cl k us' h1 h2 hk h3 x hx
theorem VisP.all {rows : List (List Nat)} {q : Nat → Bool} {i : Nat} (h : VisP rows (fun _ => false) q i) (k : Nat) : q k = true ↔ Rch rows i k := by
  constructor
  · exact fun hk => (h.fr k hk).resolve_left (by simp)
  · intro hk
    induction hk with
    | self => exact h.has
    | step _ h1 h2 ih => exact h.cl _ _ ih rfl h1 _ h2
/-- How many are not in the set yet. -/
def cntF (n : Nat) (p : Nat → Bool) : Nat := ((List.range n).filter (fun i => !p i)).length
theorem cntF_le {n : Nat} {p q : Nat → Bool} (h : ∀ k, p k = true → q k = true) : cntF n q ≤ cntF n p := by
  unfold cntF
  induction List.range n with
  | nil => exact Nat.le_refl _
  | cons x l ih =>
    rw [List.filter_cons, List.filter_cons]
    cases hp : p x with
    | true => rw [h x hp]; simpa using ih
    | false =>
      cases hq : q x with
      | true => simp; omega
      | false => simp; omega
theorem cntF_lt {n : Nat} {p q : Nat → Bool} (h : ∀ k, p k = true → q k = true) {i : Nat} (hi : i < n) (hp : p i = false) (hq : q i = true) : cntF n q < cntF n p := by
  unfold cntF
  have hm : i ∈ List.range n := List.mem_range.2 hi
  generalize List.range n = l at hm
  induction l with
  | nil => cases hm
  | cons x l ih =>
    rw [List.filter_cons, List.filter_cons]
    have hle : (l.filter (fun i => !q i)).length ≤ (l.filter (fun i => !p i)).length := by
      clear ih hm
      induction l with
      | nil => exact Nat.le_refl _
      | cons x l ih =>
        rw [List.filter_cons, List.filter_cons]
        cases hp : p x with
        | true => rw [h x hp]; simpa using ih
        | false =>
          cases hq : q x with
          | true => simp; omega
          | false => simp; omega
    rcases List.mem_cons.1 hm with rfl | hm
    · rw [hp, hq]; simp; omega
    · have := ih hm
      cases hpx : p x with
      | true => rw [h x hpx]; simpa using this
      | false =>
        cases hqx : q x with
        | true => simp; omega
        | false => simp; omega
theorem cntF_start (n : Nat) : cntF n (fun _ => false) = n := by
  simp only [cntF, Bool.not_false]
  rw [List.filter_eq_self.2 (fun _ _ => rfl), List.length_range]
end Go.Proofs.YtjlcoldnhbkcgaaGreatDoor
namespace Go.Proofs.YtjlcoldnhbkcgaaGreatDoor
open Go.RowKit

/-- a <- b c b <- c c <- . d <- a -/
def small6L : List UInt8 := [97, 32, 60, 45, 32, 98, 32, 99, 32, 98, 32, 60, 45, 32, 99, 32, 99, 32, 60, 45, 32, 46, 32, 100, 32, 60, 45, 32, 97]
def small6U : List UInt8 := [97, 32, 60, 45, 32, 98, 32, 99, 10, 98, 32, 60, 45, 32, 99, 10, 99, 32, 60, 45, 32, 46, 10, 100, 32, 60, 45, 32, 97, 10]
def small6G : List Ru := [⟨[97], .mk 6 [] 0 [.mk 5 [98] 0 [] 5, .mk 5 [99] 0 [] 7] 5, 0⟩, ⟨[98], .mk 5 [99] 0 [] 14, 9⟩, ⟨[99], .mk 4 [] 0 [] 21, 16⟩, ⟨[100], .mk 5 [97] 0 [] 28, 23⟩]
theorem small6_lexed : lexed small6L = .inr [⟨1, [97], 0, 0⟩, ⟨2, [], 0, 2⟩, ⟨1, [98], 0, 5⟩, ⟨1, [99], 0, 7⟩, ⟨1, [98], 0, 9⟩, ⟨2, [], 0, 11⟩, ⟨1, [99], 0, 14⟩, ⟨1, [99], 0, 16⟩, ⟨2, [], 0, 18⟩, ⟨5, [46], 0, 21⟩, ⟨1, [100], 0, 23⟩, ⟨2, [], 0, 25⟩, ⟨1, [97], 0, 28⟩, ⟨6, [], 0, 29⟩] := by
  refine lexed_toks (by decide) ?_
  unfold toks
  rfl
theorem small6_reads : Reads small6L (.inr small6G) := by
  unfold Reads
  rw [small6_lexed]
  refine ⟨30, .inr ⟨_, [⟨6, [], 0, 29⟩], ?_, rfl⟩⟩
  simp [small6G, pRules, pChoice, pAlts, pParts, pPart, pOne, kindT, posT, sgnOf, preK, sufK, joinN, nameT, Nd.pos]
theorem small6_ok : okG (small6G.map Ru.rr) = true := by
  simp [small6G, Ru.rr, Nd.tr, Nd.trs, okG, okU, okT, okH, okL]
  decide
theorem small6_tx : txG (small6G.map Ru.rr) = small6U := by
  simp [small6G, Ru.rr, Nd.tr, Nd.trs, txG, txU, txT, pcT, pcR, paren, rankT, Tr.kind, txs, Pc.tx, small6U]
theorem small6_fit : ∃ hs, Reads small6U (.inr hs) := by
  have hl : lexed small6U = .inr [⟨1, [97], 0, 0⟩, ⟨2, [], 0, 2⟩, ⟨1, [98], 0, 5⟩, ⟨1, [99], 0, 7⟩, ⟨1, [98], 0, 9⟩, ⟨2, [], 0, 11⟩, ⟨1, [99], 0, 14⟩, ⟨1, [99], 0, 16⟩, ⟨2, [], 0, 18⟩, ⟨5, [46], 0, 21⟩, ⟨1, [100], 0, 23⟩, ⟨2, [], 0, 25⟩, ⟨1, [97], 0, 28⟩, ⟨6, [], 0, 30⟩] := by
    refine lexed_toks (by decide) ?_
    unfold toks
    rfl
  refine ⟨small6G, ?_⟩
  unfold Reads
  rw [hl]
  refine ⟨30, .inr ⟨_, [⟨6, [], 0, 30⟩], ?_, rfl⟩⟩
  simp [small6G, pRules, pChoice, pAlts, pParts, pPart, pOne, kindT, posT, sgnOf, preK, sufK, joinN, nameT, Nd.pos]
theorem small6_pr : PrRes (small6G.map Ru.rr) (.inr (txG (small6G.map Ru.rr))) := by
  obtain ⟨hs, h⟩ := small6_fit
  rw [← small6_tx] at h
  exact .inr (.inr ⟨small6_ok, by rw [small6_tx]; simp [small6U], .inr ⟨hs, h, rfl⟩⟩)
theorem small6_ck : CkOk (small6G.map Ru.rr) := by
  refine ⟨⟨_, small6_pr⟩, ?_, ?_⟩
  · intro i y hy
    match i, hy with
    | 0, hy => simp [small6G, Ru.rr] at hy; subst hy; simp [fdx, small6G, Ru.rr, List.findIdx?_cons]
    | 1, hy => simp [small6G, Ru.rr] at hy; subst hy; simp [fdx, small6G, Ru.rr, List.findIdx?_cons]
    | 2, hy => simp [small6G, Ru.rr] at hy; subst hy; simp [fdx, small6G, Ru.rr, List.findIdx?_cons]
    | 3, hy => simp [small6G, Ru.rr] at hy; subst hy; simp [fdx, small6G, Ru.rr, List.findIdx?_cons]
    | _ + 4, hy => simp [small6G] at hy
  · intro y hy
    simp only [small6G, List.map_cons, List.map_nil, List.mem_cons, List.not_mem_nil, or_false] at hy
    rcases hy with rfl | rfl | rfl | rfl <;> simp [Ru.rr, Nd.tr, Nd.trs, rfT, rfL, known, fdx, small6G, List.findIdx?_cons]
theorem small6_rows : rowsG (small6G.map Ru.rr) = [[1, 2], [2], [], [0]] := by
  simp [rowsG, usL, small6G, Ru.rr, Nd.tr, Nd.trs, rfT, rfL, fdx, List.findIdx?_cons]
  decide
theorem small6_rch {k : Nat} : Rch (rowsG (small6G.map Ru.rr)) 0 k ↔ k < 3 := by
  rw [small6_rows]
  constructor
  · intro h
    induction h with
    | self => decide
    | @step j k us _ h1 h2 ih =>
      match j, ih with
      | 0, _ => simp at h1; subst h1; simp at h2; omega
      | 1, _ => simp at h1; subst h1; simp at h2; omega
      | 2, _ => simp at h1; subst h1; simp at h2
  · intro h
    match k, h with
    | 0, _ => exact .self
    | 1, _ => exact .step (us := [1, 2]) .self rfl (by simp)
    | 2, _ => exact .step (us := [1, 2]) .self rfl (by simp)
theorem small6_set {us : List Nat} (h : SetL (Rch (rowsG (small6G.map Ru.rr)) 0) us) : us = [0, 1, 2] := by
  refine h.det ⟨by decide, fun i => ?_⟩
  rw [small6_rch]
  simp
  omega
theorem small6_bulk : Rr.bulks (small6G.map Ru.rr) ≤ 1000000000 := by
  simp [small6G, Ru.rr, Nd.tr, Nd.trs, Rr.bulks, Rr.bulk, Tr.bulk, Tr.bulks]
/-- a <- x / y -/
def smallYL : List UInt8 := [97, 32, 60, 45, 32, 120, 32, 47, 32, 121]
def smallYU : List UInt8 := [97, 32, 60, 45, 32, 120, 32, 47, 32, 121, 10]
def smallYG : List Ru := [⟨[97], .mk 7 [] 0 [.mk 5 [120] 0 [] 5, .mk 5 [121] 0 [] 9] 5, 0⟩]
theorem smallY_reads : Reads smallYL (.inr smallYG) := by
  have hl : lexed smallYL = .inr [⟨1, [97], 0, 0⟩, ⟨2, [], 0, 2⟩, ⟨1, [120], 0, 5⟩, ⟨5, [47], 0, 7⟩, ⟨1, [121], 0, 9⟩, ⟨6, [], 0, 10⟩] := by
    refine lexed_toks (by decide) ?_
    unfold toks
    rfl
  unfold Reads
  rw [hl]
  refine ⟨30, .inr ⟨_, [⟨6, [], 0, 10⟩], ?_, rfl⟩⟩
  simp [smallYG, pRules, pChoice, pAlts, pParts, pPart, pOne, kindT, posT, sgnOf, preK, sufK, joinN, nameT, Nd.pos]
theorem smallY_ok : okG (smallYG.map Ru.rr) = true := by
  simp [smallYG, Ru.rr, Nd.tr, Nd.trs, okG, okU, okT, okH, okL]
  decide
theorem smallY_tx : txG (smallYG.map Ru.rr) = smallYU := by
  simp [smallYG, Ru.rr, Nd.tr, Nd.trs, txG, txU, txT, pcT, pcR, paren, rankT, Tr.kind, txs, Pc.tx, smallYU]
theorem smallY_fit : ∃ hs, Reads smallYU (.inr hs) := by
  have hl : lexed smallYU = .inr [⟨1, [97], 0, 0⟩, ⟨2, [], 0, 2⟩, ⟨1, [120], 0, 5⟩, ⟨5, [47], 0, 7⟩, ⟨1, [121], 0, 9⟩, ⟨6, [], 0, 11⟩] := by
    refine lexed_toks (by decide) ?_
    unfold toks
    rfl
  refine ⟨smallYG, ?_⟩
  unfold Reads
  rw [hl]
  refine ⟨30, .inr ⟨_, [⟨6, [], 0, 11⟩], ?_, rfl⟩⟩
  simp [smallYG, pRules, pChoice, pAlts, pParts, pPart, pOne, kindT, posT, sgnOf, preK, sufK, joinN, nameT, Nd.pos]
theorem smallY_res {x : Nat ⊕ List UInt8} (h : PrRes (smallYG.map Ru.rr) x) : ∃ s, x = .inr s := by
  obtain ⟨hs, h3⟩ := smallY_fit
  rw [← smallY_tx] at h3
  exact ⟨_, res_is h smallY_ok (by rw [smallY_tx]; decide) h3⟩
theorem smallY_ck {r : Ck} (h : CkRes (smallYG.map Ru.rr) r) : r = .fault 31 5 := by
  rcases h with ⟨c, hc, _⟩ | ⟨_, i, y, _, hi, hn, _⟩ | ⟨_, y, x, l1, l2, _, _, hy, he, hk1, hk, e⟩ | ⟨_, _, _, hk, _⟩
  · obtain ⟨s, e⟩ := smallY_res hc; cases e
  · match i, hi with
    | 0, hi => simp [smallYG, Ru.rr] at hi; subst hi; exact absurd (by simp [fdx, smallYG, Ru.rr]) hn
    | _ + 1, hi => simp [smallYG] at hi
  · simp only [smallYG, List.map_cons, List.map_nil, List.mem_singleton] at hy
    subst hy
    simp only [Ru.rr, Nd.tr, Nd.trs, rfT, rfL] at he
    match l1, he, hk1 with
    | [], he, _ => simp at he; obtain ⟨rfl, _⟩ := he; exact e
    | z :: l1, he, hk1 =>
      simp at he
      obtain ⟨rfl, _⟩ := he
      simp [known, fdx, smallYG, Ru.rr] at hk1
  · have := hk ⟨[97], .mk 7 [] 0 [.mk 5 [120] 0 [] 5, .mk 5 [121] 0 [] 9] 5, 0⟩ (by simp [smallYG, Ru.rr, Nd.tr, Nd.trs])
    simp [rfT, rfL, known, fdx, smallYG, Ru.rr] at this
theorem smallY_bulk : Rr.bulks (smallYG.map Ru.rr) ≤ 1000000000 := by
  simp [smallYG, Ru.rr, Nd.tr, Nd.trs, Rr.bulks, Rr.bulk, Tr.bulk, Tr.bulks]
end Go.Proofs.YtjlcoldnhbkcgaaGreatDoor
namespace Go.Proofs.YtjlcoldnhbkcgaaGreatDoor
open Go.RowKit Go.Sort Go.Maps

def encN (i : Nat) : Value := .int .i64 (i : Int)
/-- These values are those rows. -/
def InR (w : World) (base : Nat) (cells : List Value) (rows : List (List Nat)) : Prop :=
  cells.length = rows.length ∧ ∀ (i : Nat) (c : Value) (us : List Nat), cells[i]? = some c → rows[i]? = some us → w.ownsRow base 3 1 c us.length (us.map encN)
theorem inR_nil (w : World) (base : Nat) : InR w base [] [] := ⟨rfl, fun i c us h => by simp at h⟩
theorem InR.snoc {w : World} {base : Nat} {cells : List Value} {rows : List (List Nat)} {c : Value} {us : List Nat} (h : InR w base cells rows) (hc : w.ownsRow base 3 1 c us.length (us.map encN)) : InR w base (cells ++ [c]) (rows ++ [us]) := by
  refine ⟨by simp [h.1], fun i d vs h1 h2 => ?_⟩
  rcases Nat.lt_or_ge i cells.length with h3 | h3
  · rw [List.getElem?_append_left h3] at h1
    rw [List.getElem?_append_left (by have := h.1; omega)] at h2
    exact h.2 i d vs h1 h2
  · rw [List.getElem?_append_right h3] at h1
    rw [List.getElem?_append_right (by have := h.1; omega)] at h2
    rw [h.1] at h1
    match i - rows.length, h1, h2 with
    | 0, h1, h2 =>
      simp at h1 h2
      subst h1 h2
      exact hc
    | _ + 1, h1, _ => simp at h1
/-- Other kinds of rows stand in other blocks. -/
theorem InR.kept {w w' : World} {base : Nat} {cells : List Value} {rows : List (List Nat)} {row : Option Nat} (h : InR w base cells rows) (hg : w.grownBy w' row) (hrow : ∀ k, row = some k → k < w.heap.size → ∃ cur, w.heap[k]? = some (.cells cur 49 (0, 0))) : InR w' base cells rows := by
  refine ⟨h.1, fun i c us h1 h2 => ?_⟩
  have h3 := h.2 i c us h1 h2
  rcases h3.2 with ⟨rfl, h4⟩ | ⟨g, cap, cur, rfl, hb, hgg, rest⟩
  · exact ⟨h3.1, .inl ⟨rfl, h4⟩⟩
  · have hlt := (Array.getElem?_eq_some_iff.1 hgg).1
    refine h3.kept hg (.inr fun e => ?_)
    have e' : some g = row := e
    obtain ⟨cur', hc⟩ := hrow g e'.symm hlt
    rw [hgg] at hc
    injection hc with hc
    injection hc with _ hc
    exact absurd hc (by decide)
theorem InR.below {w w' : World} {base : Nat} {cells : List Value} {rows : List (List Nat)} (h : InR w base cells rows) (hb : Below w.heap.size w w') : InR w' base cells rows := by
  refine ⟨h.1, fun i c us h1 h2 => ?_⟩
  have h3 := h.2 i c us h1 h2
  rcases h3.2 with ⟨rfl, h4⟩ | ⟨g, cap, cur, rfl, hbb, hgg, rest⟩
  · exact ⟨h3.1, .inl ⟨rfl, h4⟩⟩
  · exact ⟨h3.1, .inr ⟨g, cap, cur, rfl, hbb, (hb.block g (Array.getElem?_eq_some_iff.1 hgg).1).trans hgg, rest⟩⟩
theorem InR.base_le {w : World} {base base' : Nat} {cells : List Value} {rows : List (List Nat)} (h : InR w base cells rows) (hb : base' ≤ base) : InR w base' cells rows :=
  ⟨h.1, fun i c us h1 h2 => World.ownsRow.mono (h.2 i c us h1 h2) hb⟩
theorem rows_take {g : List Rr} {j : Nat} {y : Rr} (h : g[j]? = some y) : (rowsG g).take (j + 1) = (rowsG g).take j ++ [usL g y.body] := by
  rw [List.take_add_one, rowsG_get h]
  rfl
/-- The map holds the set. -/
def SetV (p : Nat → Bool) (S : DataW Unit) : Prop := SetD (fun i => p i = true) S ∧ ∀ i : Nat, S.atKey (.int .i64 (i : Int)) (.lit (.bool false)) = .lit (.bool (p i))
theorem setV_nil : SetV (fun _ => false) (.map []) := ⟨⟨⟨[], rfl, fun e h => (by cases h)⟩, fun i => ⟨fun h => (by cases h), fun h => (by cases h)⟩⟩, fun _ => rfl⟩
theorem setV_put {p : Nat → Bool} {S : DataW Unit} {k : Nat} (h : SetV p S) (hS : IsMap S) : SetV (mark p k) (S.put (.int .i64 (k : Int)) (.lit (.bool true))) := by
  have h1 := setD_put (k := k) h.1 hS
  refine ⟨⟨h1.1, fun i => (h1.2 i).trans ?_⟩, fun i => ?_⟩
  · simp [mark]
  · by_cases hk : i = k
    · subst hk
      rw [atKey_put_same hS (by trivial)]
      simp [mark]
    · rw [atKey_put_other (int_ne hk), h.2 i]
      simp [mark, hk]
end Go.Proofs.YtjlcoldnhbkcgaaGreatDoor
