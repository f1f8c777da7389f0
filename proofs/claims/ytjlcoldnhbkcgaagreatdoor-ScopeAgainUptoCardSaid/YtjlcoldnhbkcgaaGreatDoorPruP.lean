/- A grammar of some of the rules, to which the first one leads: plain. -/
import Derived.Test.YtjlcoldnhbkcgaaGreatDoorG45
import Derived.Test.YtjlcoldnhbkcgaaGreatDoorG41
namespace Go.Proofs.YtjlcoldnhbkcgaaGreatDoor
open Go.RowKit

/-- Rules that fit, in a text that is not too long, are read. -/
theorem fit_list {e : Tok} (he : e.kind = 6) : ∀ (g : List Rr), (∀ r ∈ g, OkR r ∧ Fit r.body) → ∀ ts, ts.map core = cos (pcG g) → ∀ acc : List Ru, 0 < acc.length + g.length → acc.length + g.length ≤ 64 →
    ∃ f hs, pRules f (ts ++ [e]) acc = some (.ok hs [e]) := by
  intro g
  induction g with
  | nil =>
    intro _ ts ht acc h0 _
    obtain rfl : ts = [] := List.map_eq_nil_iff.1 ht
    simp only [List.length_nil, Nat.add_zero] at h0
    exact ⟨1, acc, by rw [List.nil_append, pRules, if_pos ⟨by omega, he⟩]⟩
  | cons r g ih =>
    intro hr ts ht acc _ h64
    have hok := hr r List.mem_cons_self
    have hg := fun m hm => hr m (List.mem_cons_of_mem _ hm)
    have ht2 : ts.map core = (1, r.name, 0) :: (2, [], 0) :: (cos (pcT r.body) ++ cos (pcG g)) := by
      rw [ht]
      show cos (.nm r.name :: .sp :: .ar :: .sp :: ((pcT r.body ++ [.nl]) ++ pcG g)) = _
      rw [List.append_assoc]
      show (1, r.name, 0) :: (2, [], 0) :: cos (pcT r.body ++ (.nl :: pcG g)) = _
      rw [cos_app]
      rfl
    obtain ⟨a, t0, rfl, a1, a2, _, ht3⟩ := core_cons ht2
    obtain ⟨b, t3, rfl, b1, _, _, ht4⟩ := core_cons ht3
    obtain ⟨t1, t2, rfl, h1, h2⟩ := core_app ht4
    dsimp only at a1 a2 b1
    obtain ⟨⟨g1, g2⟩, _⟩ := rules_list he g (fun m hm => (hg m hm).1) t2 h2
    have hS : StopT (t2 ++ [e]) := ⟨g2, g1.pre, g1.suf, g1.arrow, g1.one⟩
    obtain ⟨f, m, q1, _⟩ := hok.2 t1 e he h1
    simp only [List.length_cons] at h64
    have ek : kindT (a :: b :: (t1 ++ t2) ++ [e]) = 1 := a1
    have ek2 : kindT (a :: b :: (t1 ++ t2) ++ [e]).tail = 2 := b1
    have et : (a :: b :: (t1 ++ t2) ++ [e]).tail.tail = t1 ++ (t2 ++ [e]) := by simp
    have hcho : ∃ f m, pChoice f 0 (t1 ++ (t2 ++ [e])) = some (.ok m (t2 ++ [e])) := by
      rcases (main_tree hok.1.2).cho 0 t1 (t2 ++ [e]) h1 g1 g2 with ⟨f2, m2, q2, _⟩ | ⟨f2, x, q2⟩
      · exact ⟨f2, m2, q2⟩
      · obtain ⟨T2, _, _, hd | ⟨m3, T3, q3, _⟩⟩ := (swap_all he hS f).choice (core_noEnd h1) rfl (Nat.le_refl 0) q1
        · exact absurd rfl hd.1
        · have p1 := pChoice_mono q2 (Nat.le_max_left f2 f)
          have p2 := pChoice_mono q3 (Nat.le_max_right f2 f)
          rw [p1] at p2
          cases p2
    obtain ⟨f2, m2, q2⟩ := hcho
    obtain ⟨f3, hs, q3⟩ := ih hg t2 h2 (acc ++ [⟨r.name, m2, a.pos⟩]) (by simp; omega) (by simp; omega)
    refine ⟨f2 + f3 + 1, hs, ?_⟩
    rw [pRules, if_neg (by rw [ek]; omega), if_neg (by omega), if_neg (fun h => h ek), if_neg (fun h => h ek2), et, pChoice_mono q2 (by omega)]
    show pRules (f2 + f3) (t2 ++ [e]) (acc ++ [⟨a.text, m2, a.pos⟩]) = _
    rw [a2]
    exact pRules_mono q3 (by omega)
theorem fit_gram {g : List Rr} (h : ∀ r ∈ g, OkR r ∧ Fit r.body) (h0 : 0 < g.length) (h64 : g.length ≤ 64) (h8 : (txG g).length ≤ 8192) : ∃ hs, Reads (txG g) (.inr hs) := by
  rw [← txs_gram] at h8 ⊢
  obtain ⟨r, h1, h2⟩ := good_lexed (good_gram g (fun r hr => (h r hr).1)) h8
  unfold Reads
  rw [h1]
  obtain ⟨f, hs, q⟩ := fit_list (e := ⟨6, [], 0, (txs (pcG g)).length⟩) rfl g h r h2 [] (by simpa using h0) (by simpa using h64)
  exact ⟨hs, f, .inr ⟨_, _, q, rfl⟩⟩
theorem pr_ok {g : List Rr} (h : ∀ r ∈ g, OkR r ∧ Fit r.body) (h0 : 0 < g.length) (h64 : g.length ≤ 64) (h8 : (txG g).length ≤ 8192) : PrRes g (.inr (txG g)) := by
  obtain ⟨hs, hr⟩ := fit_gram h h0 h64 h8
  refine .inr (.inr ⟨?_, h8, .inr ⟨hs, hr, rfl⟩⟩)
  rw [okG, Bool.and_eq_true, Bool.and_eq_true]
  exact ⟨⟨decide_eq_true h0, decide_eq_true h64⟩, List.all_eq_true.2 (fun r hr => ok_okU (h r hr).1)⟩
theorem txG_sub {p g : List Rr} (h : p.Sublist g) : (txG p).length ≤ (txG g).length := by
  induction h with
  | slnil => exact Nat.le_refl _
  | cons a _ ih => rw [txG, List.length_append]; omega
  | cons_cons a _ ih => rw [txG, txG, List.length_append, List.length_append]; omega
def rr0 : Rr := ⟨[], .mk 1 [] 0 [] 0, 0⟩
/-- The rules at those places. -/
def prG (g : List Rr) (us : List Nat) : List Rr := us.map (fun i => g.getD i rr0)
theorem prG_len (g : List Rr) (us : List Nat) : (prG g us).length = us.length := by simp [prG]
theorem prG_get {g : List Rr} {us : List Nat} {j i : Nat} {y : Rr} (h : us[j]? = some i) (hi : g[i]? = some y) : (prG g us)[j]? = some y := by
  rw [prG, List.getElem?_map, h, Option.map_some, List.getD_eq_getElem?_getD, hi]
  rfl
theorem prG_inv {g : List Rr} {us : List Nat} (hu : ∀ i ∈ us, i < g.length) {j : Nat} {y : Rr} (h : (prG g us)[j]? = some y) : ∃ i, us[j]? = some i ∧ g[i]? = some y := by
  rw [prG, List.getElem?_map, Option.map_eq_some_iff] at h
  obtain ⟨i, h1, h2⟩ := h
  have h3 := hu i (List.mem_of_getElem? h1)
  refine ⟨i, h1, ?_⟩
  rw [List.getD_eq_getElem?_getD, List.getElem?_eq_getElem h3] at h2
  rw [List.getElem?_eq_getElem h3, ← h2]
  rfl
theorem prG_mem {g : List Rr} {us : List Nat} (hu : ∀ i ∈ us, i < g.length) {y : Rr} (h : y ∈ prG g us) : y ∈ g := by
  obtain ⟨j, hj⟩ := List.mem_iff_getElem?.1 h
  obtain ⟨i, _, h2⟩ := prG_inv hu hj
  exact List.mem_of_getElem? h2
theorem prG_sub (g : List Rr) : ∀ (us : List Nat) (a : Nat), us.Pairwise (· < ·) → (∀ i ∈ us, a ≤ i ∧ i < g.length) → (prG g us).Sublist (g.drop a) := by
  intro us
  induction us with
  | nil => intro a _ _; exact List.nil_sublist _
  | cons i us ih =>
    intro a hp hb
    rw [List.pairwise_cons] at hp
    obtain ⟨h1, h2⟩ := hb i List.mem_cons_self
    have h3 := ih (i + 1) hp.2 (fun k hk => ⟨hp.1 k hk, (hb k (List.mem_cons_of_mem _ hk)).2⟩)
    have e : g.drop i = g.getD i rr0 :: g.drop (i + 1) := by
      rw [List.drop_eq_getElem_cons h2, List.getD_eq_getElem?_getD, List.getElem?_eq_getElem h2]
      rfl
    have h4 : (prG g (i :: us)).Sublist (g.drop i) := by
      rw [e]
      exact h3.cons_cons _
    obtain ⟨d, rfl⟩ : ∃ d, i = a + d := ⟨i - a, by omega⟩
    rw [← List.drop_drop] at h4
    exact h4.trans (List.drop_sublist _ _)
/-- Rising places. -/
structure Pl (g : List Rr) (us : List Nat) : Prop where
  rise : us.Pairwise (· < ·)
  lt : ∀ i ∈ us, i < g.length
theorem Pl.at_lt {g : List Rr} {us : List Nat} (h : Pl g us) {j k a b : Nat} (hj : us[j]? = some a) (hk : us[k]? = some b) (hjk : j < k) : a < b := by
  obtain ⟨h1, rfl⟩ := List.getElem?_eq_some_iff.1 hj
  obtain ⟨h2, rfl⟩ := List.getElem?_eq_some_iff.1 hk
  exact List.pairwise_iff_getElem.1 h.rise j k h1 h2 hjk
theorem Pl.inj {g : List Rr} {us : List Nat} (h : Pl g us) {j k a : Nat} (hj : us[j]? = some a) (hk : us[k]? = some a) : j = k := by
  rcases Nat.lt_trichotomy j k with h1 | h1 | h1
  · have := h.at_lt hj hk h1; omega
  · exact h1
  · have := h.at_lt hk hj h1; omega
theorem fdx_pr {g : List Rr} {us : List Nat} (ha : Apart g) (h : Pl g us) {n : List UInt8} {j : Nat} : fdx (prG g us) n = some j ↔ ∃ i, us[j]? = some i ∧ fdx g n = some i := by
  rw [fdx_some]
  constructor
  · rintro ⟨⟨y, h1, rfl⟩, _⟩
    obtain ⟨i, h2, h3⟩ := prG_inv h.lt h1
    exact ⟨i, h2, ha i y h3⟩
  · rintro ⟨i, h1, h2⟩
    obtain ⟨⟨y, h3, rfl⟩, _⟩ := fdx_some.1 h2
    refine ⟨⟨y, prG_get h1 h3, rfl⟩, fun k z hk hz e => ?_⟩
    obtain ⟨i', h4, h5⟩ := prG_inv h.lt hz
    have h6 := ha i' z h5
    rw [e, h2] at h6
    injection h6 with h6
    have := h.at_lt h4 h1 hk
    omega
theorem apart_pr {g : List Rr} {us : List Nat} (ha : Apart g) (h : Pl g us) : Apart (prG g us) := by
  intro j y hj
  obtain ⟨i, h1, h2⟩ := prG_inv h.lt hj
  exact (fdx_pr ha h).2 ⟨i, h1, ha i y h2⟩
theorem rfP_pr {g : List Rr} {us : List Nat} (ha : Apart g) (h : Pl g us) {l : List (List UInt8 × Int)} {j : Nat} : RfP (prG g us) l j ↔ ∃ i, us[j]? = some i ∧ RfP g l i := by
  constructor
  · rintro ⟨x, hx, e⟩
    obtain ⟨i, h1, h2⟩ := (fdx_pr ha h).1 e
    exact ⟨i, h1, x, hx, h2⟩
  · rintro ⟨i, h1, x, hx, h2⟩
    exact ⟨x, hx, (fdx_pr ha h).2 ⟨i, h1, h2⟩⟩
/-- Places with all that the rules there use. -/
structure Cls (g : List Rr) (us : List Nat) : Prop extends Pl g us where
  cl : ∀ i us', i ∈ us → (rowsG g)[i]? = some us' → ∀ u ∈ us', u ∈ us
theorem known_pr {g : List Rr} {us : List Nat} (ha : Apart g) (hk : ∀ y ∈ g, (rfT y.body).all (known g) = true) (h : Cls g us) : ∀ y ∈ prG g us, (rfT y.body).all (known (prG g us)) = true := by
  intro y hy
  obtain ⟨j, hj⟩ := List.mem_iff_getElem?.1 hy
  obtain ⟨i, h1, h2⟩ := prG_inv h.lt hj
  rw [List.all_eq_true]
  intro x hx
  have h3 := List.all_eq_true.1 (hk y (List.mem_of_getElem? h2)) x hx
  obtain ⟨k, h4⟩ := Option.isSome_iff_exists.1 h3
  have h5 := h.cl i _ (List.mem_of_getElem? h1) (rowsG_get h2) k (((usL_set g y.body).2 k).2 ⟨x, hx, h4⟩)
  obtain ⟨m, h6⟩ := List.mem_iff_getElem?.1 h5
  rw [known, (fdx_pr ha h.toPl).2 ⟨k, h6, h4⟩]
  rfl
theorem ck_pr {g : List Rr} {us : List Nat} (hc : CkOk g) (h : Cls g us) (h0 : 0 < us.length) : CkOk (prG g us) := by
  obtain ⟨⟨s, h1⟩, h2, h3⟩ := hc
  obtain ⟨_, hok, h8, _⟩ := res_text h1
  have hfit := res_fit h1
  have hall := okG_all hok
  have hs : (prG g us).Sublist g := prG_sub g us 0 h.rise (fun i hi => ⟨Nat.zero_le _, h.lt i hi⟩)
  exact ⟨⟨_, pr_ok (fun r hr => hfit r (prG_mem h.lt hr)) (by rw [prG_len]; exact h0) (Nat.le_trans hs.length_le hall.2.2) (Nat.le_trans (txG_sub hs) h8)⟩, apart_pr h2 h.toPl, known_pr h2 h3 h⟩
/-- To which rules one leads, among those at the places. -/
theorem rch_pr {g : List Rr} {us : List Nat} (ha : Apart g) (h : Cls g us) {a b : Nat} (hab : Rch (rowsG g) a b) {j : Nat} (hj : us[j]? = some a) : ∃ k, us[k]? = some b ∧ Rch (rowsG (prG g us)) j k := by
  induction hab with
  | self => exact ⟨j, hj, .self⟩
  | @step b c us' _ h1 h2 ih =>
    obtain ⟨k, h3, h4⟩ := ih
    have h5 := h.cl b us' (List.mem_of_getElem? h3) h1 c h2
    obtain ⟨m, h6⟩ := List.mem_iff_getElem?.1 h5
    have hb := h.lt b (List.mem_of_getElem? h3)
    have h7 : g[b]? = some g[b] := List.getElem?_eq_getElem hb
    have h8 := rowsG_get h7
    rw [h1] at h8
    injection h8 with h8
    subst h8
    refine ⟨m, h6, .step h4 (rowsG_get (prG_get h3 h7)) (((usL_set _ _).2 m).2 ((rfP_pr ha h.toPl).2 ⟨c, h6, ((usL_set g _).2 c).1 h2⟩))⟩
/-- The rules to which the first one leads. -/
theorem reach_cls {g : List Rr} {us : List Nat} (h0 : 0 < g.length) (h : SetL (Rch (rowsG g) 0) us) : Cls g us ∧ us[0]? = some 0 := by
  have hlt : ∀ i ∈ us, i < g.length := fun i hi => ((h.2 i).1 hi).lt h0
  refine ⟨⟨⟨h.1, hlt⟩, fun i us' hi h1 u hu => (h.2 u).2 (.step ((h.2 i).1 hi) h1 hu)⟩, ?_⟩
  have hm := (h.2 0).2 .self
  match us, h, hm with
  | x :: us, h, hm =>
    rcases List.mem_cons.1 hm with e | e
    · rw [← e]; rfl
    · have := (List.pairwise_cons.1 h.1).1 0 e; omega
theorem rch_all {g : List Rr} {us : List Nat} (ha : Apart g) (h0 : 0 < g.length) (h : SetL (Rch (rowsG g) 0) us) : SetL (Rch (rowsG (prG g us)) 0) (List.range us.length) := by
  obtain ⟨hc, hz⟩ := reach_cls h0 h
  refine ⟨List.pairwise_lt_range, fun j => ?_⟩
  rw [List.mem_range]
  constructor
  · intro hj
    have h1 : us[j]? = some us[j] := List.getElem?_eq_getElem hj
    obtain ⟨k, h2, h3⟩ := rch_pr ha hc ((h.2 us[j]).1 (List.mem_of_getElem? h1)) hz
    obtain rfl := hc.toPl.inj h1 h2
    exact h3
  · intro hj
    have := hj.lt (g := prG g us) (by rw [prG_len]; exact Nat.lt_of_le_of_lt (Nat.zero_le 0) (List.getElem?_eq_some_iff.1 hz).1)
    rwa [prG_len] at this
end Go.Proofs.YtjlcoldnhbkcgaaGreatDoor
