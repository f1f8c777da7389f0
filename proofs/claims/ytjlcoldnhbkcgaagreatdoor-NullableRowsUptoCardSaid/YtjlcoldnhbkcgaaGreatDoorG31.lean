/- The walk of printer.node: by its kinds. -/
import Derived.Test.YtjlcoldnhbkcgaaGreatDoorG30
namespace Go.Proofs.YtjlcoldnhbkcgaaGreatDoor
open Go.RowKit Go.Sort

set_option maxRecDepth 100000 in
set_option maxHeartbeats 6400000 in
theorem node_k3 {p : Int} {t : List UInt8} {c : BitVec 256} {a : Option Addr} {n cap : Nat} {q : Bool} (w : World) (_ : t.length ≤ 1000000000) (_ : n ≤ 140737488355328)
    (HC : ∀ q2, q = !q2 → ∀ w', Below w.heap.size w w' → Calls Tryz.prog 118 #[.slice a n cap, .func (.func 119) #[] #[]] w' (Ans (.bool q2) w')) : Calls Tryz.prog 88 #[.agg (trC 3 t c (.slice a n cap) p).toArray] w (Ans (.bool (okH 3 t c n && q)) w) := by
  have f8 := guard_cl
  have f9 := equal_cl4
  have hm1 := cell_alloc_lt
  have H := Lib.hid HC
  clear HC
  dsimp only [trC]
  have hse := str_empty t
  have hsz : (mkS t).size = t.length := mkS_size t
  by_cases htx : t = []
  · have se : t.isEmpty = true := by rw [htx]; rfl
    rw [se] at hse
    by_cases hn : n = 0
    · have e0 : ((n : Int) == 0) = true := by rw [hn]; rfl
      cases q with
      | true =>
        have hv : (okH 3 t c n && true) = true := by simp [okH, htx, hn]
        rw [hv]
        clear hv
        try clear hn
        try clear htx
        try clear se
        have HQ := Lib.hid (H.out false rfl)
        clear H
        go_enter Tryz.func88, Tryz.ntmps88
        repeat (first | go_values | go_skip | go_guarded | go_step | go_upon)
        refine (HQ.out _ (by repeat (first | exact Below.refl _ _ | assumption | refine bal ?_ _ | refine bdr ?_ | refine bdrn ?_ _ | (refine bset ?_ (by first | exact Nat.le_refl _ | (simp; done) | (simp; omega) | omega) _) | refine bstep ?_ (by assumption)))).mono ?_
        rintro e w1 ⟨rfl, hb1⟩
        obtain ⟨hc1, hf1⟩ := bcell hb1
        have hz1 := hb1.size
        try simp at hz1
        dsimp only
        repeat (first | go_values | go_skip | go_guarded | go_step | go_upon)
        go_ret
        exact ⟨rfl, (by repeat (first | exact Below.refl _ _ | assumption | refine bal ?_ _ | refine bdr ?_ | refine bdrn ?_ _ | (refine bset ?_ (by first | exact Nat.le_refl _ | (simp; done) | (simp; omega) | omega) _) | refine bstep ?_ (by assumption)))⟩
      | false =>
        have hv : (okH 3 t c n && false) = false := by simp [okH, htx, hn]
        rw [hv]
        clear hv
        try clear hn
        try clear htx
        try clear se
        have HQ := Lib.hid (H.out true rfl)
        clear H
        go_enter Tryz.func88, Tryz.ntmps88
        repeat (first | go_values | go_skip | go_guarded | go_step | go_upon)
        refine (HQ.out _ (by repeat (first | exact Below.refl _ _ | assumption | refine bal ?_ _ | refine bdr ?_ | refine bdrn ?_ _ | (refine bset ?_ (by first | exact Nat.le_refl _ | (simp; done) | (simp; omega) | omega) _) | refine bstep ?_ (by assumption)))).mono ?_
        rintro e w1 ⟨rfl, hb1⟩
        obtain ⟨hc1, hf1⟩ := bcell hb1
        have hz1 := hb1.size
        try simp at hz1
        dsimp only
        repeat (first | go_values | go_skip | go_guarded | go_step | go_upon)
        go_ret
        exact ⟨rfl, (by repeat (first | exact Below.refl _ _ | assumption | refine bal ?_ _ | refine bdr ?_ | refine bdrn ?_ _ | (refine bset ?_ (by first | exact Nat.le_refl _ | (simp; done) | (simp; omega) | omega) _) | refine bstep ?_ (by assumption)))⟩
    · have e0 : ((n : Int) == 0) = false := by simpa using hn
      have hv : (okH 3 t c n && q) = false := by simp [okH, htx, hn]
      rw [hv]
      clear hv
      try clear hn
      try clear htx
      try clear se
      go_enter Tryz.func88, Tryz.ntmps88
      repeat (first | go_values | go_skip | go_guarded | go_step | go_upon)
      go_ret
      exact ⟨rfl, (by repeat (first | exact Below.refl _ _ | assumption | refine bal ?_ _ | refine bdr ?_ | refine bdrn ?_ _ | (refine bset ?_ (by first | exact Nat.le_refl _ | (simp; done) | (simp; omega) | omega) _) | refine bstep ?_ (by assumption)))⟩
  · have se : t.isEmpty = false := by simpa using htx
    rw [se] at hse
    have hv : (okH 3 t c n && q) = false := by simp [okH, se]
    rw [hv]
    clear hv
    try clear hn
    try clear htx
    try clear se
    go_enter Tryz.func88, Tryz.ntmps88
    repeat (first | go_values | go_skip | go_guarded | go_step | go_upon)
    go_ret
    exact ⟨rfl, (by repeat (first | exact Below.refl _ _ | assumption | refine bal ?_ _ | refine bdr ?_ | refine bdrn ?_ _ | (refine bset ?_ (by first | exact Nat.le_refl _ | (simp; done) | (simp; omega) | omega) _) | refine bstep ?_ (by assumption)))⟩
set_option maxRecDepth 100000 in
set_option maxHeartbeats 6400000 in
theorem node_k1 {p : Int} {t : List UInt8} {c : BitVec 256} {a : Option Addr} {n cap : Nat} {q : Bool} (hc : c = 0) (w : World) (_ : t.length ≤ 1000000000) (_ : n ≤ 140737488355328)
    (HC : ∀ q2, q = !q2 → ∀ w', Below w.heap.size w w' → Calls Tryz.prog 118 #[.slice a n cap, .func (.func 119) #[] #[]] w' (Ans (.bool q2) w')) : Calls Tryz.prog 88 #[.agg (trC 1 t c (.slice a n cap) p).toArray] w (Ans (.bool (okH 1 t c n && q)) w) := by
  have f8 := guard_cl
  have f9 := equal_cl4
  have hm1 := cell_alloc_lt
  have H := Lib.hid HC
  clear HC
  dsimp only [trC]
  have hse := str_empty t
  have hsz : (mkS t).size = t.length := mkS_size t
  have hz := cl_zero c
  have hc0 : (c == 0) = true := by rw [hc]; rfl
  rw [hc0] at hz
  have hw0 : wd c 0 = 0 := by rw [hc]; exact wd_zero' 0
  have hw1 : wd c 1 = 0 := by rw [hc]; exact wd_zero' 1
  have hw2 : wd c 2 = 0 := by rw [hc]; exact wd_zero' 2
  have hw3 : wd c 3 = 0 := by rw [hc]; exact wd_zero' 3
  have HZ := Lib.hid (show c = 0#256 from hc)
  clear hc
  by_cases htx : t = []
  · have se : t.isEmpty = true := by rw [htx]; rfl
    rw [se] at hse
    by_cases hn : n = 0
    · have e0 : ((n : Int) == 0) = true := by rw [hn]; rfl
      cases q with
      | true =>
        have hv : (okH 1 t c n && true) = true := by simp [okH, HZ.out, htx, hn]
        rw [hv]
        clear hv
        try clear hn
        try clear htx
        try clear se
        have HQ := Lib.hid (H.out false rfl)
        clear H
        go_enter Tryz.func88, Tryz.ntmps88
        repeat (first | go_values | go_skip | go_guarded | go_step | go_upon)
        refine (HQ.out _ (by repeat (first | exact Below.refl _ _ | assumption | refine bal ?_ _ | refine bdr ?_ | refine bdrn ?_ _ | (refine bset ?_ (by first | exact Nat.le_refl _ | (simp; done) | (simp; omega) | omega) _) | refine bstep ?_ (by assumption)))).mono ?_
        rintro e w1 ⟨rfl, hb1⟩
        obtain ⟨hc1, hf1⟩ := bcell hb1
        have hz1 := hb1.size
        try simp at hz1
        dsimp only
        repeat (first | go_values | go_skip | go_guarded | go_step | go_upon)
        go_ret
        exact ⟨rfl, (by repeat (first | exact Below.refl _ _ | assumption | refine bal ?_ _ | refine bdr ?_ | refine bdrn ?_ _ | (refine bset ?_ (by first | exact Nat.le_refl _ | (simp; done) | (simp; omega) | omega) _) | refine bstep ?_ (by assumption)))⟩
      | false =>
        have hv : (okH 1 t c n && false) = false := by simp [okH, HZ.out, htx, hn]
        rw [hv]
        clear hv
        try clear hn
        try clear htx
        try clear se
        have HQ := Lib.hid (H.out true rfl)
        clear H
        go_enter Tryz.func88, Tryz.ntmps88
        repeat (first | go_values | go_skip | go_guarded | go_step | go_upon)
        refine (HQ.out _ (by repeat (first | exact Below.refl _ _ | assumption | refine bal ?_ _ | refine bdr ?_ | refine bdrn ?_ _ | (refine bset ?_ (by first | exact Nat.le_refl _ | (simp; done) | (simp; omega) | omega) _) | refine bstep ?_ (by assumption)))).mono ?_
        rintro e w1 ⟨rfl, hb1⟩
        obtain ⟨hc1, hf1⟩ := bcell hb1
        have hz1 := hb1.size
        try simp at hz1
        dsimp only
        repeat (first | go_values | go_skip | go_guarded | go_step | go_upon)
        go_ret
        exact ⟨rfl, (by repeat (first | exact Below.refl _ _ | assumption | refine bal ?_ _ | refine bdr ?_ | refine bdrn ?_ _ | (refine bset ?_ (by first | exact Nat.le_refl _ | (simp; done) | (simp; omega) | omega) _) | refine bstep ?_ (by assumption)))⟩
    · have e0 : ((n : Int) == 0) = false := by simpa using hn
      have hv : (okH 1 t c n && q) = false := by simp [okH, HZ.out, htx, hn]
      rw [hv]
      clear hv
      try clear hn
      try clear htx
      try clear se
      go_enter Tryz.func88, Tryz.ntmps88
      repeat (first | go_values | go_skip | go_guarded | go_step | go_upon)
      go_ret
      exact ⟨rfl, (by repeat (first | exact Below.refl _ _ | assumption | refine bal ?_ _ | refine bdr ?_ | refine bdrn ?_ _ | (refine bset ?_ (by first | exact Nat.le_refl _ | (simp; done) | (simp; omega) | omega) _) | refine bstep ?_ (by assumption)))⟩
  · have se : t.isEmpty = false := by simpa using htx
    rw [se] at hse
    have hv : (okH 1 t c n && q) = false := by simp [okH, HZ.out, se]
    rw [hv]
    clear hv
    try clear hn
    try clear htx
    try clear se
    go_enter Tryz.func88, Tryz.ntmps88
    repeat (first | go_values | go_skip | go_guarded | go_step | go_upon)
    go_ret
    exact ⟨rfl, (by repeat (first | exact Below.refl _ _ | assumption | refine bal ?_ _ | refine bdr ?_ | refine bdrn ?_ _ | (refine bset ?_ (by first | exact Nat.le_refl _ | (simp; done) | (simp; omega) | omega) _) | refine bstep ?_ (by assumption)))⟩
set_option maxRecDepth 100000 in
set_option maxHeartbeats 6400000 in
theorem node_k2 {p : Int} {t : List UInt8} {c : BitVec 256} {a : Option Addr} {n cap : Nat} {q : Bool} (hc : c = 0) (w : World) (ht : t.length ≤ 1000000000) (_ : n ≤ 140737488355328)
    (HC : ∀ q2, q = !q2 → ∀ w', Below w.heap.size w w' → Calls Tryz.prog 118 #[.slice a n cap, .func (.func 119) #[] #[]] w' (Ans (.bool q2) w')) : Calls Tryz.prog 88 #[.agg (trC 2 t c (.slice a n cap) p).toArray] w (Ans (.bool (okH 2 t c n && q)) w) := by
  have f8 := guard_cl
  have f9 := equal_cl4
  have hm1 := cell_alloc_lt
  have H := Lib.hid HC
  clear HC
  dsimp only [trC]
  have hse := str_empty t
  have hsz : (mkS t).size = t.length := mkS_size t
  have hz := cl_zero c
  have hc0 : (c == 0) = true := by rw [hc]; rfl
  rw [hc0] at hz
  have hw0 : wd c 0 = 0 := by rw [hc]; exact wd_zero' 0
  have hw1 : wd c 1 = 0 := by rw [hc]; exact wd_zero' 1
  have hw2 : wd c 2 = 0 := by rw [hc]; exact wd_zero' 2
  have hw3 : wd c 3 = 0 := by rw [hc]; exact wd_zero' 3
  have HZ := Lib.hid (show c = 0#256 from hc)
  clear hc
  by_cases hlen : t.length ≤ 255
  · have e1 : decide ((t.length : Int) ≤ 255) = true := by simp; omega
    by_cases hn : n = 0
    · have e0 : ((n : Int) == 0) = true := by rw [hn]; rfl
      cases q with
      | true =>
        have hv : (okH 2 t c n && true) = true := by simp [okH, HZ.out, hlen, hn]
        rw [hv]
        clear hv
        try clear hn
        try clear htx
        try clear se
        have HQ := Lib.hid (H.out false rfl)
        clear H
        go_enter Tryz.func88, Tryz.ntmps88
        repeat (first | go_values | go_skip | go_guarded | go_step | go_upon)
        refine (HQ.out _ (by repeat (first | exact Below.refl _ _ | assumption | refine bal ?_ _ | refine bdr ?_ | refine bdrn ?_ _ | (refine bset ?_ (by first | exact Nat.le_refl _ | (simp; done) | (simp; omega) | omega) _) | refine bstep ?_ (by assumption)))).mono ?_
        rintro e w1 ⟨rfl, hb1⟩
        obtain ⟨hc1, hf1⟩ := bcell hb1
        have hz1 := hb1.size
        try simp at hz1
        dsimp only
        repeat (first | go_values | go_skip | go_guarded | go_step | go_upon)
        go_ret
        exact ⟨rfl, (by repeat (first | exact Below.refl _ _ | assumption | refine bal ?_ _ | refine bdr ?_ | refine bdrn ?_ _ | (refine bset ?_ (by first | exact Nat.le_refl _ | (simp; done) | (simp; omega) | omega) _) | refine bstep ?_ (by assumption)))⟩
      | false =>
        have hv : (okH 2 t c n && false) = false := by simp [okH, HZ.out, hlen, hn]
        rw [hv]
        clear hv
        try clear hn
        try clear htx
        try clear se
        have HQ := Lib.hid (H.out true rfl)
        clear H
        go_enter Tryz.func88, Tryz.ntmps88
        repeat (first | go_values | go_skip | go_guarded | go_step | go_upon)
        refine (HQ.out _ (by repeat (first | exact Below.refl _ _ | assumption | refine bal ?_ _ | refine bdr ?_ | refine bdrn ?_ _ | (refine bset ?_ (by first | exact Nat.le_refl _ | (simp; done) | (simp; omega) | omega) _) | refine bstep ?_ (by assumption)))).mono ?_
        rintro e w1 ⟨rfl, hb1⟩
        obtain ⟨hc1, hf1⟩ := bcell hb1
        have hz1 := hb1.size
        try simp at hz1
        dsimp only
        repeat (first | go_values | go_skip | go_guarded | go_step | go_upon)
        go_ret
        exact ⟨rfl, (by repeat (first | exact Below.refl _ _ | assumption | refine bal ?_ _ | refine bdr ?_ | refine bdrn ?_ _ | (refine bset ?_ (by first | exact Nat.le_refl _ | (simp; done) | (simp; omega) | omega) _) | refine bstep ?_ (by assumption)))⟩
    · have e0 : ((n : Int) == 0) = false := by simpa using hn
      have hv : (okH 2 t c n && q) = false := by simp [okH, HZ.out, hlen, hn]
      rw [hv]
      clear hv
      try clear hn
      try clear htx
      try clear se
      go_enter Tryz.func88, Tryz.ntmps88
      repeat (first | go_values | go_skip | go_guarded | go_step | go_upon)
      go_ret
      exact ⟨rfl, (by repeat (first | exact Below.refl _ _ | assumption | refine bal ?_ _ | refine bdr ?_ | refine bdrn ?_ _ | (refine bset ?_ (by first | exact Nat.le_refl _ | (simp; done) | (simp; omega) | omega) _) | refine bstep ?_ (by assumption)))⟩
  · have e1 : decide ((t.length : Int) ≤ 255) = false := by simp; omega
    have hv : (okH 2 t c n && q) = false := by simp [okH, HZ.out, hlen]
    rw [hv]
    clear hv
    try clear hn
    try clear htx
    try clear se
    go_enter Tryz.func88, Tryz.ntmps88
    repeat (first | go_values | go_skip | go_guarded | go_step | go_upon)
    go_ret
    exact ⟨rfl, (by repeat (first | exact Below.refl _ _ | assumption | refine bal ?_ _ | refine bdr ?_ | refine bdrn ?_ _ | (refine bset ?_ (by first | exact Nat.le_refl _ | (simp; done) | (simp; omega) | omega) _) | refine bstep ?_ (by assumption)))⟩
set_option maxRecDepth 100000 in
set_option maxHeartbeats 6400000 in
theorem node_k5 {p : Int} {t : List UInt8} {c : BitVec 256} {a : Option Addr} {n cap : Nat} {q : Bool} (hc : c = 0) (w : World) (ht : t.length ≤ 1000000000) (_ : n ≤ 140737488355328)
    (HC : ∀ q2, q = !q2 → ∀ w', Below w.heap.size w w' → Calls Tryz.prog 118 #[.slice a n cap, .func (.func 119) #[] #[]] w' (Ans (.bool q2) w')) : Calls Tryz.prog 88 #[.agg (trC 5 t c (.slice a n cap) p).toArray] w (Ans (.bool (okH 5 t c n && q)) w) := by
  have f8 := guard_cl
  have f9 := equal_cl4
  have hm1 := cell_alloc_lt
  have H := Lib.hid HC
  clear HC
  dsimp only [trC]
  have hse := str_empty t
  have hsz : (mkS t).size = t.length := mkS_size t
  have hz := cl_zero c
  have hc0 : (c == 0) = true := by rw [hc]; rfl
  rw [hc0] at hz
  have hw0 : wd c 0 = 0 := by rw [hc]; exact wd_zero' 0
  have hw1 : wd c 1 = 0 := by rw [hc]; exact wd_zero' 1
  have hw2 : wd c 2 = 0 := by rw [hc]; exact wd_zero' 2
  have hw3 : wd c 3 = 0 := by rw [hc]; exact wd_zero' 3
  have HZ := Lib.hid (show c = 0#256 from hc)
  clear hc
  have HN := Lib.hid (fun w => lName_any (mkS t) w (by rw [hsz]; omega))
  rw [mkS_bl] at HN
  by_cases hnm : isName t = true
  · rw [hnm] at HN
    by_cases hn : n = 0
    · have e0 : ((n : Int) == 0) = true := by rw [hn]; rfl
      cases q with
      | true =>
        have hv : (okH 5 t c n && true) = true := by simp [okH, HZ.out, hnm, hn]
        rw [hv]
        clear hv
        try clear hn
        try clear htx
        try clear se
        have HQ := Lib.hid (H.out false rfl)
        clear H
        go_enter Tryz.func88, Tryz.ntmps88
        repeat (first | go_values | go_skip | go_guarded | go_step | go_upon)
        refine (HN.out _).mono ?_
        rintro e w5 ⟨rfl, hb5⟩
        obtain ⟨hc5, hf5⟩ := bcell hb5
        have hz5 := hb5.size
        try simp at hz5
        dsimp only
        repeat (first | go_values | go_skip | go_guarded | go_step | go_upon)
        refine (HQ.out _ (by repeat (first | exact Below.refl _ _ | assumption | refine bal ?_ _ | refine bdr ?_ | refine bdrn ?_ _ | (refine bset ?_ (by first | exact Nat.le_refl _ | (simp; done) | (simp; omega) | omega) _) | refine bstep ?_ (by assumption)))).mono ?_
        rintro e w1 ⟨rfl, hb1⟩
        obtain ⟨hc1, hf1⟩ := bcell hb1
        have hz1 := hb1.size
        try simp at hz1
        dsimp only
        repeat (first | go_values | go_skip | go_guarded | go_step | go_upon)
        go_ret
        exact ⟨rfl, (by repeat (first | exact Below.refl _ _ | assumption | refine bal ?_ _ | refine bdr ?_ | refine bdrn ?_ _ | (refine bset ?_ (by first | exact Nat.le_refl _ | (simp; done) | (simp; omega) | omega) _) | refine bstep ?_ (by assumption)))⟩
      | false =>
        have hv : (okH 5 t c n && false) = false := by simp [okH, HZ.out, hnm, hn]
        rw [hv]
        clear hv
        try clear hn
        try clear htx
        try clear se
        have HQ := Lib.hid (H.out true rfl)
        clear H
        go_enter Tryz.func88, Tryz.ntmps88
        repeat (first | go_values | go_skip | go_guarded | go_step | go_upon)
        refine (HN.out _).mono ?_
        rintro e w5 ⟨rfl, hb5⟩
        obtain ⟨hc5, hf5⟩ := bcell hb5
        have hz5 := hb5.size
        try simp at hz5
        dsimp only
        repeat (first | go_values | go_skip | go_guarded | go_step | go_upon)
        refine (HQ.out _ (by repeat (first | exact Below.refl _ _ | assumption | refine bal ?_ _ | refine bdr ?_ | refine bdrn ?_ _ | (refine bset ?_ (by first | exact Nat.le_refl _ | (simp; done) | (simp; omega) | omega) _) | refine bstep ?_ (by assumption)))).mono ?_
        rintro e w1 ⟨rfl, hb1⟩
        obtain ⟨hc1, hf1⟩ := bcell hb1
        have hz1 := hb1.size
        try simp at hz1
        dsimp only
        repeat (first | go_values | go_skip | go_guarded | go_step | go_upon)
        go_ret
        exact ⟨rfl, (by repeat (first | exact Below.refl _ _ | assumption | refine bal ?_ _ | refine bdr ?_ | refine bdrn ?_ _ | (refine bset ?_ (by first | exact Nat.le_refl _ | (simp; done) | (simp; omega) | omega) _) | refine bstep ?_ (by assumption)))⟩
    · have e0 : ((n : Int) == 0) = false := by simpa using hn
      have hv : (okH 5 t c n && q) = false := by simp [okH, HZ.out, hnm, hn]
      rw [hv]
      clear hv
      try clear hn
      try clear htx
      try clear se
      go_enter Tryz.func88, Tryz.ntmps88
      repeat (first | go_values | go_skip | go_guarded | go_step | go_upon)
      refine (HN.out _).mono ?_
      rintro e w5 ⟨rfl, hb5⟩
      obtain ⟨hc5, hf5⟩ := bcell hb5
      have hz5 := hb5.size
      try simp at hz5
      dsimp only
      repeat (first | go_values | go_skip | go_guarded | go_step | go_upon)
      go_ret
      exact ⟨rfl, (by repeat (first | exact Below.refl _ _ | assumption | refine bal ?_ _ | refine bdr ?_ | refine bdrn ?_ _ | (refine bset ?_ (by first | exact Nat.le_refl _ | (simp; done) | (simp; omega) | omega) _) | refine bstep ?_ (by assumption)))⟩
  · have hnf : isName t = false := by simpa using hnm
    rw [hnf] at HN
    have hv : (okH 5 t c n && q) = false := by simp [okH, HZ.out, hnf]
    rw [hv]
    clear hv
    try clear hn
    try clear htx
    try clear se
    go_enter Tryz.func88, Tryz.ntmps88
    repeat (first | go_values | go_skip | go_guarded | go_step | go_upon)
    refine (HN.out _).mono ?_
    rintro e w5 ⟨rfl, hb5⟩
    obtain ⟨hc5, hf5⟩ := bcell hb5
    have hz5 := hb5.size
    try simp at hz5
    dsimp only
    repeat (first | go_values | go_skip | go_guarded | go_step | go_upon)
    go_ret
    exact ⟨rfl, (by repeat (first | exact Below.refl _ _ | assumption | refine bal ?_ _ | refine bdr ?_ | refine bdrn ?_ _ | (refine bset ?_ (by first | exact Nat.le_refl _ | (simp; done) | (simp; omega) | omega) _) | refine bstep ?_ (by assumption)))⟩
set_option maxRecDepth 100000 in
set_option maxHeartbeats 6400000 in
theorem node_ko {k p : Int} {t : List UInt8} {c : BitVec 256} {a : Option Addr} {n cap : Nat} {q : Bool} (hc : c = 0) (h3 : k ≠ 3) (h1 : k ≠ 1) (h2 : k ≠ 2) (h4 : k ≠ 4) (h5 : k ≠ 5) (h6 : k ≠ 6) (h7 : k ≠ 7) (h8 : k ≠ 8) (h9 : k ≠ 9) (h10 : k ≠ 10) (h11 : k ≠ 11) (h12 : k ≠ 12) (w : World) (_ : t.length ≤ 1000000000) (_ : n ≤ 140737488355328)
    (HC : ∀ q2, q = !q2 → ∀ w', Below w.heap.size w w' → Calls Tryz.prog 118 #[.slice a n cap, .func (.func 119) #[] #[]] w' (Ans (.bool q2) w')) : Calls Tryz.prog 88 #[.agg (trC k t c (.slice a n cap) p).toArray] w (Ans (.bool (okH k t c n && q)) w) := by
  have f8 := guard_cl
  have f9 := equal_cl4
  have hm1 := cell_alloc_lt
  have H := Lib.hid HC
  clear HC
  dsimp only [trC]
  have hse := str_empty t
  have hsz : (mkS t).size = t.length := mkS_size t
  have hz := cl_zero c
  have hc0 : (c == 0) = true := by rw [hc]; rfl
  rw [hc0] at hz
  have hw0 : wd c 0 = 0 := by rw [hc]; exact wd_zero' 0
  have hw1 : wd c 1 = 0 := by rw [hc]; exact wd_zero' 1
  have hw2 : wd c 2 = 0 := by rw [hc]; exact wd_zero' 2
  have hw3 : wd c 3 = 0 := by rw [hc]; exact wd_zero' 3
  have HZ := Lib.hid (show c = 0#256 from hc)
  clear hc
  have g3 : (k == 3) = false := by simpa using h3
  have g1 : (k == 1) = false := by simpa using h1
  have g2 : (k == 2) = false := by simpa using h2
  have g4 : (k == 4) = false := by simpa using h4
  have g5 : (k == 5) = false := by simpa using h5
  have g6 : (k == 6) = false := by simpa using h6
  have g7 : (k == 7) = false := by simpa using h7
  have g8 : (k == 8) = false := by simpa using h8
  have g9 : (k == 9) = false := by simpa using h9
  have g10 : (k == 10) = false := by simpa using h10
  have g11 : (k == 11) = false := by simpa using h11
  have g12 : (k == 12) = false := by simpa using h12
  have e3 : (k != 3) = true := by simpa using h3
  have hv : (okH k t c n && q) = false := by simp [okH, HZ.out, h3, h1, h2, h4, h5, h6, h7, h8, h9, h10, h11, h12]
  rw [hv]
  clear hv
  try clear hn
  try clear htx
  try clear se
  go_enter Tryz.func88, Tryz.ntmps88
  repeat (first | go_values | go_skip | go_guarded | go_step | go_upon)
  go_ret
  exact ⟨rfl, (by repeat (first | exact Below.refl _ _ | assumption | refine bal ?_ _ | refine bdr ?_ | refine bdrn ?_ _ | (refine bset ?_ (by first | exact Nat.le_refl _ | (simp; done) | (simp; omega) | omega) _) | refine bstep ?_ (by assumption)))⟩
set_option maxRecDepth 100000 in
set_option maxHeartbeats 6400000 in
theorem node_kc {k p : Int} {t : List UInt8} {c : BitVec 256} {a : Option Addr} {n cap : Nat} {q : Bool} (hc : ¬ c = 0) (h3 : k ≠ 3) (w : World) (_ : t.length ≤ 1000000000) (_ : n ≤ 140737488355328)
    (HC : ∀ q2, q = !q2 → ∀ w', Below w.heap.size w w' → Calls Tryz.prog 118 #[.slice a n cap, .func (.func 119) #[] #[]] w' (Ans (.bool q2) w')) : Calls Tryz.prog 88 #[.agg (trC k t c (.slice a n cap) p).toArray] w (Ans (.bool (okH k t c n && q)) w) := by
  have f8 := guard_cl
  have f9 := equal_cl4
  have hm1 := cell_alloc_lt
  have H := Lib.hid HC
  clear HC
  dsimp only [trC]
  have hse := str_empty t
  have hsz : (mkS t).size = t.length := mkS_size t
  have hz := cl_zero c
  have e3 : (k != 3) = true := by simpa using h3
  have hc0 : (c == 0) = false := by simpa using hc
  rw [hc0] at hz
  have hv : (okH k t c n && q) = false := by simp [okH, h3, (show ¬ c = 0#256 from hc)]
  rw [hv]
  clear hv
  try clear hn
  try clear htx
  try clear se
  go_enter Tryz.func88, Tryz.ntmps88
  repeat (first | go_values | go_skip | go_guarded | go_step | go_upon)
  go_ret
  exact ⟨rfl, (by repeat (first | exact Below.refl _ _ | assumption | refine bal ?_ _ | refine bdr ?_ | refine bdrn ?_ _ | (refine bset ?_ (by first | exact Nat.le_refl _ | (simp; done) | (simp; omega) | omega) _) | refine bstep ?_ (by assumption)))⟩
end Go.Proofs.YtjlcoldnhbkcgaaGreatDoor
