/- The walk of printer.node: by its kinds. | The walk of printer.node: by its kinds. -/
import Derived.Test.YtjlcoldnhbkcgaaGreatDoorG30
namespace Go.Proofs.YtjlcoldnhbkcgaaGreatDoor
open Go.RowKit Go.Sort

set_option maxRecDepth 100000 in
set_option maxHeartbeats 6400000 in
theorem node_k6 {p : Int} {t : List UInt8} {c : BitVec 256} {a : Option Addr} {n cap : Nat} {q : Bool} (hc : c = 0) (w : World) (_ : t.length ≤ 1000000000) (hmax : n ≤ 140737488355328)
    (HC : ∀ q2, q = !q2 → ∀ w', Below w.heap.size w w' → Calls Tryz.prog 118 #[.slice a n cap, .func (.func 119) #[] #[]] w' (Ans (.bool q2) w')) : Calls Tryz.prog 88 #[.agg (trC 6 t c (.slice a n cap) p).toArray] w (Ans (.bool (okH 6 t c n && q)) w) := by
  have f8 := guard_cl
  have f9 := equal_cl4
  have hm1 := cell_alloc_lt
  have H := Lib.hid HC
  clear HC
  dsimp only [trC]
  have hse := str_empty t
  have hsz : (mkS t).size = t.length := mkS_size t
  have hz := cl_zero c
  have hc0 : (c == 0) = true := by rw [hc]; rfl
  rw [hc0] at hz
  have hw0 : wd c 0 = 0 := by rw [hc]; exact wd_zero' 0
  have hw1 : wd c 1 = 0 := by rw [hc]; exact wd_zero' 1
  have hw2 : wd c 2 = 0 := by rw [hc]; exact wd_zero' 2
  have hw3 : wd c 3 = 0 := by rw [hc]; exact wd_zero' 3
  have HZ := Lib.hid (show c = 0#256 from hc)
  clear hc
  by_cases htx : t = []
  · have se : t.isEmpty = true := by rw [htx]; rfl
    rw [se] at hse
    by_cases hn : 1 < n
    · have e0 : decide ((1 : Int) < n) = true := by simp; omega
      cases q with
      | true =>
        have hv : (okH 6 t c n && true) = true := by simp [okH, HZ.out, htx, hn]
        rw [hv]
        clear hv
        try clear hn
        try clear htx
        try clear se
        have HQ := Lib.hid (H.out false rfl)
        clear H
        go_enter Tryz.func88, Tryz.ntmps88
        repeat (first | go_values | go_skip | go_guarded | go_step | go_upon)
        refine (HQ.out _ (by repeat (first | exact Below.refl _ _ | assumption | refine bal ?_ _ | refine bdr ?_ | refine bdrn ?_ _ | (refine bset ?_ (by first | exact Nat.le_refl _ | (simp; done) | (simp; omega) | omega) _) | refine bstep ?_ (by assumption)))).mono ?_
        rintro e w1 ⟨rfl, hb1⟩
        obtain ⟨hc1, hf1⟩ := bcell hb1
        have hz1 := hb1.size
        try simp at hz1
        dsimp only
        repeat (first | go_values | go_skip | go_guarded | go_step | go_upon)
        go_ret
        exact ⟨rfl, (by repeat (first | exact Below.refl _ _ | assumption | refine bal ?_ _ | refine bdr ?_ | refine bdrn ?_ _ | (refine bset ?_ (by first | exact Nat.le_refl _ | (simp; done) | (simp; omega) | omega) _) | refine bstep ?_ (by assumption)))⟩
      | false =>
        have hv : (okH 6 t c n && false) = false := by simp [okH, HZ.out, htx, hn]
        rw [hv]
        clear hv
        try clear hn
        try clear htx
        try clear se
        have HQ := Lib.hid (H.out true rfl)
        clear H
        go_enter Tryz.func88, Tryz.ntmps88
        repeat (first | go_values | go_skip | go_guarded | go_step | go_upon)
        refine (HQ.out _ (by repeat (first | exact Below.refl _ _ | assumption | refine bal ?_ _ | refine bdr ?_ | refine bdrn ?_ _ | (refine bset ?_ (by first | exact Nat.le_refl _ | (simp; done) | (simp; omega) | omega) _) | refine bstep ?_ (by assumption)))).mono ?_
        rintro e w1 ⟨rfl, hb1⟩
        obtain ⟨hc1, hf1⟩ := bcell hb1
        have hz1 := hb1.size
        try simp at hz1
        dsimp only
        repeat (first | go_values | go_skip | go_guarded | go_step | go_upon)
        go_ret
        exact ⟨rfl, (by repeat (first | exact Below.refl _ _ | assumption | refine bal ?_ _ | refine bdr ?_ | refine bdrn ?_ _ | (refine bset ?_ (by first | exact Nat.le_refl _ | (simp; done) | (simp; omega) | omega) _) | refine bstep ?_ (by assumption)))⟩
    · have e0 : decide ((1 : Int) < n) = false := by simp; omega
      have hv : (okH 6 t c n && q) = false := by simp [okH, HZ.out, htx, hn]
      rw [hv]
      clear hv
      try clear hn
      try clear htx
      try clear se
      go_enter Tryz.func88, Tryz.ntmps88
      repeat (first | go_values | go_skip | go_guarded | go_step | go_upon)
      go_ret
      exact ⟨rfl, (by repeat (first | exact Below.refl _ _ | assumption | refine bal ?_ _ | refine bdr ?_ | refine bdrn ?_ _ | (refine bset ?_ (by first | exact Nat.le_refl _ | (simp; done) | (simp; omega) | omega) _) | refine bstep ?_ (by assumption)))⟩
  · have se : t.isEmpty = false := by simpa using htx
    rw [se] at hse
    have hv : (okH 6 t c n && q) = false := by simp [okH, HZ.out, se]
    rw [hv]
    clear hv
    try clear hn
    try clear htx
    try clear se
    go_enter Tryz.func88, Tryz.ntmps88
    repeat (first | go_values | go_skip | go_guarded | go_step | go_upon)
    go_ret
    exact ⟨rfl, (by repeat (first | exact Below.refl _ _ | assumption | refine bal ?_ _ | refine bdr ?_ | refine bdrn ?_ _ | (refine bset ?_ (by first | exact Nat.le_refl _ | (simp; done) | (simp; omega) | omega) _) | refine bstep ?_ (by assumption)))⟩
set_option maxRecDepth 100000 in
set_option maxHeartbeats 6400000 in
theorem node_k7 {p : Int} {t : List UInt8} {c : BitVec 256} {a : Option Addr} {n cap : Nat} {q : Bool} (hc : c = 0) (w : World) (_ : t.length ≤ 1000000000) (hmax : n ≤ 140737488355328)
    (HC : ∀ q2, q = !q2 → ∀ w', Below w.heap.size w w' → Calls Tryz.prog 118 #[.slice a n cap, .func (.func 119) #[] #[]] w' (Ans (.bool q2) w')) : Calls Tryz.prog 88 #[.agg (trC 7 t c (.slice a n cap) p).toArray] w (Ans (.bool (okH 7 t c n && q)) w) := by
  have f8 := guard_cl
  have f9 := equal_cl4
  have hm1 := cell_alloc_lt
  have H := Lib.hid HC
  clear HC
  dsimp only [trC]
  have hse := str_empty t
  have hsz : (mkS t).size = t.length := mkS_size t
  have hz := cl_zero c
  have hc0 : (c == 0) = true := by rw [hc]; rfl
  rw [hc0] at hz
  have hw0 : wd c 0 = 0 := by rw [hc]; exact wd_zero' 0
  have hw1 : wd c 1 = 0 := by rw [hc]; exact wd_zero' 1
  have hw2 : wd c 2 = 0 := by rw [hc]; exact wd_zero' 2
  have hw3 : wd c 3 = 0 := by rw [hc]; exact wd_zero' 3
  have HZ := Lib.hid (show c = 0#256 from hc)
  clear hc
  by_cases htx : t = []
  · have se : t.isEmpty = true := by rw [htx]; rfl
    rw [se] at hse
    by_cases hn : 1 < n
    · have e0 : decide ((1 : Int) < n) = true := by simp; omega
      cases q with
      | true =>
        have hv : (okH 7 t c n && true) = true := by simp [okH, HZ.out, htx, hn]
        rw [hv]
        clear hv
        try clear hn
        try clear htx
        try clear se
        have HQ := Lib.hid (H.out false rfl)
        clear H
        go_enter Tryz.func88, Tryz.ntmps88
        repeat (first | go_values | go_skip | go_guarded | go_step | go_upon)
        refine (HQ.out _ (by repeat (first | exact Below.refl _ _ | assumption | refine bal ?_ _ | refine bdr ?_ | refine bdrn ?_ _ | (refine bset ?_ (by first | exact Nat.le_refl _ | (simp; done) | (simp; omega) | omega) _) | refine bstep ?_ (by assumption)))).mono ?_
        rintro e w1 ⟨rfl, hb1⟩
        obtain ⟨hc1, hf1⟩ := bcell hb1
        have hz1 := hb1.size
        try simp at hz1
        dsimp only
        repeat (first | go_values | go_skip | go_guarded | go_step | go_upon)
        go_ret
        exact ⟨rfl, (by repeat (first | exact Below.refl _ _ | assumption | refine bal ?_ _ | refine bdr ?_ | refine bdrn ?_ _ | (refine bset ?_ (by first | exact Nat.le_refl _ | (simp; done) | (simp; omega) | omega) _) | refine bstep ?_ (by assumption)))⟩
      | false =>
        have hv : (okH 7 t c n && false) = false := by simp [okH, HZ.out, htx, hn]
        rw [hv]
        clear hv
        try clear hn
        try clear htx
        try clear se
        have HQ := Lib.hid (H.out true rfl)
        clear H
        go_enter Tryz.func88, Tryz.ntmps88
        repeat (first | go_values | go_skip | go_guarded | go_step | go_upon)
        refine (HQ.out _ (by repeat (first | exact Below.refl _ _ | assumption | refine bal ?_ _ | refine bdr ?_ | refine bdrn ?_ _ | (refine bset ?_ (by first | exact Nat.le_refl _ | (simp; done) | (simp; omega) | omega) _) | refine bstep ?_ (by assumption)))).mono ?_
        rintro e w1 ⟨rfl, hb1⟩
        obtain ⟨hc1, hf1⟩ := bcell hb1
        have hz1 := hb1.size
        try simp at hz1
        dsimp only
        repeat (first | go_values | go_skip | go_guarded | go_step | go_upon)
        go_ret
        exact ⟨rfl, (by repeat (first | exact Below.refl _ _ | assumption | refine bal ?_ _ | refine bdr ?_ | refine bdrn ?_ _ | (refine bset ?_ (by first | exact Nat.le_refl _ | (simp; done) | (simp; omega) | omega) _) | refine bstep ?_ (by assumption)))⟩
    · have e0 : decide ((1 : Int) < n) = false := by simp; omega
      have hv : (okH 7 t c n && q) = false := by simp [okH, HZ.out, htx, hn]
      rw [hv]
      clear hv
      try clear hn
      try clear htx
      try clear se
      go_enter Tryz.func88, Tryz.ntmps88
      repeat (first | go_values | go_skip | go_guarded | go_step | go_upon)
      go_ret
      exact ⟨rfl, (by repeat (first | exact Below.refl _ _ | assumption | refine bal ?_ _ | refine bdr ?_ | refine bdrn ?_ _ | (refine bset ?_ (by first | exact Nat.le_refl _ | (simp; done) | (simp; omega) | omega) _) | refine bstep ?_ (by assumption)))⟩
  · have se : t.isEmpty = false := by simpa using htx
    rw [se] at hse
    have hv : (okH 7 t c n && q) = false := by simp [okH, HZ.out, se]
    rw [hv]
    clear hv
    try clear hn
    try clear htx
    try clear se
    go_enter Tryz.func88, Tryz.ntmps88
    repeat (first | go_values | go_skip | go_guarded | go_step | go_upon)
    go_ret
    exact ⟨rfl, (by repeat (first | exact Below.refl _ _ | assumption | refine bal ?_ _ | refine bdr ?_ | refine bdrn ?_ _ | (refine bset ?_ (by first | exact Nat.le_refl _ | (simp; done) | (simp; omega) | omega) _) | refine bstep ?_ (by assumption)))⟩
set_option maxRecDepth 100000 in
set_option maxHeartbeats 6400000 in
theorem node_k8 {p : Int} {t : List UInt8} {c : BitVec 256} {a : Option Addr} {n cap : Nat} {q : Bool} (hc : c = 0) (w : World) (_ : t.length ≤ 1000000000) (_ : n ≤ 140737488355328)
    (HC : ∀ q2, q = !q2 → ∀ w', Below w.heap.size w w' → Calls Tryz.prog 118 #[.slice a n cap, .func (.func 119) #[] #[]] w' (Ans (.bool q2) w')) : Calls Tryz.prog 88 #[.agg (trC 8 t c (.slice a n cap) p).toArray] w (Ans (.bool (okH 8 t c n && q)) w) := by
  have f8 := guard_cl
  have f9 := equal_cl4
  have hm1 := cell_alloc_lt
  have H := Lib.hid HC
  clear HC
  dsimp only [trC]
  have hse := str_empty t
  have hsz : (mkS t).size = t.length := mkS_size t
  have hz := cl_zero c
  have hc0 : (c == 0) = true := by rw [hc]; rfl
  rw [hc0] at hz
  have hw0 : wd c 0 = 0 := by rw [hc]; exact wd_zero' 0
  have hw1 : wd c 1 = 0 := by rw [hc]; exact wd_zero' 1
  have hw2 : wd c 2 = 0 := by rw [hc]; exact wd_zero' 2
  have hw3 : wd c 3 = 0 := by rw [hc]; exact wd_zero' 3
  have HZ := Lib.hid (show c = 0#256 from hc)
  clear hc
  by_cases htx : t = []
  · have se : t.isEmpty = true := by rw [htx]; rfl
    rw [se] at hse
    by_cases hn : n = 1
    · have e0 : ((n : Int) == 1) = true := by rw [hn]; rfl
      cases q with
      | true =>
        have hv : (okH 8 t c n && true) = true := by simp [okH, HZ.out, htx, hn]
        rw [hv]
        clear hv
        try clear hn
        try clear htx
        try clear se
        have HQ := Lib.hid (H.out false rfl)
        clear H
        go_enter Tryz.func88, Tryz.ntmps88
        repeat (first | go_values | go_skip | go_guarded | go_step | go_upon)
        refine (HQ.out _ (by repeat (first | exact Below.refl _ _ | assumption | refine bal ?_ _ | refine bdr ?_ | refine bdrn ?_ _ | (refine bset ?_ (by first | exact Nat.le_refl _ | (simp; done) | (simp; omega) | omega) _) | refine bstep ?_ (by assumption)))).mono ?_
        rintro e w1 ⟨rfl, hb1⟩
        obtain ⟨hc1, hf1⟩ := bcell hb1
        have hz1 := hb1.size
        try simp at hz1
        dsimp only
        repeat (first | go_values | go_skip | go_guarded | go_step | go_upon)
        go_ret
        exact ⟨rfl, (by repeat (first | exact Below.refl _ _ | assumption | refine bal ?_ _ | refine bdr ?_ | refine bdrn ?_ _ | (refine bset ?_ (by first | exact Nat.le_refl _ | (simp; done) | (simp; omega) | omega) _) | refine bstep ?_ (by assumption)))⟩
      | false =>
        have hv : (okH 8 t c n && false) = false := by simp [okH, HZ.out, htx, hn]
        rw [hv]
        clear hv
        try clear hn
        try clear htx
        try clear se
        have HQ := Lib.hid (H.out true rfl)
        clear H
        go_enter Tryz.func88, Tryz.ntmps88
        repeat (first | go_values | go_skip | go_guarded | go_step | go_upon)
        refine (HQ.out _ (by repeat (first | exact Below.refl _ _ | assumption | refine bal ?_ _ | refine bdr ?_ | refine bdrn ?_ _ | (refine bset ?_ (by first | exact Nat.le_refl _ | (simp; done) | (simp; omega) | omega) _) | refine bstep ?_ (by assumption)))).mono ?_
        rintro e w1 ⟨rfl, hb1⟩
        obtain ⟨hc1, hf1⟩ := bcell hb1
        have hz1 := hb1.size
        try simp at hz1
        dsimp only
        repeat (first | go_values | go_skip | go_guarded | go_step | go_upon)
        go_ret
        exact ⟨rfl, (by repeat (first | exact Below.refl _ _ | assumption | refine bal ?_ _ | refine bdr ?_ | refine bdrn ?_ _ | (refine bset ?_ (by first | exact Nat.le_refl _ | (simp; done) | (simp; omega) | omega) _) | refine bstep ?_ (by assumption)))⟩
    · have e0 : ((n : Int) == 1) = false := by simpa using (show ¬ (n : Int) = 1 by omega)
      have hv : (okH 8 t c n && q) = false := by simp [okH, HZ.out, htx, hn]
      rw [hv]
      clear hv
      try clear hn
      try clear htx
      try clear se
      go_enter Tryz.func88, Tryz.ntmps88
      repeat (first | go_values | go_skip | go_guarded | go_step | go_upon)
      go_ret
      exact ⟨rfl, (by repeat (first | exact Below.refl _ _ | assumption | refine bal ?_ _ | refine bdr ?_ | refine bdrn ?_ _ | (refine bset ?_ (by first | exact Nat.le_refl _ | (simp; done) | (simp; omega) | omega) _) | refine bstep ?_ (by assumption)))⟩
  · have se : t.isEmpty = false := by simpa using htx
    rw [se] at hse
    have hv : (okH 8 t c n && q) = false := by simp [okH, HZ.out, se]
    rw [hv]
    clear hv
    try clear hn
    try clear htx
    try clear se
    go_enter Tryz.func88, Tryz.ntmps88
    repeat (first | go_values | go_skip | go_guarded | go_step | go_upon)
    go_ret
    exact ⟨rfl, (by repeat (first | exact Below.refl _ _ | assumption | refine bal ?_ _ | refine bdr ?_ | refine bdrn ?_ _ | (refine bset ?_ (by first | exact Nat.le_refl _ | (simp; done) | (simp; omega) | omega) _) | refine bstep ?_ (by assumption)))⟩
set_option maxRecDepth 100000 in
set_option maxHeartbeats 6400000 in
theorem node_k9 {p : Int} {t : List UInt8} {c : BitVec 256} {a : Option Addr} {n cap : Nat} {q : Bool} (hc : c = 0) (w : World) (_ : t.length ≤ 1000000000) (_ : n ≤ 140737488355328)
    (HC : ∀ q2, q = !q2 → ∀ w', Below w.heap.size w w' → Calls Tryz.prog 118 #[.slice a n cap, .func (.func 119) #[] #[]] w' (Ans (.bool q2) w')) : Calls Tryz.prog 88 #[.agg (trC 9 t c (.slice a n cap) p).toArray] w (Ans (.bool (okH 9 t c n && q)) w) := by
  have f8 := guard_cl
  have f9 := equal_cl4
  have hm1 := cell_alloc_lt
  have H := Lib.hid HC
  clear HC
  dsimp only [trC]
  have hse := str_empty t
  have hsz : (mkS t).size = t.length := mkS_size t
  have hz := cl_zero c
  have hc0 : (c == 0) = true := by rw [hc]; rfl
  rw [hc0] at hz
  have hw0 : wd c 0 = 0 := by rw [hc]; exact wd_zero' 0
  have hw1 : wd c 1 = 0 := by rw [hc]; exact wd_zero' 1
  have hw2 : wd c 2 = 0 := by rw [hc]; exact wd_zero' 2
  have hw3 : wd c 3 = 0 := by rw [hc]; exact wd_zero' 3
  have HZ := Lib.hid (show c = 0#256 from hc)
  clear hc
  by_cases htx : t = []
  · have se : t.isEmpty = true := by rw [htx]; rfl
    rw [se] at hse
    by_cases hn : n = 1
    · have e0 : ((n : Int) == 1) = true := by rw [hn]; rfl
      cases q with
      | true =>
        have hv : (okH 9 t c n && true) = true := by simp [okH, HZ.out, htx, hn]
        rw [hv]
        clear hv
        try clear hn
        try clear htx
        try clear se
        have HQ := Lib.hid (H.out false rfl)
        clear H
        go_enter Tryz.func88, Tryz.ntmps88
        repeat (first | go_values | go_skip | go_guarded | go_step | go_upon)
        refine (HQ.out _ (by repeat (first | exact Below.refl _ _ | assumption | refine bal ?_ _ | refine bdr ?_ | refine bdrn ?_ _ | (refine bset ?_ (by first | exact Nat.le_refl _ | (simp; done) | (simp; omega) | omega) _) | refine bstep ?_ (by assumption)))).mono ?_
        rintro e w1 ⟨rfl, hb1⟩
        obtain ⟨hc1, hf1⟩ := bcell hb1
        have hz1 := hb1.size
        try simp at hz1
        dsimp only
        repeat (first | go_values | go_skip | go_guarded | go_step | go_upon)
        go_ret
        exact ⟨rfl, (by repeat (first | exact Below.refl _ _ | assumption | refine bal ?_ _ | refine bdr ?_ | refine bdrn ?_ _ | (refine bset ?_ (by first | exact Nat.le_refl _ | (simp; done) | (simp; omega) | omega) _) | refine bstep ?_ (by assumption)))⟩
      | false =>
        have hv : (okH 9 t c n && false) = false := by simp [okH, HZ.out, htx, hn]
        rw [hv]
        clear hv
        try clear hn
        try clear htx
        try clear se
        have HQ := Lib.hid (H.out true rfl)
        clear H
        go_enter Tryz.func88, Tryz.ntmps88
        repeat (first | go_values | go_skip | go_guarded | go_step | go_upon)
        refine (HQ.out _ (by repeat (first | exact Below.refl _ _ | assumption | refine bal ?_ _ | refine bdr ?_ | refine bdrn ?_ _ | (refine bset ?_ (by first | exact Nat.le_refl _ | (simp; done) | (simp; omega) | omega) _) | refine bstep ?_ (by assumption)))).mono ?_
        rintro e w1 ⟨rfl, hb1⟩
        obtain ⟨hc1, hf1⟩ := bcell hb1
        have hz1 := hb1.size
        try simp at hz1
        dsimp only
        repeat (first | go_values | go_skip | go_guarded | go_step | go_upon)
        go_ret
        exact ⟨rfl, (by repeat (first | exact Below.refl _ _ | assumption | refine bal ?_ _ | refine bdr ?_ | refine bdrn ?_ _ | (refine bset ?_ (by first | exact Nat.le_refl _ | (simp; done) | (simp; omega) | omega) _) | refine bstep ?_ (by assumption)))⟩
    · have e0 : ((n : Int) == 1) = false := by simpa using (show ¬ (n : Int) = 1 by omega)
      have hv : (okH 9 t c n && q) = false := by simp [okH, HZ.out, htx, hn]
      rw [hv]
      clear hv
      try clear hn
      try clear htx
      try clear se
      go_enter Tryz.func88, Tryz.ntmps88
      repeat (first | go_values | go_skip | go_guarded | go_step | go_upon)
      go_ret
      exact ⟨rfl, (by repeat (first | exact Below.refl _ _ | assumption | refine bal ?_ _ | refine bdr ?_ | refine bdrn ?_ _ | (refine bset ?_ (by first | exact Nat.le_refl _ | (simp; done) | (simp; omega) | omega) _) | refine bstep ?_ (by assumption)))⟩
  · have se : t.isEmpty = false := by simpa using htx
    rw [se] at hse
    have hv : (okH 9 t c n && q) = false := by simp [okH, HZ.out, se]
    rw [hv]
    clear hv
    try clear hn
    try clear htx
    try clear se
    go_enter Tryz.func88, Tryz.ntmps88
    repeat (first | go_values | go_skip | go_guarded | go_step | go_upon)
    go_ret
    exact ⟨rfl, (by repeat (first | exact Below.refl _ _ | assumption | refine bal ?_ _ | refine bdr ?_ | refine bdrn ?_ _ | (refine bset ?_ (by first | exact Nat.le_refl _ | (simp; done) | (simp; omega) | omega) _) | refine bstep ?_ (by assumption)))⟩
end Go.Proofs.YtjlcoldnhbkcgaaGreatDoor
namespace Go.Proofs.YtjlcoldnhbkcgaaGreatDoor
open Go.RowKit Go.Sort

set_option maxRecDepth 100000 in
set_option maxHeartbeats 6400000 in
theorem node_k4 {p : Int} {t : List UInt8} {c : BitVec 256} {a : Option Addr} {n cap : Nat} {q : Bool} (hc : c = 0) (w : World) (_ : t.length ≤ 1000000000) (_ : n ≤ 140737488355328)
    (HC : ∀ q2, q = !q2 → ∀ w', Below w.heap.size w w' → Calls Tryz.prog 118 #[.slice a n cap, .func (.func 119) #[] #[]] w' (Ans (.bool q2) w')) : Calls Tryz.prog 88 #[.agg (trC 4 t c (.slice a n cap) p).toArray] w (Ans (.bool (okH 4 t c n && q)) w) := by
  have f8 := guard_cl
  have f9 := equal_cl4
  have hm1 := cell_alloc_lt
  have H := Lib.hid HC
  clear HC
  dsimp only [trC]
  have hse := str_empty t
  have hsz : (mkS t).size = t.length := mkS_size t
  have hz := cl_zero c
  have hc0 : (c == 0) = true := by rw [hc]; rfl
  rw [hc0] at hz
  have hw0 : wd c 0 = 0 := by rw [hc]; exact wd_zero' 0
  have hw1 : wd c 1 = 0 := by rw [hc]; exact wd_zero' 1
  have hw2 : wd c 2 = 0 := by rw [hc]; exact wd_zero' 2
  have hw3 : wd c 3 = 0 := by rw [hc]; exact wd_zero' 3
  have HZ := Lib.hid (show c = 0#256 from hc)
  clear hc
  by_cases htx : t = []
  · have se : t.isEmpty = true := by rw [htx]; rfl
    rw [se] at hse
    by_cases hn : n = 0
    · have e0 : ((n : Int) == 0) = true := by rw [hn]; rfl
      cases q with
      | true =>
        have hv : (okH 4 t c n && true) = true := by simp [okH, HZ.out, htx, hn]
        rw [hv]
        clear hv
        try clear hn
        try clear htx
        try clear se
        have HQ := Lib.hid (H.out false rfl)
        clear H
        go_enter Tryz.func88, Tryz.ntmps88
        repeat (first | go_values | go_skip | go_guarded | go_step | go_upon)
        refine (HQ.out _ (by repeat (first | exact Below.refl _ _ | assumption | refine bal ?_ _ | refine bdr ?_ | refine bdrn ?_ _ | (refine bset ?_ (by first | exact Nat.le_refl _ | (simp; done) | (simp; omega) | omega) _) | refine bstep ?_ (by assumption)))).mono ?_
        rintro e w1 ⟨rfl, hb1⟩
        obtain ⟨hc1, hf1⟩ := bcell hb1
        have hz1 := hb1.size
        try simp at hz1
        dsimp only
        repeat (first | go_values | go_skip | go_guarded | go_step | go_upon)
        go_ret
        exact ⟨rfl, (by repeat (first | exact Below.refl _ _ | assumption | refine bal ?_ _ | refine bdr ?_ | refine bdrn ?_ _ | (refine bset ?_ (by first | exact Nat.le_refl _ | (simp; done) | (simp; omega) | omega) _) | refine bstep ?_ (by assumption)))⟩
      | false =>
        have hv : (okH 4 t c n && false) = false := by simp [okH, HZ.out, htx, hn]
        rw [hv]
        clear hv
        try clear hn
        try clear htx
        try clear se
        have HQ := Lib.hid (H.out true rfl)
        clear H
        go_enter Tryz.func88, Tryz.ntmps88
        repeat (first | go_values | go_skip | go_guarded | go_step | go_upon)
        refine (HQ.out _ (by repeat (first | exact Below.refl _ _ | assumption | refine bal ?_ _ | refine bdr ?_ | refine bdrn ?_ _ | (refine bset ?_ (by first | exact Nat.le_refl _ | (simp; done) | (simp; omega) | omega) _) | refine bstep ?_ (by assumption)))).mono ?_
        rintro e w1 ⟨rfl, hb1⟩
        obtain ⟨hc1, hf1⟩ := bcell hb1
        have hz1 := hb1.size
        try simp at hz1
        dsimp only
        repeat (first | go_values | go_skip | go_guarded | go_step | go_upon)
        go_ret
        exact ⟨rfl, (by repeat (first | exact Below.refl _ _ | assumption | refine bal ?_ _ | refine bdr ?_ | refine bdrn ?_ _ | (refine bset ?_ (by first | exact Nat.le_refl _ | (simp; done) | (simp; omega) | omega) _) | refine bstep ?_ (by assumption)))⟩
    · have e0 : ((n : Int) == 0) = false := by simpa using hn
      have hv : (okH 4 t c n && q) = false := by simp [okH, HZ.out, htx, hn]
      rw [hv]
      clear hv
      try clear hn
      try clear htx
      try clear se
      go_enter Tryz.func88, Tryz.ntmps88
      repeat (first | go_values | go_skip | go_guarded | go_step | go_upon)
      go_ret
      exact ⟨rfl, (by repeat (first | exact Below.refl _ _ | assumption | refine bal ?_ _ | refine bdr ?_ | refine bdrn ?_ _ | (refine bset ?_ (by first | exact Nat.le_refl _ | (simp; done) | (simp; omega) | omega) _) | refine bstep ?_ (by assumption)))⟩
  · have se : t.isEmpty = false := by simpa using htx
    rw [se] at hse
    have hv : (okH 4 t c n && q) = false := by simp [okH, HZ.out, se]
    rw [hv]
    clear hv
    try clear hn
    try clear htx
    try clear se
    go_enter Tryz.func88, Tryz.ntmps88
    repeat (first | go_values | go_skip | go_guarded | go_step | go_upon)
    go_ret
    exact ⟨rfl, (by repeat (first | exact Below.refl _ _ | assumption | refine bal ?_ _ | refine bdr ?_ | refine bdrn ?_ _ | (refine bset ?_ (by first | exact Nat.le_refl _ | (simp; done) | (simp; omega) | omega) _) | refine bstep ?_ (by assumption)))⟩
set_option maxRecDepth 100000 in
set_option maxHeartbeats 6400000 in
theorem node_k10 {p : Int} {t : List UInt8} {c : BitVec 256} {a : Option Addr} {n cap : Nat} {q : Bool} (hc : c = 0) (w : World) (_ : t.length ≤ 1000000000) (_ : n ≤ 140737488355328)
    (HC : ∀ q2, q = !q2 → ∀ w', Below w.heap.size w w' → Calls Tryz.prog 118 #[.slice a n cap, .func (.func 119) #[] #[]] w' (Ans (.bool q2) w')) : Calls Tryz.prog 88 #[.agg (trC 10 t c (.slice a n cap) p).toArray] w (Ans (.bool (okH 10 t c n && q)) w) := by
  have f8 := guard_cl
  have f9 := equal_cl4
  have hm1 := cell_alloc_lt
  have H := Lib.hid HC
  clear HC
  dsimp only [trC]
  have hse := str_empty t
  have hsz : (mkS t).size = t.length := mkS_size t
  have hz := cl_zero c
  have hc0 : (c == 0) = true := by rw [hc]; rfl
  rw [hc0] at hz
  have hw0 : wd c 0 = 0 := by rw [hc]; exact wd_zero' 0
  have hw1 : wd c 1 = 0 := by rw [hc]; exact wd_zero' 1
  have hw2 : wd c 2 = 0 := by rw [hc]; exact wd_zero' 2
  have hw3 : wd c 3 = 0 := by rw [hc]; exact wd_zero' 3
  have HZ := Lib.hid (show c = 0#256 from hc)
  clear hc
  by_cases htx : t = []
  · have se : t.isEmpty = true := by rw [htx]; rfl
    rw [se] at hse
    by_cases hn : n = 1
    · have e0 : ((n : Int) == 1) = true := by rw [hn]; rfl
      cases q with
      | true =>
        have hv : (okH 10 t c n && true) = true := by simp [okH, HZ.out, htx, hn]
        rw [hv]
        clear hv
        try clear hn
        try clear htx
        try clear se
        have HQ := Lib.hid (H.out false rfl)
        clear H
        go_enter Tryz.func88, Tryz.ntmps88
        repeat (first | go_values | go_skip | go_guarded | go_step | go_upon)
        refine (HQ.out _ (by repeat (first | exact Below.refl _ _ | assumption | refine bal ?_ _ | refine bdr ?_ | refine bdrn ?_ _ | (refine bset ?_ (by first | exact Nat.le_refl _ | (simp; done) | (simp; omega) | omega) _) | refine bstep ?_ (by assumption)))).mono ?_
        rintro e w1 ⟨rfl, hb1⟩
        obtain ⟨hc1, hf1⟩ := bcell hb1
        have hz1 := hb1.size
        try simp at hz1
        dsimp only
        repeat (first | go_values | go_skip | go_guarded | go_step | go_upon)
        go_ret
        exact ⟨rfl, (by repeat (first | exact Below.refl _ _ | assumption | refine bal ?_ _ | refine bdr ?_ | refine bdrn ?_ _ | (refine bset ?_ (by first | exact Nat.le_refl _ | (simp; done) | (simp; omega) | omega) _) | refine bstep ?_ (by assumption)))⟩
      | false =>
        have hv : (okH 10 t c n && false) = false := by simp [okH, HZ.out, htx, hn]
        rw [hv]
        clear hv
        try clear hn
        try clear htx
        try clear se
        have HQ := Lib.hid (H.out true rfl)
        clear H
        go_enter Tryz.func88, Tryz.ntmps88
        repeat (first | go_values | go_skip | go_guarded | go_step | go_upon)
        refine (HQ.out _ (by repeat (first | exact Below.refl _ _ | assumption | refine bal ?_ _ | refine bdr ?_ | refine bdrn ?_ _ | (refine bset ?_ (by first | exact Nat.le_refl _ | (simp; done) | (simp; omega) | omega) _) | refine bstep ?_ (by assumption)))).mono ?_
        rintro e w1 ⟨rfl, hb1⟩
        obtain ⟨hc1, hf1⟩ := bcell hb1
        have hz1 := hb1.size
        try simp at hz1
        dsimp only
        repeat (first | go_values | go_skip | go_guarded | go_step | go_upon)
        go_ret
        exact ⟨rfl, (by repeat (first | exact Below.refl _ _ | assumption | refine bal ?_ _ | refine bdr ?_ | refine bdrn ?_ _ | (refine bset ?_ (by first | exact Nat.le_refl _ | (simp; done) | (simp; omega) | omega) _) | refine bstep ?_ (by assumption)))⟩
    · have e0 : ((n : Int) == 1) = false := by simpa using (show ¬ (n : Int) = 1 by omega)
      have hv : (okH 10 t c n && q) = false := by simp [okH, HZ.out, htx, hn]
      rw [hv]
      clear hv
      try clear hn
      try clear htx
      try clear se
      go_enter Tryz.func88, Tryz.ntmps88
      repeat (first | go_values | go_skip | go_guarded | go_step | go_upon)
      go_ret
      exact ⟨rfl, (by repeat (first | exact Below.refl _ _ | assumption | refine bal ?_ _ | refine bdr ?_ | refine bdrn ?_ _ | (refine bset ?_ (by first | exact Nat.le_refl _ | (simp; done) | (simp; omega) | omega) _) | refine bstep ?_ (by assumption)))⟩
  · have se : t.isEmpty = false := by simpa using htx
    rw [se] at hse
    have hv : (okH 10 t c n && q) = false := by simp [okH, HZ.out, se]
    rw [hv]
    clear hv
    try clear hn
    try clear htx
    try clear se
    go_enter Tryz.func88, Tryz.ntmps88
    repeat (first | go_values | go_skip | go_guarded | go_step | go_upon)
    go_ret
    exact ⟨rfl, (by repeat (first | exact Below.refl _ _ | assumption | refine bal ?_ _ | refine bdr ?_ | refine bdrn ?_ _ | (refine bset ?_ (by first | exact Nat.le_refl _ | (simp; done) | (simp; omega) | omega) _) | refine bstep ?_ (by assumption)))⟩
set_option maxRecDepth 100000 in
set_option maxHeartbeats 6400000 in
theorem node_k11 {p : Int} {t : List UInt8} {c : BitVec 256} {a : Option Addr} {n cap : Nat} {q : Bool} (hc : c = 0) (w : World) (_ : t.length ≤ 1000000000) (_ : n ≤ 140737488355328)
    (HC : ∀ q2, q = !q2 → ∀ w', Below w.heap.size w w' → Calls Tryz.prog 118 #[.slice a n cap, .func (.func 119) #[] #[]] w' (Ans (.bool q2) w')) : Calls Tryz.prog 88 #[.agg (trC 11 t c (.slice a n cap) p).toArray] w (Ans (.bool (okH 11 t c n && q)) w) := by
  have f8 := guard_cl
  have f9 := equal_cl4
  have hm1 := cell_alloc_lt
  have H := Lib.hid HC
  clear HC
  dsimp only [trC]
  have hse := str_empty t
  have hsz : (mkS t).size = t.length := mkS_size t
  have hz := cl_zero c
  have hc0 : (c == 0) = true := by rw [hc]; rfl
  rw [hc0] at hz
  have hw0 : wd c 0 = 0 := by rw [hc]; exact wd_zero' 0
  have hw1 : wd c 1 = 0 := by rw [hc]; exact wd_zero' 1
  have hw2 : wd c 2 = 0 := by rw [hc]; exact wd_zero' 2
  have hw3 : wd c 3 = 0 := by rw [hc]; exact wd_zero' 3
  have HZ := Lib.hid (show c = 0#256 from hc)
  clear hc
  by_cases htx : t = []
  · have se : t.isEmpty = true := by rw [htx]; rfl
    rw [se] at hse
    by_cases hn : n = 1
    · have e0 : ((n : Int) == 1) = true := by rw [hn]; rfl
      cases q with
      | true =>
        have hv : (okH 11 t c n && true) = true := by simp [okH, HZ.out, htx, hn]
        rw [hv]
        clear hv
        try clear hn
        try clear htx
        try clear se
        have HQ := Lib.hid (H.out false rfl)
        clear H
        go_enter Tryz.func88, Tryz.ntmps88
        repeat (first | go_values | go_skip | go_guarded | go_step | go_upon)
        refine (HQ.out _ (by repeat (first | exact Below.refl _ _ | assumption | refine bal ?_ _ | refine bdr ?_ | refine bdrn ?_ _ | (refine bset ?_ (by first | exact Nat.le_refl _ | (simp; done) | (simp; omega) | omega) _) | refine bstep ?_ (by assumption)))).mono ?_
        rintro e w1 ⟨rfl, hb1⟩
        obtain ⟨hc1, hf1⟩ := bcell hb1
        have hz1 := hb1.size
        try simp at hz1
        dsimp only
        repeat (first | go_values | go_skip | go_guarded | go_step | go_upon)
        go_ret
        exact ⟨rfl, (by repeat (first | exact Below.refl _ _ | assumption | refine bal ?_ _ | refine bdr ?_ | refine bdrn ?_ _ | (refine bset ?_ (by first | exact Nat.le_refl _ | (simp; done) | (simp; omega) | omega) _) | refine bstep ?_ (by assumption)))⟩
      | false =>
        have hv : (okH 11 t c n && false) = false := by simp [okH, HZ.out, htx, hn]
        rw [hv]
        clear hv
        try clear hn
        try clear htx
        try clear se
        have HQ := Lib.hid (H.out true rfl)
        clear H
        go_enter Tryz.func88, Tryz.ntmps88
        repeat (first | go_values | go_skip | go_guarded | go_step | go_upon)
        refine (HQ.out _ (by repeat (first | exact Below.refl _ _ | assumption | refine bal ?_ _ | refine bdr ?_ | refine bdrn ?_ _ | (refine bset ?_ (by first | exact Nat.le_refl _ | (simp; done) | (simp; omega) | omega) _) | refine bstep ?_ (by assumption)))).mono ?_
        rintro e w1 ⟨rfl, hb1⟩
        obtain ⟨hc1, hf1⟩ := bcell hb1
        have hz1 := hb1.size
        try simp at hz1
        dsimp only
        repeat (first | go_values | go_skip | go_guarded | go_step | go_upon)
        go_ret
        exact ⟨rfl, (by repeat (first | exact Below.refl _ _ | assumption | refine bal ?_ _ | refine bdr ?_ | refine bdrn ?_ _ | (refine bset ?_ (by first | exact Nat.le_refl _ | (simp; done) | (simp; omega) | omega) _) | refine bstep ?_ (by assumption)))⟩
    · have e0 : ((n : Int) == 1) = false := by simpa using (show ¬ (n : Int) = 1 by omega)
      have hv : (okH 11 t c n && q) = false := by simp [okH, HZ.out, htx, hn]
      rw [hv]
      clear hv
      try clear hn
      try clear htx
      try clear se
      go_enter Tryz.func88, Tryz.ntmps88
      repeat (first | go_values | go_skip | go_guarded | go_step | go_upon)
      go_ret
      exact ⟨rfl, (by repeat (first | exact Below.refl _ _ | assumption | refine bal ?_ _ | refine bdr ?_ | refine bdrn ?_ _ | (refine bset ?_ (by first | exact Nat.le_refl _ | (simp; done) | (simp; omega) | omega) _) | refine bstep ?_ (by assumption)))⟩
  · have se : t.isEmpty = false := by simpa using htx
    rw [se] at hse
    have hv : (okH 11 t c n && q) = false := by simp [okH, HZ.out, se]
    rw [hv]
    clear hv
    try clear hn
    try clear htx
    try clear se
    go_enter Tryz.func88, Tryz.ntmps88
    repeat (first | go_values | go_skip | go_guarded | go_step | go_upon)
    go_ret
    exact ⟨rfl, (by repeat (first | exact Below.refl _ _ | assumption | refine bal ?_ _ | refine bdr ?_ | refine bdrn ?_ _ | (refine bset ?_ (by first | exact Nat.le_refl _ | (simp; done) | (simp; omega) | omega) _) | refine bstep ?_ (by assumption)))⟩
set_option maxRecDepth 100000 in
set_option maxHeartbeats 6400000 in
theorem node_k12 {p : Int} {t : List UInt8} {c : BitVec 256} {a : Option Addr} {n cap : Nat} {q : Bool} (hc : c = 0) (w : World) (_ : t.length ≤ 1000000000) (_ : n ≤ 140737488355328)
    (HC : ∀ q2, q = !q2 → ∀ w', Below w.heap.size w w' → Calls Tryz.prog 118 #[.slice a n cap, .func (.func 119) #[] #[]] w' (Ans (.bool q2) w')) : Calls Tryz.prog 88 #[.agg (trC 12 t c (.slice a n cap) p).toArray] w (Ans (.bool (okH 12 t c n && q)) w) := by
  have f8 := guard_cl
  have f9 := equal_cl4
  have hm1 := cell_alloc_lt
  have H := Lib.hid HC
  clear HC
  dsimp only [trC]
  have hse := str_empty t
  have hsz : (mkS t).size = t.length := mkS_size t
  have hz := cl_zero c
  have hc0 : (c == 0) = true := by rw [hc]; rfl
  rw [hc0] at hz
  have hw0 : wd c 0 = 0 := by rw [hc]; exact wd_zero' 0
  have hw1 : wd c 1 = 0 := by rw [hc]; exact wd_zero' 1
  have hw2 : wd c 2 = 0 := by rw [hc]; exact wd_zero' 2
  have hw3 : wd c 3 = 0 := by rw [hc]; exact wd_zero' 3
  have HZ := Lib.hid (show c = 0#256 from hc)
  clear hc
  by_cases htx : t = []
  · have se : t.isEmpty = true := by rw [htx]; rfl
    rw [se] at hse
    by_cases hn : n = 1
    · have e0 : ((n : Int) == 1) = true := by rw [hn]; rfl
      cases q with
      | true =>
        have hv : (okH 12 t c n && true) = true := by simp [okH, HZ.out, htx, hn]
        rw [hv]
        clear hv
        try clear hn
        try clear htx
        try clear se
        have HQ := Lib.hid (H.out false rfl)
        clear H
        go_enter Tryz.func88, Tryz.ntmps88
        repeat (first | go_values | go_skip | go_guarded | go_step | go_upon)
        refine (HQ.out _ (by repeat (first | exact Below.refl _ _ | assumption | refine bal ?_ _ | refine bdr ?_ | refine bdrn ?_ _ | (refine bset ?_ (by first | exact Nat.le_refl _ | (simp; done) | (simp; omega) | omega) _) | refine bstep ?_ (by assumption)))).mono ?_
        rintro e w1 ⟨rfl, hb1⟩
        obtain ⟨hc1, hf1⟩ := bcell hb1
        have hz1 := hb1.size
        try simp at hz1
        dsimp only
        repeat (first | go_values | go_skip | go_guarded | go_step | go_upon)
        go_ret
        exact ⟨rfl, (by repeat (first | exact Below.refl _ _ | assumption | refine bal ?_ _ | refine bdr ?_ | refine bdrn ?_ _ | (refine bset ?_ (by first | exact Nat.le_refl _ | (simp; done) | (simp; omega) | omega) _) | refine bstep ?_ (by assumption)))⟩
      | false =>
        have hv : (okH 12 t c n && false) = false := by simp [okH, HZ.out, htx, hn]
        rw [hv]
        clear hv
        try clear hn
        try clear htx
        try clear se
        have HQ := Lib.hid (H.out true rfl)
        clear H
        go_enter Tryz.func88, Tryz.ntmps88
        repeat (first | go_values | go_skip | go_guarded | go_step | go_upon)
        refine (HQ.out _ (by repeat (first | exact Below.refl _ _ | assumption | refine bal ?_ _ | refine bdr ?_ | refine bdrn ?_ _ | (refine bset ?_ (by first | exact Nat.le_refl _ | (simp; done) | (simp; omega) | omega) _) | refine bstep ?_ (by assumption)))).mono ?_
        rintro e w1 ⟨rfl, hb1⟩
        obtain ⟨hc1, hf1⟩ := bcell hb1
        have hz1 := hb1.size
        try simp at hz1
        dsimp only
        repeat (first | go_values | go_skip | go_guarded | go_step | go_upon)
        go_ret
        exact ⟨rfl, (by repeat (first | exact Below.refl _ _ | assumption | refine bal ?_ _ | refine bdr ?_ | refine bdrn ?_ _ | (refine bset ?_ (by first | exact Nat.le_refl _ | (simp; done) | (simp; omega) | omega) _) | refine bstep ?_ (by assumption)))⟩
    · have e0 : ((n : Int) == 1) = false := by simpa using (show ¬ (n : Int) = 1 by omega)
      have hv : (okH 12 t c n && q) = false := by simp [okH, HZ.out, htx, hn]
      rw [hv]
      clear hv
      try clear hn
      try clear htx
      try clear se
      go_enter Tryz.func88, Tryz.ntmps88
      repeat (first | go_values | go_skip | go_guarded | go_step | go_upon)
      go_ret
      exact ⟨rfl, (by repeat (first | exact Below.refl _ _ | assumption | refine bal ?_ _ | refine bdr ?_ | refine bdrn ?_ _ | (refine bset ?_ (by first | exact Nat.le_refl _ | (simp; done) | (simp; omega) | omega) _) | refine bstep ?_ (by assumption)))⟩
  · have se : t.isEmpty = false := by simpa using htx
    rw [se] at hse
    have hv : (okH 12 t c n && q) = false := by simp [okH, HZ.out, se]
    rw [hv]
    clear hv
    try clear hn
    try clear htx
    try clear se
    go_enter Tryz.func88, Tryz.ntmps88
    repeat (first | go_values | go_skip | go_guarded | go_step | go_upon)
    go_ret
    exact ⟨rfl, (by repeat (first | exact Below.refl _ _ | assumption | refine bal ?_ _ | refine bdr ?_ | refine bdrn ?_ _ | (refine bset ?_ (by first | exact Nat.le_refl _ | (simp; done) | (simp; omega) | omega) _) | refine bstep ?_ (by assumption)))⟩
end Go.Proofs.YtjlcoldnhbkcgaaGreatDoor
