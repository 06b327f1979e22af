/- Grids (package stamp and its reference): Check, Points, At, for the seat of chapter 8. -/
import Derived.Test.YtidmbjgnkodiiaaWin20
namespace Go.Proofs.Ytidmbjgnkodiiaa.Gr
open Go Go.RowKit
set_option linter.unusedVariables false
set_option linter.unusedSimpArgs false
set_option maxRecDepth 100000

def isB (t : Int) : Bool := decide (-1125899906842624 ≤ t ∧ t ≤ 1125899906842624)
theorem isB_t {t : Int} (h : isB t = true) : -1125899906842624 ≤ t ∧ t ≤ 1125899906842624 := by simpa [isB] using h
theorem isB_f {t : Int} (h : isB t = false) : t < -1125899906842624 ∨ 1125899906842624 < t := by
  have : ¬ (-1125899906842624 ≤ t ∧ t ≤ 1125899906842624) := by simpa [isB] using h
  omega
theorem is_any (t : Int) (w : World) : Calls Try.prog 30 #[.int .i64 t] w fun e w' => e = .returned (.bool (isB t)) ∧ w = w' := by
  by_cases h1 : -1125899906842624 ≤ t
  · by_cases h2 : t ≤ 1125899906842624
    · have h : isB t = true := by simp [isB, h1, h2]
      rw [h]
      go_enter Try.func30, Try.ntmps30
      go_wp2_with fail
      go_ret
      exact ⟨rfl, rfl⟩
    · have h : isB t = false := by simp [isB]; omega
      rw [h]
      go_enter Try.func30, Try.ntmps30
      go_wp2_with fail
      go_ret
      exact ⟨rfl, rfl⟩
  · have h : isB t = false := by simp [isB]; omega
    rw [h]
    go_enter Try.func30, Try.ntmps30
    go_wp2_with fail
    go_ret
    exact ⟨rfl, rfl⟩
theorem gin_any (t : Int) (w : World) : Calls Try.prog 19 #[.int .i64 t] w fun e w' => e = .returned (.bool (isB t)) ∧ w = w' := by
  by_cases h1 : -1125899906842624 ≤ t
  · by_cases h2 : t ≤ 1125899906842624
    · have h : isB t = true := by simp [isB, h1, h2]
      rw [h]
      go_enter Try.func19, Try.ntmps19
      go_wp2_with fail
      go_ret
      exact ⟨rfl, rfl⟩
    · have h : isB t = false := by simp [isB]; omega
      rw [h]
      go_enter Try.func19, Try.ntmps19
      go_wp2_with fail
      go_ret
      exact ⟨rfl, rfl⟩
  · have h : isB t = false := by simp [isB]; omega
    rw [h]
    go_enter Try.func19, Try.ntmps19
    go_wp2_with fail
    go_ret
    exact ⟨rfl, rfl⟩

def i64B (a : Int) : Prop := -9223372036854775808 ≤ a ∧ a ≤ 9223372036854775807
def checkV (s e st : Int) : Int := if isB s = true ∧ isB e = true ∧ s ≤ e ∧ 1 ≤ st ∧ st ≤ 1125899906842624 then (if 4096 ≤ (e - s) / st then 6 else 0) else 1
def pointsV (s e st : Int) : Int := if checkV s e st = 0 then (e - s) / st + 1 else 0
def atV (s e st i : Int) : Int × Bool := if i < 0 ∨ pointsV s e st ≤ i then (0, false) else (s + i * st, true)
theorem quoF {d u : Int} (hu : 1 ≤ u) (hd : 0 ≤ d) : 0 ≤ d / u ∧ d / u ≤ d := ⟨Int.ediv_nonneg hd (by omega), Int.ediv_le_self _ hd⟩
theorem checkV_ok {s e st : Int} (h : checkV s e st = 0) : (-1125899906842624 ≤ s ∧ s ≤ 1125899906842624) ∧ (-1125899906842624 ≤ e) ∧ (e ≤ 1125899906842624) ∧ s ≤ e ∧ 1 ≤ st ∧ st ≤ 1125899906842624 ∧ 0 ≤ (e - s) / st ∧ (e - s) / st < 4096 ∧ (e - s) / st ≤ e - s := by
  unfold checkV at h
  split at h
  · rename_i h1
    obtain ⟨h1, h2, h3, h4, h5⟩ := h1
    have ⟨c1, c2⟩ := isB_t h1
    have ⟨c3, c4⟩ := isB_t h2
    have ⟨q1, q2⟩ := quoF (d := e - s) (u := st) h4 (by omega)
    split at h
    · omega
    · exact ⟨⟨c1, c2⟩, c3, c4, h3, h4, h5, q1, by omega, q2⟩
  · omega
theorem at_fit {s e st i : Int} (h0 : 0 ≤ i) (h : i < pointsV s e st) : (0 ≤ i * st ∧ i * st ≤ 2251799813685248) ∧ (-1125899906842624 ≤ s ∧ s ≤ 1125899906842624) ∧ (1 ≤ st ∧ st ≤ 1125899906842624) ∧ s + i * st ≤ e := by
  unfold pointsV at h
  split at h
  · rename_i h1
    have ⟨⟨b0, b1⟩, b2, b3, b4, b5, b6, b7, b8, b9⟩ := checkV_ok h1
    have h2 : i * st ≤ (e - s) / st * st := Int.mul_le_mul_of_nonneg_right (by omega) (by omega)
    have h3 : (e - s) / st * st ≤ e - s := Int.ediv_mul_le _ (by omega)
    have h4 : 0 ≤ i * st := Int.mul_nonneg h0 (by omega)
    exact ⟨⟨h4, by omega⟩, ⟨b0, b1⟩, ⟨b5, b6⟩, by omega⟩
  · omega
theorem tupB {p : Int × Bool} {a : Int} {b : Bool} (h : p = (a, b)) : Ending.returned (.tuple #[.int .i64 a, .bool b]) = .returned (.tuple #[.int .i64 p.1, .bool p.2]) := by rw [h]

set_option maxHeartbeats 1000000 in
theorem check_any (s e st : Int) (w : World) (hs : i64B s) (he : i64B e) (hst : i64B st) :
    Calls Try.prog 16 #[.agg #[.int .i64 s, .int .i64 e, .int .i64 st]] w fun x w' => x = .returned (.int .i64 (checkV s e st)) ∧ Below w.heap.size w w' := by
  obtain ⟨s1, s2⟩ := hs
  obtain ⟨e1, e2⟩ := he
  obtain ⟨t1, t2⟩ := hst
  have hbad : isB s = false ∨ (isB s = true ∧ isB e = false) ∨ (isB s = true ∧ isB e = true ∧ e < s) ∨ (isB s = true ∧ isB e = true ∧ s ≤ e ∧ st < 1) ∨ (isB s = true ∧ isB e = true ∧ s ≤ e ∧ 1 ≤ st ∧ 1125899906842624 < st) ∨ (isB s = true ∧ isB e = true ∧ s ≤ e ∧ 1 ≤ st ∧ st ≤ 1125899906842624) := by
    cases isB s <;> cases isB e <;> simp <;> omega
  have HB := Lib.hid hbad
  clear hbad
  rcases HB.out with h1 | ⟨h1, h2⟩ | ⟨h1, h2, h3⟩ | ⟨h1, h2, h3, h4⟩ | ⟨h1, h2, h3, h4, h5⟩ | ⟨h1, h2, h3, h4, h5⟩
  · have HQ := Lib.hid (show checkV s e st = 1 by rw [checkV, if_neg (by rw [h1]; simp)])
    go_enter Try.func16, Try.ntmps16
    go_wp2_with (go_at_call 30; refine (is_any _ _).mono ?_; rintro e w' ⟨rfl, rfl⟩)
    go_ret
    exact ⟨ret_i HQ.out.symm, (Below.refl _ _).alloc (Nat.le_refl _) _⟩
  · have HQ := Lib.hid (show checkV s e st = 1 by rw [checkV, if_neg (by rw [h2]; simp)])
    go_enter Try.func16, Try.ntmps16
    go_wp2_with (go_at_call 30; refine (is_any _ _).mono ?_; rintro e w' ⟨rfl, rfl⟩)
    go_ret
    exact ⟨ret_i HQ.out.symm, (Below.refl _ _).alloc (Nat.le_refl _) _⟩
  · have HQ := Lib.hid (show checkV s e st = 1 by rw [checkV, if_neg (by omega)])
    go_enter Try.func16, Try.ntmps16
    go_wp2_with (go_at_call 30; refine (is_any _ _).mono ?_; rintro e w' ⟨rfl, rfl⟩)
    go_ret
    exact ⟨ret_i HQ.out.symm, (Below.refl _ _).alloc (Nat.le_refl _) _⟩
  · have HQ := Lib.hid (show checkV s e st = 1 by rw [checkV, if_neg (by omega)])
    go_enter Try.func16, Try.ntmps16
    go_wp2_with (go_at_call 30; refine (is_any _ _).mono ?_; rintro e w' ⟨rfl, rfl⟩)
    go_ret
    exact ⟨ret_i HQ.out.symm, (Below.refl _ _).alloc (Nat.le_refl _) _⟩
  · have HQ := Lib.hid (show checkV s e st = 1 by rw [checkV, if_neg (by omega)])
    go_enter Try.func16, Try.ntmps16
    go_wp2_with (go_at_call 30; refine (is_any _ _).mono ?_; rintro e w' ⟨rfl, rfl⟩)
    go_ret
    exact ⟨ret_i HQ.out.symm, (Below.refl _ _).alloc (Nat.le_refl _) _⟩
  · have ⟨b1, b2⟩ := isB_t h1
    have ⟨b3, b4⟩ := isB_t h2
    have hq := quoF (d := e - s) (u := st) h4 (by omega)
    obtain ⟨q1, q2⟩ := hq
    have h6 : st ≠ 0 := by omega
    by_cases h7 : 4096 ≤ (e - s) / st
    · have HQ := Lib.hid (show checkV s e st = 6 by rw [checkV, if_pos ⟨h1, h2, h3, h4, h5⟩, if_pos h7])
      go_enter Try.func16, Try.ntmps16
      go_wp2_with (go_at_call 30; refine (is_any _ _).mono ?_; rintro e w' ⟨rfl, rfl⟩)
      go_ret
      exact ⟨ret_i HQ.out.symm, (Below.refl _ _).alloc (Nat.le_refl _) _⟩
    · have HQ := Lib.hid (show checkV s e st = 0 by rw [checkV, if_pos ⟨h1, h2, h3, h4, h5⟩, if_neg h7])
      have h8 : (e - s) / st < 4096 := by omega
      clear h7
      go_enter Try.func16, Try.ntmps16
      go_wp2_with (go_at_call 30; refine (is_any _ _).mono ?_; rintro e w' ⟨rfl, rfl⟩)
      go_ret
      exact ⟨ret_i HQ.out.symm, (Below.refl _ _).alloc (Nat.le_refl _) _⟩

set_option maxHeartbeats 1000000 in
theorem rcheck_any (s e st : Int) (w : World) (hs : i64B s) (he : i64B e) (hst : i64B st) :
    Calls Try.prog 18 #[.agg #[.int .i64 s, .int .i64 e, .int .i64 st]] w fun x w' => x = .returned (.int .i64 (checkV s e st)) ∧ Below w.heap.size w w' := by
  obtain ⟨s1, s2⟩ := hs
  obtain ⟨e1, e2⟩ := he
  obtain ⟨t1, t2⟩ := hst
  have hbad : isB s = false ∨ (isB s = true ∧ isB e = false) ∨ (isB s = true ∧ isB e = true ∧ e < s) ∨ (isB s = true ∧ isB e = true ∧ s ≤ e ∧ st < 1) ∨ (isB s = true ∧ isB e = true ∧ s ≤ e ∧ 1 ≤ st ∧ 1125899906842624 < st) ∨ (isB s = true ∧ isB e = true ∧ s ≤ e ∧ 1 ≤ st ∧ st ≤ 1125899906842624) := by
    cases isB s <;> cases isB e <;> simp <;> omega
  have HB := Lib.hid hbad
  clear hbad
  rcases HB.out with h1 | ⟨h1, h2⟩ | ⟨h1, h2, h3⟩ | ⟨h1, h2, h3, h4⟩ | ⟨h1, h2, h3, h4, h5⟩ | ⟨h1, h2, h3, h4, h5⟩
  · have HQ := Lib.hid (show checkV s e st = 1 by rw [checkV, if_neg (by rw [h1]; simp)])
    go_enter Try.func18, Try.ntmps18
    go_wp2_with (go_at_call 19; refine (gin_any _ _).mono ?_; rintro e w' ⟨rfl, rfl⟩)
    go_ret
    exact ⟨ret_i HQ.out.symm, (Below.refl _ _).alloc (Nat.le_refl _) _⟩
  · have HQ := Lib.hid (show checkV s e st = 1 by rw [checkV, if_neg (by rw [h2]; simp)])
    go_enter Try.func18, Try.ntmps18
    go_wp2_with (go_at_call 19; refine (gin_any _ _).mono ?_; rintro e w' ⟨rfl, rfl⟩)
    go_ret
    exact ⟨ret_i HQ.out.symm, (Below.refl _ _).alloc (Nat.le_refl _) _⟩
  · have HQ := Lib.hid (show checkV s e st = 1 by rw [checkV, if_neg (by omega)])
    go_enter Try.func18, Try.ntmps18
    go_wp2_with (go_at_call 19; refine (gin_any _ _).mono ?_; rintro e w' ⟨rfl, rfl⟩)
    go_ret
    exact ⟨ret_i HQ.out.symm, (Below.refl _ _).alloc (Nat.le_refl _) _⟩
  · have HQ := Lib.hid (show checkV s e st = 1 by rw [checkV, if_neg (by omega)])
    go_enter Try.func18, Try.ntmps18
    go_wp2_with (go_at_call 19; refine (gin_any _ _).mono ?_; rintro e w' ⟨rfl, rfl⟩)
    go_ret
    exact ⟨ret_i HQ.out.symm, (Below.refl _ _).alloc (Nat.le_refl _) _⟩
  · have HQ := Lib.hid (show checkV s e st = 1 by rw [checkV, if_neg (by omega)])
    go_enter Try.func18, Try.ntmps18
    go_wp2_with (go_at_call 19; refine (gin_any _ _).mono ?_; rintro e w' ⟨rfl, rfl⟩)
    go_ret
    exact ⟨ret_i HQ.out.symm, (Below.refl _ _).alloc (Nat.le_refl _) _⟩
  · have ⟨b1, b2⟩ := isB_t h1
    have ⟨b3, b4⟩ := isB_t h2
    have hq := quoF (d := e - s) (u := st) h4 (by omega)
    obtain ⟨q1, q2⟩ := hq
    have h6 : st ≠ 0 := by omega
    by_cases h7 : 4096 ≤ (e - s) / st
    · have HQ := Lib.hid (show checkV s e st = 6 by rw [checkV, if_pos ⟨h1, h2, h3, h4, h5⟩, if_pos h7])
      go_enter Try.func18, Try.ntmps18
      go_wp2_with (go_at_call 19; refine (gin_any _ _).mono ?_; rintro e w' ⟨rfl, rfl⟩)
      go_ret
      exact ⟨ret_i HQ.out.symm, (Below.refl _ _).alloc (Nat.le_refl _) _⟩
    · have HQ := Lib.hid (show checkV s e st = 0 by rw [checkV, if_pos ⟨h1, h2, h3, h4, h5⟩, if_neg h7])
      have h8 : (e - s) / st < 4096 := by omega
      clear h7
      go_enter Try.func18, Try.ntmps18
      go_wp2_with (go_at_call 19; refine (gin_any _ _).mono ?_; rintro e w' ⟨rfl, rfl⟩)
      go_ret
      exact ⟨ret_i HQ.out.symm, (Below.refl _ _).alloc (Nat.le_refl _) _⟩

set_option maxHeartbeats 1000000 in
theorem points_any (s e st : Int) (w : World) (hs : i64B s) (he : i64B e) (hst : i64B st) :
    Calls Try.prog 31 #[.agg #[.int .i64 s, .int .i64 e, .int .i64 st]] w fun x w' => x = .returned (.int .i64 (pointsV s e st)) ∧ Below w.heap.size w w' := by
  have HC := Lib.hid (fun w => check_any s e st w hs he hst)
  clear hs he hst
  by_cases h1 : checkV s e st = 0
  · have ⟨⟨b0, b1⟩, b2, b3, b4, b5, b6, b7, b8, b9⟩ := checkV_ok h1
    have HQ := Lib.hid (show pointsV s e st = (e - s) / st + 1 by rw [pointsV, if_pos h1])
    have h6 : st ≠ 0 := by omega
    have HC2 := Lib.hid (fun w => (HC.out w).mono (fun x w' (h : x = .returned (.int .i64 (checkV s e st)) ∧ Below w.heap.size w w') => (show x = .returned (.int .i64 0) ∧ Below w.heap.size w w' from ⟨by rw [h.1, h1], h.2⟩)))
    clear h1 HC
    go_enter Try.func31, Try.ntmps31
    go_wp2_with fail
    refine (HC2.out _).mono ?_
    rintro e' w1 ⟨rfl, hb⟩
    have p0 : w1.cell? ⟨w.heap.size, 0, none⟩ = some (.int .i64 s) := cell_below hb (by simp) (World.cell?_alloc_at _ _ _ _ rfl)
    have p1 : w1.cell? ⟨w.heap.size, 1, none⟩ = some (.int .i64 e) := cell_below hb (by simp) (World.cell?_alloc_at _ _ _ _ rfl)
    have p2 : w1.cell? ⟨w.heap.size, 2, none⟩ = some (.int .i64 st) := cell_below hb (by simp) (World.cell?_alloc_at _ _ _ _ rfl)
    have HB := Lib.hid (((Below.refl w.heap.size w).alloc (Nat.le_refl _) _).trans (hb.mono (by simp)))
    clear hb
    go_wp2_with fail
    go_ret
    exact ⟨ret_i HQ.out.symm, HB.out⟩
  · have HQ := Lib.hid (show pointsV s e st = 0 by rw [pointsV, if_neg h1])
    obtain ⟨c, hc⟩ : ∃ c, c = checkV s e st := ⟨_, rfl⟩
    rw [← hc] at h1 HC
    have h2 : (c == 0) = false := by simpa using h1
    have h3 : (c != 0) = true := by simpa using h1
    clear h1 hc
    go_enter Try.func31, Try.ntmps31
    go_wp2_with fail
    refine (HC.out _).mono ?_
    rintro e' w1 ⟨rfl, hb⟩
    have HB := Lib.hid (((Below.refl w.heap.size w).alloc (Nat.le_refl _) _).trans (hb.mono (by simp)))
    clear hb
    go_wp2_with fail
    go_ret
    exact ⟨ret_i HQ.out.symm, HB.out⟩

set_option maxHeartbeats 1000000 in
theorem rpoints_any (s e st : Int) (w : World) (hs : i64B s) (he : i64B e) (hst : i64B st) :
    Calls Try.prog 20 #[.agg #[.int .i64 s, .int .i64 e, .int .i64 st]] w fun x w' => x = .returned (.int .i64 (pointsV s e st)) ∧ Below w.heap.size w w' := by
  have HC := Lib.hid (fun w => rcheck_any s e st w hs he hst)
  clear hs he hst
  by_cases h1 : checkV s e st = 0
  · have ⟨⟨b0, b1⟩, b2, b3, b4, b5, b6, b7, b8, b9⟩ := checkV_ok h1
    have HQ := Lib.hid (show pointsV s e st = (e - s) / st + 1 by rw [pointsV, if_pos h1])
    have h6 : st ≠ 0 := by omega
    have HC2 := Lib.hid (fun w => (HC.out w).mono (fun x w' (h : x = .returned (.int .i64 (checkV s e st)) ∧ Below w.heap.size w w') => (show x = .returned (.int .i64 0) ∧ Below w.heap.size w w' from ⟨by rw [h.1, h1], h.2⟩)))
    clear h1 HC
    go_enter Try.func20, Try.ntmps20
    go_wp2_with fail
    refine (HC2.out _).mono ?_
    rintro e' w1 ⟨rfl, hb⟩
    have p0 : w1.cell? ⟨w.heap.size, 0, none⟩ = some (.int .i64 s) := cell_below hb (by simp) (World.cell?_alloc_at _ _ _ _ rfl)
    have p1 : w1.cell? ⟨w.heap.size, 1, none⟩ = some (.int .i64 e) := cell_below hb (by simp) (World.cell?_alloc_at _ _ _ _ rfl)
    have p2 : w1.cell? ⟨w.heap.size, 2, none⟩ = some (.int .i64 st) := cell_below hb (by simp) (World.cell?_alloc_at _ _ _ _ rfl)
    have HB := Lib.hid (((Below.refl w.heap.size w).alloc (Nat.le_refl _) _).trans (hb.mono (by simp)))
    clear hb
    go_wp2_with fail
    go_ret
    exact ⟨ret_i HQ.out.symm, HB.out⟩
  · have HQ := Lib.hid (show pointsV s e st = 0 by rw [pointsV, if_neg h1])
    obtain ⟨c, hc⟩ : ∃ c, c = checkV s e st := ⟨_, rfl⟩
    rw [← hc] at h1 HC
    have h2 : (c == 0) = false := by simpa using h1
    have h3 : (c != 0) = true := by simpa using h1
    clear h1 hc
    go_enter Try.func20, Try.ntmps20
    go_wp2_with fail
    refine (HC.out _).mono ?_
    rintro e' w1 ⟨rfl, hb⟩
    have HB := Lib.hid (((Below.refl w.heap.size w).alloc (Nat.le_refl _) _).trans (hb.mono (by simp)))
    clear hb
    go_wp2_with fail
    go_ret
    exact ⟨ret_i HQ.out.symm, HB.out⟩

set_option maxHeartbeats 1000000 in
theorem at_any (s e st i : Int) (w : World) (hs : i64B s) (he : i64B e) (hst : i64B st) (hi : i64B i) :
    Calls Try.prog 17 #[.agg #[.int .i64 s, .int .i64 e, .int .i64 st], .int .i64 i] w fun x w' => x = .returned (.tuple #[.int .i64 (atV s e st i).1, .bool (atV s e st i).2]) ∧ Below w.heap.size w w' := by
  have HC := Lib.hid (fun w => points_any s e st w hs he hst)
  obtain ⟨i1, i2⟩ := hi
  clear hs he hst
  by_cases h1 : i < 0
  · have HQ := Lib.hid (show atV s e st i = (0, false) by rw [atV, if_pos (.inl h1)])
    go_enter Try.func17, Try.ntmps17
    go_wp2_with fail
    go_ret2
    exact ⟨tupB HQ.out, (Below.refl _ _).alloc (Nat.le_refl _) _⟩
  · have h0 : 0 ≤ i := by omega
    by_cases h2 : pointsV s e st ≤ i
    · have HQ := Lib.hid (show atV s e st i = (0, false) by rw [atV, if_pos (.inr h2)])
      clear h1
      go_enter Try.func17, Try.ntmps17
      go_wp2_with fail
      refine (HC.out _).mono ?_
      rintro e' w1 ⟨rfl, hb⟩
      have HB := Lib.hid (((Below.refl w.heap.size w).alloc (Nat.le_refl _) _).trans (hb.mono (by simp)))
      clear hb
      go_wp2_with fail
      go_ret2
      exact ⟨tupB HQ.out, HB.out⟩
    · have HQ := Lib.hid (show atV s e st i = (s + i * st, true) by rw [atV, if_neg (by omega)])
      have h3 : i < pointsV s e st := by omega
      have ⟨⟨b1, b2⟩, ⟨b3, b4⟩, ⟨b5, b6⟩, b7⟩ := at_fit h0 h3
      clear h1 h2
      go_enter Try.func17, Try.ntmps17
      go_wp2_with fail
      refine (HC.out _).mono ?_
      rintro e' w1 ⟨rfl, hb⟩
      have p0 : w1.cell? ⟨w.heap.size, 0, none⟩ = some (.int .i64 s) := cell_below hb (by simp) (World.cell?_alloc_at _ _ _ _ rfl)
      have p1 : w1.cell? ⟨w.heap.size, 1, none⟩ = some (.int .i64 e) := cell_below hb (by simp) (World.cell?_alloc_at _ _ _ _ rfl)
      have p2 : w1.cell? ⟨w.heap.size, 2, none⟩ = some (.int .i64 st) := cell_below hb (by simp) (World.cell?_alloc_at _ _ _ _ rfl)
      have HB := Lib.hid (((Below.refl w.heap.size w).alloc (Nat.le_refl _) _).trans (hb.mono (by simp)))
      clear hb
      go_wp2_with fail
      go_ret2
      exact ⟨tupB HQ.out, HB.out⟩

set_option maxHeartbeats 1000000 in
theorem rat_any (s e st i : Int) (w : World) (hs : i64B s) (he : i64B e) (hst : i64B st) (hi : i64B i) :
    Calls Try.prog 21 #[.agg #[.int .i64 s, .int .i64 e, .int .i64 st], .int .i64 i] w fun x w' => x = .returned (.tuple #[.int .i64 (atV s e st i).1, .bool (atV s e st i).2]) ∧ Below w.heap.size w w' := by
  have HC := Lib.hid (fun w => rpoints_any s e st w hs he hst)
  obtain ⟨i1, i2⟩ := hi
  clear hs he hst
  by_cases h1 : i < 0
  · have HQ := Lib.hid (show atV s e st i = (0, false) by rw [atV, if_pos (.inl h1)])
    go_enter Try.func21, Try.ntmps21
    go_wp2_with fail
    go_ret2
    exact ⟨tupB HQ.out, (Below.refl _ _).alloc (Nat.le_refl _) _⟩
  · have h0 : 0 ≤ i := by omega
    by_cases h2 : pointsV s e st ≤ i
    · have HQ := Lib.hid (show atV s e st i = (0, false) by rw [atV, if_pos (.inr h2)])
      clear h1
      go_enter Try.func21, Try.ntmps21
      go_wp2_with fail
      refine (HC.out _).mono ?_
      rintro e' w1 ⟨rfl, hb⟩
      have HB := Lib.hid (((Below.refl w.heap.size w).alloc (Nat.le_refl _) _).trans (hb.mono (by simp)))
      clear hb
      go_wp2_with fail
      go_ret2
      exact ⟨tupB HQ.out, HB.out⟩
    · have HQ := Lib.hid (show atV s e st i = (s + i * st, true) by rw [atV, if_neg (by omega)])
      have h3 : i < pointsV s e st := by omega
      have ⟨⟨b1, b2⟩, ⟨b3, b4⟩, ⟨b5, b6⟩, b7⟩ := at_fit h0 h3
      clear h1 h2
      go_enter Try.func21, Try.ntmps21
      go_wp2_with fail
      refine (HC.out _).mono ?_
      rintro e' w1 ⟨rfl, hb⟩
      have p0 : w1.cell? ⟨w.heap.size, 0, none⟩ = some (.int .i64 s) := cell_below hb (by simp) (World.cell?_alloc_at _ _ _ _ rfl)
      have p1 : w1.cell? ⟨w.heap.size, 1, none⟩ = some (.int .i64 e) := cell_below hb (by simp) (World.cell?_alloc_at _ _ _ _ rfl)
      have p2 : w1.cell? ⟨w.heap.size, 2, none⟩ = some (.int .i64 st) := cell_below hb (by simp) (World.cell?_alloc_at _ _ _ _ rfl)
      have HB := Lib.hid (((Below.refl w.heap.size w).alloc (Nat.le_refl _) _).trans (hb.mono (by simp)))
      clear hb
      go_wp2_with fail
      go_ret2
      exact ⟨tupB HQ.out, HB.out⟩
end Go.Proofs.Ytidmbjgnkodiiaa.Gr
