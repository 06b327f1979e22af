/- Numbers of package stamp and of its reference: is, Plus, Minus, Align, Within. -/
import Derived.Test.YtkflhfdpdgnbfaaDoorBase
import Derived.Test.YtkflhfdpdgnbfaaDoorSt1
namespace Go.Proofs.YtkflhfdpdgnbfaaDoor
open Go Go.RowKit
set_option linter.unusedVariables false
set_option linter.unusedSimpArgs false
set_option maxRecDepth 100000

def isB (t : Int) : Bool := decide (-1125899906842624 ≤ t ∧ t ≤ 1125899906842624)
theorem isB_t {t : Int} (h : isB t = true) : -1125899906842624 ≤ t ∧ t ≤ 1125899906842624 := by simpa [isB] using h
theorem isB_f {t : Int} (h : isB t = false) : t < -1125899906842624 ∨ 1125899906842624 < t := by
  have : ¬ (-1125899906842624 ≤ t ∧ t ≤ 1125899906842624) := by simpa [isB] using h
  omega
theorem is_any (t : Int) (w : World) : Calls Tryd.prog 32 #[.int .i64 t] w fun e w' => e = .returned (.bool (isB t)) ∧ w = w' := by
  by_cases h1 : -1125899906842624 ≤ t
  · by_cases h2 : t ≤ 1125899906842624
    · have h : isB t = true := by simp [isB, h1, h2]
      rw [h]
      go_enter Tryd.func32, Tryd.ntmps32
      go_wp2_with fail
      go_ret
      exact ⟨rfl, rfl⟩
    · have h : isB t = false := by simp [isB]; omega
      rw [h]
      go_enter Tryd.func32, Tryd.ntmps32
      go_wp2_with fail
      go_ret
      exact ⟨rfl, rfl⟩
  · have h : isB t = false := by simp [isB]; omega
    rw [h]
    go_enter Tryd.func32, Tryd.ntmps32
    go_wp2_with fail
    go_ret
    exact ⟨rfl, rfl⟩
theorem in_any (t : Int) (w : World) : Calls Tryd.prog 33 #[.int .i64 t] w fun e w' => e = .returned (.bool (isB t)) ∧ w = w' := by
  by_cases h1 : -1125899906842624 ≤ t
  · by_cases h2 : t ≤ 1125899906842624
    · have h : isB t = true := by simp [isB, h1, h2]
      rw [h]
      go_enter Tryd.func33, Tryd.ntmps33
      go_wp2_with fail
      go_ret
      exact ⟨rfl, rfl⟩
    · have h : isB t = false := by simp [isB]; omega
      rw [h]
      go_enter Tryd.func33, Tryd.ntmps33
      go_wp2_with fail
      go_ret
      exact ⟨rfl, rfl⟩
  · have h : isB t = false := by simp [isB]; omega
    rw [h]
    go_enter Tryd.func33, Tryd.ntmps33
    go_wp2_with fail
    go_ret
    exact ⟨rfl, rfl⟩

def sumV (a b c : Int) : Int × Int := if isB a = true ∧ isB b = true ∧ isB c = true then (c, 0) else (0, 1)
theorem tup {p : Int × Int} {a b : Int} (h : p = (a, b)) : Ending.returned (.tuple #[.int .i64 a, .int .i64 b]) = .returned (.tuple #[.int .i64 p.1, .int .i64 p.2]) := by rw [h]

theorem plus_any (a b : Int) (w : World) (ha : -9223372036854775808 ≤ a ∧ a ≤ 9223372036854775807) (hb : -9223372036854775808 ≤ b ∧ b ≤ 9223372036854775807) :
    Calls Tryd.prog 20 #[.int .i64 a, .int .i64 b] w fun e w' => e = .returned (.tuple #[.int .i64 (sumV a b (a + b)).1, .int .i64 (sumV a b (a + b)).2]) ∧ w = w' := by
  obtain ⟨a1, a2⟩ := ha
  obtain ⟨b1, b2⟩ := hb
  cases h1 : isB a
  · have HQ := Lib.hid (show sumV a b (a + b) = (0, 1) by rw [sumV, if_neg (by rw [h1]; simp)])
    go_enter Tryd.func20, Tryd.ntmps20
    go_wp2_with (go_at_call 32; refine (is_any _ _).mono ?_; rintro e w' ⟨rfl, rfl⟩)
    go_ret2
    exact ⟨tup HQ.out, rfl⟩
  · have ⟨c1, c2⟩ := isB_t h1
    cases h2 : isB b
    · have HQ := Lib.hid (show sumV a b (a + b) = (0, 1) by rw [sumV, if_neg (by rw [h2]; simp)])
      go_enter Tryd.func20, Tryd.ntmps20
      go_wp2_with (go_at_call 32; refine (is_any _ _).mono ?_; rintro e w' ⟨rfl, rfl⟩)
      go_ret2
      exact ⟨tup HQ.out, rfl⟩
    · have ⟨c3, c4⟩ := isB_t h2
      cases h3 : isB (a + b)
      · have HQ := Lib.hid (show sumV a b (a + b) = (0, 1) by rw [sumV, if_neg (by rw [h3]; simp)])
        go_enter Tryd.func20, Tryd.ntmps20
        go_wp2_with (go_at_call 32; refine (is_any _ _).mono ?_; rintro e w' ⟨rfl, rfl⟩)
        go_ret2
        exact ⟨tup HQ.out, rfl⟩
      · have HQ := Lib.hid (show sumV a b (a + b) = (a + b, 0) by rw [sumV, if_pos ⟨h1, h2, h3⟩])
        go_enter Tryd.func20, Tryd.ntmps20
        go_wp2_with (go_at_call 32; refine (is_any _ _).mono ?_; rintro e w' ⟨rfl, rfl⟩)
        go_ret2
        exact ⟨tup HQ.out, rfl⟩

theorem minus_any (a b : Int) (w : World) (ha : -9223372036854775808 ≤ a ∧ a ≤ 9223372036854775807) (hb : -9223372036854775808 ≤ b ∧ b ≤ 9223372036854775807) :
    Calls Tryd.prog 21 #[.int .i64 a, .int .i64 b] w fun e w' => e = .returned (.tuple #[.int .i64 (sumV a b (a - b)).1, .int .i64 (sumV a b (a - b)).2]) ∧ w = w' := by
  obtain ⟨a1, a2⟩ := ha
  obtain ⟨b1, b2⟩ := hb
  cases h1 : isB a
  · have HQ := Lib.hid (show sumV a b (a - b) = (0, 1) by rw [sumV, if_neg (by rw [h1]; simp)])
    go_enter Tryd.func21, Tryd.ntmps21
    go_wp2_with (go_at_call 32; refine (is_any _ _).mono ?_; rintro e w' ⟨rfl, rfl⟩)
    go_ret2
    exact ⟨tup HQ.out, rfl⟩
  · have ⟨c1, c2⟩ := isB_t h1
    cases h2 : isB b
    · have HQ := Lib.hid (show sumV a b (a - b) = (0, 1) by rw [sumV, if_neg (by rw [h2]; simp)])
      go_enter Tryd.func21, Tryd.ntmps21
      go_wp2_with (go_at_call 32; refine (is_any _ _).mono ?_; rintro e w' ⟨rfl, rfl⟩)
      go_ret2
      exact ⟨tup HQ.out, rfl⟩
    · have ⟨c3, c4⟩ := isB_t h2
      cases h3 : isB (a - b)
      · have HQ := Lib.hid (show sumV a b (a - b) = (0, 1) by rw [sumV, if_neg (by rw [h3]; simp)])
        go_enter Tryd.func21, Tryd.ntmps21
        go_wp2_with (go_at_call 32; refine (is_any _ _).mono ?_; rintro e w' ⟨rfl, rfl⟩)
        go_ret2
        exact ⟨tup HQ.out, rfl⟩
      · have HQ := Lib.hid (show sumV a b (a - b) = (a - b, 0) by rw [sumV, if_pos ⟨h1, h2, h3⟩])
        go_enter Tryd.func21, Tryd.ntmps21
        go_wp2_with (go_at_call 32; refine (is_any _ _).mono ?_; rintro e w' ⟨rfl, rfl⟩)
        go_ret2
        exact ⟨tup HQ.out, rfl⟩

theorem rplus_any (a b : Int) (w : World) (ha : -9223372036854775808 ≤ a ∧ a ≤ 9223372036854775807) (hb : -9223372036854775808 ≤ b ∧ b ≤ 9223372036854775807) :
    Calls Tryd.prog 22 #[.int .i64 a, .int .i64 b] w fun e w' => e = .returned (.tuple #[.int .i64 (sumV a b (a + b)).1, .int .i64 (sumV a b (a + b)).2]) ∧ w = w' := by
  obtain ⟨a1, a2⟩ := ha
  obtain ⟨b1, b2⟩ := hb
  cases h1 : isB a
  · have HQ := Lib.hid (show sumV a b (a + b) = (0, 1) by rw [sumV, if_neg (by rw [h1]; simp)])
    go_enter Tryd.func22, Tryd.ntmps22
    go_wp2_with (go_at_call 33; refine (in_any _ _).mono ?_; rintro e w' ⟨rfl, rfl⟩)
    go_ret2
    exact ⟨tup HQ.out, rfl⟩
  · have ⟨c1, c2⟩ := isB_t h1
    cases h2 : isB b
    · have HQ := Lib.hid (show sumV a b (a + b) = (0, 1) by rw [sumV, if_neg (by rw [h2]; simp)])
      go_enter Tryd.func22, Tryd.ntmps22
      go_wp2_with (go_at_call 33; refine (in_any _ _).mono ?_; rintro e w' ⟨rfl, rfl⟩)
      go_ret2
      exact ⟨tup HQ.out, rfl⟩
    · have ⟨c3, c4⟩ := isB_t h2
      cases h3 : isB (a + b)
      · have HQ := Lib.hid (show sumV a b (a + b) = (0, 1) by rw [sumV, if_neg (by rw [h3]; simp)])
        go_enter Tryd.func22, Tryd.ntmps22
        go_wp2_with (go_at_call 33; refine (in_any _ _).mono ?_; rintro e w' ⟨rfl, rfl⟩)
        go_ret2
        exact ⟨tup HQ.out, rfl⟩
      · have HQ := Lib.hid (show sumV a b (a + b) = (a + b, 0) by rw [sumV, if_pos ⟨h1, h2, h3⟩])
        go_enter Tryd.func22, Tryd.ntmps22
        go_wp2_with (go_at_call 33; refine (in_any _ _).mono ?_; rintro e w' ⟨rfl, rfl⟩)
        go_ret2
        exact ⟨tup HQ.out, rfl⟩

theorem rminus_any (a b : Int) (w : World) (ha : -9223372036854775808 ≤ a ∧ a ≤ 9223372036854775807) (hb : -9223372036854775808 ≤ b ∧ b ≤ 9223372036854775807) :
    Calls Tryd.prog 23 #[.int .i64 a, .int .i64 b] w fun e w' => e = .returned (.tuple #[.int .i64 (sumV a b (a - b)).1, .int .i64 (sumV a b (a - b)).2]) ∧ w = w' := by
  obtain ⟨a1, a2⟩ := ha
  obtain ⟨b1, b2⟩ := hb
  cases h1 : isB a
  · have HQ := Lib.hid (show sumV a b (a - b) = (0, 1) by rw [sumV, if_neg (by rw [h1]; simp)])
    go_enter Tryd.func23, Tryd.ntmps23
    go_wp2_with (go_at_call 33; refine (in_any _ _).mono ?_; rintro e w' ⟨rfl, rfl⟩)
    go_ret2
    exact ⟨tup HQ.out, rfl⟩
  · have ⟨c1, c2⟩ := isB_t h1
    cases h2 : isB b
    · have HQ := Lib.hid (show sumV a b (a - b) = (0, 1) by rw [sumV, if_neg (by rw [h2]; simp)])
      go_enter Tryd.func23, Tryd.ntmps23
      go_wp2_with (go_at_call 33; refine (in_any _ _).mono ?_; rintro e w' ⟨rfl, rfl⟩)
      go_ret2
      exact ⟨tup HQ.out, rfl⟩
    · have ⟨c3, c4⟩ := isB_t h2
      cases h3 : isB (a - b)
      · have HQ := Lib.hid (show sumV a b (a - b) = (0, 1) by rw [sumV, if_neg (by rw [h3]; simp)])
        go_enter Tryd.func23, Tryd.ntmps23
        go_wp2_with (go_at_call 33; refine (in_any _ _).mono ?_; rintro e w' ⟨rfl, rfl⟩)
        go_ret2
        exact ⟨tup HQ.out, rfl⟩
      · have HQ := Lib.hid (show sumV a b (a - b) = (a - b, 0) by rw [sumV, if_pos ⟨h1, h2, h3⟩])
        go_enter Tryd.func23, Tryd.ntmps23
        go_wp2_with (go_at_call 33; refine (in_any _ _).mono ?_; rintro e w' ⟨rfl, rfl⟩)
        go_ret2
        exact ⟨tup HQ.out, rfl⟩

/-- A difference, cut. -/
def cutV (a b : Int) : Int := if a - b < -1125899906842624 then -1125899906842624 else if 1125899906842624 < a - b then 1125899906842624 else a - b
theorem apart_any (a b : Int) (w : World) (ha : -9223372036854775808 ≤ a ∧ a ≤ 9223372036854775807) (hb : -9223372036854775808 ≤ b ∧ b ≤ 9223372036854775807) :
    Calls Tryd.prog 35 #[.int .i64 a, .int .i64 b] w fun e w' => e = .returned (.int .i64 (cutV a b)) ∧ w = w' := by
  obtain ⟨a1, a2⟩ := ha
  obtain ⟨b1, b2⟩ := hb
  go_enter Tryd.func35, Tryd.ntmps35
  go_wp2_with fail
  all_goals
    go_ret
    exact ⟨ret_i (by unfold cutV; (repeat' split) <;> omega), rfl⟩
theorem rcut_any (a b : Int) (w : World) (ha : -9223372036854775808 ≤ a ∧ a ≤ 9223372036854775807) (hb : -9223372036854775808 ≤ b ∧ b ≤ 9223372036854775807) :
    Calls Tryd.prog 36 #[.int .i64 a, .int .i64 b] w fun e w' => e = .returned (.int .i64 (cutV a b)) ∧ w = w' := by
  obtain ⟨a1, a2⟩ := ha
  obtain ⟨b1, b2⟩ := hb
  go_enter Tryd.func36, Tryd.ntmps36
  go_wp2_with fail
  all_goals
    go_ret
    exact ⟨ret_i (by unfold cutV; (repeat' split) <;> omega), rfl⟩
theorem within_any (a b c : Int) (w : World) (ha : -9223372036854775808 ≤ a ∧ a ≤ 9223372036854775807) (hb : -9223372036854775808 ≤ b ∧ b ≤ 9223372036854775807) (hc : -9223372036854775808 ≤ c ∧ c ≤ 9223372036854775807) :
    Calls Tryd.prog 25 #[.int .i64 a, .int .i64 b, .int .i64 c] w fun e w' => e = .returned (.tuple #[.int .i64 (cutV a b), .int .i64 (cutV a c)]) ∧ w = w' := by
  have HA := Lib.hid ha
  have HB := Lib.hid hb
  have HC := Lib.hid hc
  clear ha hb hc
  go_enter Tryd.func25, Tryd.ntmps25
  go_wp2_with fail
  refine (apart_any a b _ HA.out HB.out).mono ?_
  rintro e w' ⟨rfl, rfl⟩
  go_wp2_with fail
  refine (apart_any a c _ HA.out HC.out).mono ?_
  rintro e w' ⟨rfl, rfl⟩
  go_wp2_with fail
  go_ret2
  exact ⟨rfl, rfl⟩
theorem rwithin_any (a b c : Int) (w : World) (ha : -9223372036854775808 ≤ a ∧ a ≤ 9223372036854775807) (hb : -9223372036854775808 ≤ b ∧ b ≤ 9223372036854775807) (hc : -9223372036854775808 ≤ c ∧ c ≤ 9223372036854775807) :
    Calls Tryd.prog 26 #[.int .i64 a, .int .i64 b, .int .i64 c] w fun e w' => e = .returned (.tuple #[.int .i64 (cutV a b), .int .i64 (cutV a c)]) ∧ w = w' := by
  have HA := Lib.hid ha
  have HB := Lib.hid hb
  have HC := Lib.hid hc
  clear ha hb hc
  go_enter Tryd.func26, Tryd.ntmps26
  go_wp2_with fail
  refine (rcut_any a b _ HA.out HB.out).mono ?_
  rintro e w' ⟨rfl, rfl⟩
  go_wp2_with fail
  refine (rcut_any a c _ HA.out HC.out).mono ?_
  rintro e w' ⟨rfl, rfl⟩
  go_wp2_with fail
  go_ret2
  exact ⟨rfl, rfl⟩

/-- What a step leaves of a time, and the time less it. -/
def alignV (t step : Int) : Int × Int := if isB t = true ∧ 1 ≤ step ∧ step ≤ 1125899906842624 ∧ -1125899906842624 ≤ t - t % step then (t - t % step, 0) else (0, 1)
theorem tmod_mod (t s : Int) : (t.tmod s + s) % s = t % s := by
  rw [Int.add_emod_right]
  have h := Int.mul_tdiv_add_tmod t s
  have : t.tmod s = t - s * t.tdiv s := by omega
  rw [this, Int.sub_mul_emod_self_left]
theorem tmod_mod2 (t s : Int) : t.tmod s % s = t % s := by
  have := tmod_mod t s
  rwa [Int.add_emod_right] at this
theorem tmod_bd (t s : Int) (hs : 1 ≤ s) : -s < t.tmod s ∧ t.tmod s < s := by
  have h1 := Int.tmod_lt_of_pos t (show 0 < s by omega)
  have h2 := Int.lt_tmod_of_pos t (show 0 < s by omega)
  exact ⟨h2, h1⟩
theorem align_any (t s : Int) (w : World) (ht : -9223372036854775808 ≤ t ∧ t ≤ 9223372036854775807) (hs : -9223372036854775808 ≤ s ∧ s ≤ 9223372036854775807) :
    Calls Tryd.prog 19 #[.int .i64 t, .int .i64 s] w fun e w' => e = .returned (.tuple #[.int .i64 (alignV t s).1, .int .i64 (alignV t s).2]) ∧ w = w' := by
  obtain ⟨t1, t2⟩ := ht
  obtain ⟨s1, s2⟩ := hs
  cases h1 : isB t
  · have HQ := Lib.hid (show alignV t s = (0, 1) by rw [alignV, if_neg (by rw [h1]; simp)])
    go_enter Tryd.func19, Tryd.ntmps19
    go_wp2_with (go_at_call 32; refine (is_any _ _).mono ?_; rintro e w' ⟨rfl, rfl⟩)
    go_ret2
    exact ⟨tup HQ.out, rfl⟩
  · have ⟨c1, c2⟩ := isB_t h1
    by_cases h2 : s < 1
    · have HQ := Lib.hid (show alignV t s = (0, 1) by rw [alignV, if_neg (by omega)])
      go_enter Tryd.func19, Tryd.ntmps19
      go_wp2_with (go_at_call 32; refine (is_any _ _).mono ?_; rintro e w' ⟨rfl, rfl⟩)
      go_ret2
      exact ⟨tup HQ.out, rfl⟩
    · by_cases h3 : 1125899906842624 < s
      · have HQ := Lib.hid (show alignV t s = (0, 1) by rw [alignV, if_neg (by omega)])
        have h4 : 1 ≤ s := by omega
        go_enter Tryd.func19, Tryd.ntmps19
        go_wp2_with (go_at_call 32; refine (is_any _ _).mono ?_; rintro e w' ⟨rfl, rfl⟩)
        go_ret2
        exact ⟨tup HQ.out, rfl⟩
      · have h4 : 1 ≤ s := by omega
        have h5 : s ≤ 1125899906842624 := by omega
        have h6 : s ≠ 0 := by omega
        have HM := Lib.hid (tmod_mod2 t s)
        have ⟨m1, m2⟩ := tmod_bd t s h4
        have e1 := Int.emod_nonneg (t.tmod s) (b := s) (by omega)
        have e2 := Int.emod_lt_of_pos (t.tmod s) (b := s) (by omega)
        have HH := Lib.hid h1
        clear h2 h3
        by_cases h7 : t - t.tmod s % s < -1125899906842624
        · have HQ := Lib.hid (show alignV t s = (0, 1) by rw [alignV, if_neg (by rw [← HM.out]; omega)])
          go_enter Tryd.func19, Tryd.ntmps19
          go_wp2_with (go_at_call 32; refine (is_any _ _).mono ?_; rintro e w' ⟨rfl, rfl⟩)
          go_ret2
          exact ⟨tup HQ.out, rfl⟩
        · have HQ := Lib.hid (show alignV t s = (t - t.tmod s % s, 0) by rw [alignV, if_pos (by rw [← HM.out]; exact ⟨HH.out, h4, h5, by omega⟩), ← HM.out])
          have h8 : -1125899906842624 ≤ t - t.tmod s % s := by omega
          clear h7
          go_enter Tryd.func19, Tryd.ntmps19
          go_wp2_with (go_at_call 32; refine (is_any _ _).mono ?_; rintro e w' ⟨rfl, rfl⟩)
          go_ret2
          exact ⟨tup HQ.out, rfl⟩
/-- The greatest multiple at most t, as the reference reckons it. -/
theorem down_eq (t s : Int) (hs : 1 ≤ s) : (if t < t.tdiv s * s then (t.tdiv s - 1) * s else t.tdiv s * s) = t - t % s := by
  have h := Int.mul_tdiv_add_tmod t s
  have hm := tmod_mod t s
  have ⟨m1, m2⟩ := tmod_bd t s hs
  rw [Int.mul_comm] at h
  by_cases hp : 0 ≤ t
  · have h0 : 0 ≤ t.tmod s := Int.tmod_nonneg _ hp
    have : t % s = t.tmod s := by
      rw [← hm, Int.add_emod_right, Int.emod_eq_of_lt h0 m2]
    rw [if_neg (by omega)]
    omega
  · have h0 : t.tmod s ≤ 0 := by
      have := Int.tmod_nonneg (a := -t) s (by omega)
      rw [Int.neg_tmod] at this
      omega
    by_cases hz : t.tmod s = 0
    · have : t % s = 0 := by rw [← hm, hz, Int.zero_add, Int.emod_self]
      rw [if_neg (by omega)]
      omega
    · have : t % s = t.tmod s + s := by
        rw [← hm, Int.emod_eq_of_lt (by omega) (by omega)]
      rw [if_pos (by omega), Int.sub_mul]
      omega
theorem tdiv_bd (t s : Int) (hs : 1 ≤ s) : -(t.natAbs : Int) ≤ t.tdiv s ∧ t.tdiv s ≤ t.natAbs ∧ -(t.natAbs : Int) ≤ t.tdiv s * s ∧ t.tdiv s * s ≤ t.natAbs := by
  have h := Int.mul_tdiv_add_tmod t s
  have ⟨m1, m2⟩ := tmod_bd t s hs
  rw [Int.mul_comm] at h
  have hn := Int.natAbs_tdiv_le_natAbs t s
  by_cases hp : 0 ≤ t
  · have h0 : 0 ≤ t.tmod s := Int.tmod_nonneg _ hp
    have h1 : 0 ≤ t.tdiv s := Int.tdiv_nonneg hp (by omega)
    have h2 : 0 ≤ t.tdiv s * s := Int.mul_nonneg h1 (by omega)
    omega
  · have h0 : t.tmod s ≤ 0 := by
      have := Int.tmod_nonneg (a := -t) s (by omega)
      rw [Int.neg_tmod] at this
      omega
    have h1 : 0 ≤ (-t).tdiv s := Int.tdiv_nonneg (by omega) (by omega)
    rw [Int.neg_tdiv] at h1
    have h2 : 0 ≤ (-t.tdiv s) * s := Int.mul_nonneg h1 (by omega)
    rw [Int.neg_mul] at h2
    omega
theorem down_any (t s : Int) (w : World) (ht : isB t = true) (h4 : 1 ≤ s) (h5 : s ≤ 1125899906842624) :
    Calls Tryd.prog 34 #[.int .i64 t, .int .i64 s] w fun e w' => e = .returned (.int .i64 (t - t % s)) ∧ w = w' := by
  have ⟨c1, c2⟩ := isB_t ht
  have HD := Lib.hid (down_eq t s h4)
  have hb := tdiv_bd t s h4
  have hb1 : -1125899906842624 ≤ t.tdiv s := by omega
  have hb2 : t.tdiv s ≤ 1125899906842624 := by omega
  have hb3 : -1125899906842624 ≤ t.tdiv s * s := by omega
  have hb4 : t.tdiv s * s ≤ 1125899906842624 := by omega
  have hb5 : (t.tdiv s - 1) * s = t.tdiv s * s - s := by rw [Int.sub_mul, Int.one_mul]
  have hb6 : -2251799813685248 ≤ (t.tdiv s - 1) * s := by omega
  have hb7 : (t.tdiv s - 1) * s ≤ 1125899906842624 := by omega
  have h6 : s ≠ 0 := by omega
  clear hb hb5 ht
  by_cases h7 : t < t.tdiv s * s
  · have HQ := Lib.hid (show (t.tdiv s - 1) * s = t - t % s by rw [← HD.out, if_pos h7])
    go_enter Tryd.func34, Tryd.ntmps34
    go_wp2_with fail
    go_ret
    exact ⟨ret_i HQ.out, rfl⟩
  · have HQ := Lib.hid (show t.tdiv s * s = t - t % s by rw [← HD.out, if_neg h7])
    have h8 : t.tdiv s * s ≤ t := by omega
    clear h7
    go_enter Tryd.func34, Tryd.ntmps34
    go_wp2_with fail
    go_ret
    exact ⟨ret_i HQ.out, rfl⟩
theorem ralign_any (t s : Int) (w : World) (ht : -9223372036854775808 ≤ t ∧ t ≤ 9223372036854775807) (hs : -9223372036854775808 ≤ s ∧ s ≤ 9223372036854775807) :
    Calls Tryd.prog 24 #[.int .i64 t, .int .i64 s] w fun e w' => e = .returned (.tuple #[.int .i64 (alignV t s).1, .int .i64 (alignV t s).2]) ∧ w = w' := by
  obtain ⟨t1, t2⟩ := ht
  obtain ⟨s1, s2⟩ := hs
  cases h1 : isB t
  · have HQ := Lib.hid (show alignV t s = (0, 1) by rw [alignV, if_neg (by rw [h1]; simp)])
    go_enter Tryd.func24, Tryd.ntmps24
    go_wp2_with (go_at_call 33; refine (in_any _ _).mono ?_; rintro e w' ⟨rfl, rfl⟩)
    go_ret2
    exact ⟨tup HQ.out, rfl⟩
  · have ⟨c1, c2⟩ := isB_t h1
    by_cases h2 : s < 1
    · have HQ := Lib.hid (show alignV t s = (0, 1) by rw [alignV, if_neg (by omega)])
      go_enter Tryd.func24, Tryd.ntmps24
      go_wp2_with (go_at_call 33; refine (in_any _ _).mono ?_; rintro e w' ⟨rfl, rfl⟩)
      go_ret2
      exact ⟨tup HQ.out, rfl⟩
    · by_cases h3 : 1125899906842624 < s
      · have HQ := Lib.hid (show alignV t s = (0, 1) by rw [alignV, if_neg (by omega)])
        have h4 : 1 ≤ s := by omega
        go_enter Tryd.func24, Tryd.ntmps24
        go_wp2_with (go_at_call 33; refine (in_any _ _).mono ?_; rintro e w' ⟨rfl, rfl⟩)
        go_ret2
        exact ⟨tup HQ.out, rfl⟩
      · have h4 : 1 ≤ s := by omega
        have h5 : s ≤ 1125899906842624 := by omega
        have HH := Lib.hid h1
        clear h2 h3
        have e1 := Int.emod_nonneg t (b := s) (by omega)
        have e2 := Int.emod_lt_of_pos t (b := s) (by omega)
        by_cases h7 : t - t % s < -1125899906842624
        · have HQ := Lib.hid (show alignV t s = (0, 1) by rw [alignV, if_neg (by omega)])
          go_enter Tryd.func24, Tryd.ntmps24
          go_wp2_with fail
          refine (in_any _ _).mono ?_
          rintro e w' ⟨rfl, rfl⟩
          go_wp2_with fail
          refine (down_any t s _ HH.out h4 h5).mono ?_
          rintro e w' ⟨rfl, rfl⟩
          go_wp2_with fail
          go_ret2
          exact ⟨tup HQ.out, rfl⟩
        · have HQ := Lib.hid (show alignV t s = (t - t % s, 0) by rw [alignV, if_pos ⟨HH.out, h4, h5, by omega⟩])
          have h8 : -1125899906842624 ≤ t - t % s := by omega
          clear h7
          go_enter Tryd.func24, Tryd.ntmps24
          go_wp2_with fail
          refine (in_any _ _).mono ?_
          rintro e w' ⟨rfl, rfl⟩
          go_wp2_with fail
          refine (down_any t s _ HH.out h4 h5).mono ?_
          rintro e w' ⟨rfl, rfl⟩
          go_wp2_with fail
          refine (down_any t s _ HH.out h4 h5).mono ?_
          rintro e w' ⟨rfl, rfl⟩
          go_wp2_with fail
          go_ret2
          exact ⟨tup HQ.out, rfl⟩
end Go.Proofs.YtkflhfdpdgnbfaaDoor
