/- The plain law of StampDurations: the reference's Duration answers what durV answers. -/
import Derived.Test.YtkflhfdpdgnbfaaDoorSt1
import Derived.Test.YtkflhfdpdgnbfaaDoorBase
namespace Go.Proofs.YtkflhfdpdgnbfaaDoor
open Go Go.RowKit
set_option linter.unusedVariables false
set_option linter.unusedSimpArgs false

theorem drop_cons (s : ByteArray) (i : Nat) (h : i < s.size) : s.data.toList.drop i = s[i] :: s.data.toList.drop (i + 1) := by
  have : i < s.data.toList.length := by simpa using h
  rw [List.drop_eq_getElem_cons this]
  rfl
theorem drop_end (s : ByteArray) (i : Nat) (h : s.size ≤ i) : s.data.toList.drop i = [] := by
  apply List.drop_eq_nil_of_le
  simpa using h
theorem w64 {a : Int} (h : -9223372036854775808 ≤ a) (h2 : a ≤ 9223372036854775807) : wrap64 a = a := IntWalk.wrap64_in a ⟨h, h2⟩

/-- The unit, as the reference tells it. -/
def rU : List UInt8 → Int × Int
  | [] => (-1, 0)
  | c :: t => if c.toNat = 100 then (0, 1) else if c.toNat = 104 then (1, 1) else
      if c.toNat = 109 then (match t with | d :: _ => if d.toNat = 115 then (4, 2) else (2, 1) | [] => (2, 1)) else if c.toNat = 115 then (3, 1) else (-1, 0)
def UR (u e : Int) : Prop := (u = 0 ∧ e = 86400000) ∨ (u = 1 ∧ e = 3600000) ∨ (u = 2 ∧ e = 60000) ∨ (u = 3 ∧ e = 1000) ∨ (u = 4 ∧ e = 1)
theorem rU_unit (l : List UInt8) : (rU l).2 = (unitL l).2 ∧ (((rU l).1 = -1 ∧ (unitL l).1 = 0 ∧ (unitL l).2 = 0) ∨ (UR (rU l).1 (unitL l).1 ∧ 1 ≤ (unitL l).2)) := by
  cases l with
  | nil => exact ⟨rfl, .inl ⟨rfl, rfl, rfl⟩⟩
  | cons c t =>
    by_cases a1 : c.toNat = 100
    · simp [rU, unitL, UR, a1]
    · by_cases a2 : c.toNat = 104
      · simp [rU, unitL, UR, a2]
      · by_cases a3 : c.toNat = 109
        · cases t with
          | nil => simp [rU, unitL, UR, a3]
          | cons d t =>
            by_cases a4 : d.toNat = 115
            · simp [rU, unitL, UR, a3, a4]
            · simp [rU, unitL, UR, a3, a4]
        · by_cases a5 : c.toNat = 115
          · simp [rU, unitL, UR, a5]
          · simp [rU, unitL, UR, a1, a2, a3, a5]
theorem rU_of (s : ByteArray) (i : Nat) (h : i < s.size) : rU (s.data.toList.drop i) = if s[i].toNat = 100 then (0, 1) else if s[i].toNat = 104 then (1, 1) else
      if s[i].toNat = 109 then (if h1 : i + 1 < s.size then (if s[i + 1].toNat = 115 then (4, 2) else (2, 1)) else (2, 1)) else if s[i].toNat = 115 then (3, 1) else (-1, 0) := by
  rw [drop_cons s i h]
  simp only [rU]
  by_cases h1 : i + 1 < s.size
  · rw [drop_cons s (i + 1) h1, dif_pos h1]
  · rw [drop_end s (i + 1) (by omega), dif_neg h1]
set_option maxRecDepth 100000 in
theorem runit_any (s : ByteArray) (i : Nat) (w : World) (hi : i ≤ s.size) (hs : s.size ≤ 9223372036854775806) :
    Calls Tryd.prog 28 #[.string s, .int .i64 i] w fun e w' => e = .returned (.tuple #[.int .i64 (rU (s.data.toList.drop i)).1, .int .i64 (rU (s.data.toList.drop i)).2]) ∧ w = w' := by
  have hi0 : (0 : Int) ≤ (i : Int) := Int.natCast_nonneg _
  by_cases h1 : i < s.size
  · have HD := Lib.hid (rU_of s i h1)
    have h3 : (i : Int) < (s.size : Int) := by omega
    by_cases h2 : i + 1 < s.size
    · have h4 : (i : Int) + 1 < (s.size : Int) := by omega
      go_enter Tryd.func28, Tryd.ntmps28
      go_wp2_with fail
      all_goals
        go_ret2
        have hd := HD.out
        have hq : ∀ x y, rU (s.data.toList.drop i) = (x, y) → Ending.returned (.tuple #[.int .i64 x, .int .i64 y]) = Ending.returned (.tuple #[.int .i64 (rU (s.data.toList.drop i)).1, .int .i64 (rU (s.data.toList.drop i)).2]) := fun x y h => by rw [h]
        refine ⟨hq _ _ ?_, rfl⟩
        rw [hd]
        clear hd hq HD
        simp only [beq_iff_eq, beq_eq_false_iff_ne, ne_eq] at *
        repeat' split
        all_goals first | rfl | omega
    · have h4 : ¬ (i : Int) + 1 < (s.size : Int) := by omega
      go_enter Tryd.func28, Tryd.ntmps28
      go_wp2_with fail
      all_goals
        go_ret2
        have hd := HD.out
        have hq : ∀ x y, rU (s.data.toList.drop i) = (x, y) → Ending.returned (.tuple #[.int .i64 x, .int .i64 y]) = Ending.returned (.tuple #[.int .i64 (rU (s.data.toList.drop i)).1, .int .i64 (rU (s.data.toList.drop i)).2]) := fun x y h => by rw [h]
        refine ⟨hq _ _ ?_, rfl⟩
        rw [hd]
        clear hd hq HD
        simp only [beq_iff_eq, beq_eq_false_iff_ne, ne_eq] at *
        repeat' split
        all_goals first | rfl | omega
  · have HD := Lib.hid (show rU (s.data.toList.drop i) = (-1, 0) by rw [drop_end s i (by omega)]; rfl)
    have h3 : ¬ (i : Int) < (s.size : Int) := by omega
    have h4 : ¬ (i : Int) + 1 < (s.size : Int) := by omega
    go_enter Tryd.func28, Tryd.ntmps28
    go_wp2_with fail
    go_ret2
    exact ⟨ret2 (by rw [HD.out]) (by rw [HD.out]), rfl⟩
theorem ret1 {a b : Int} (h : a = b) : Ending.returned (.int .i64 a) = .returned (.int .i64 b) := by rw [h]
set_option maxRecDepth 100000 in
theorem rsize_any (u e : Int) (w : World) (h : UR u e) : Calls Tryd.prog 29 #[.int .i64 u] w fun x w' => x = .returned (.int .i64 e) ∧ Below w.heap.size w w' := by
  rcases h with ⟨rfl, rfl⟩ | ⟨rfl, rfl⟩ | ⟨rfl, rfl⟩ | ⟨rfl, rfl⟩ | ⟨rfl, rfl⟩
  all_goals
    go_enter Tryd.func29, Tryd.ntmps29
    go_wp2_with fail
    go_ret
    exact ⟨rfl, (Below.refl _ _).alloc (Nat.le_refl _) _⟩

/-- Of the last unit: as the program keeps it, as the reference does. -/
def LR (lr li : Int) : Prop := (lr = -1 ∧ li = 86400001) ∨ UR lr li
def SI (sum out : Int) (big : Bool) : Prop := 0 ≤ sum ∧ sum ≤ 1125899906842624 ∧ 0 ≤ out ∧ out ≤ 2251799813685248 ∧ (big = false → out = sum) ∧ (big = true → 1125899906842624 < out)
def NI (nr ni : Int) (b0 bn : Bool) : Prop := (0 ≤ nr ∧ nr ≤ 1125899906842624 ∧ ni = nr ∧ bn = b0) ∨ (1125899906842624 < nr ∧ nr ≤ 11258999068426249 ∧ 1125899906842624 < ni ∧ ni ≤ 2251799813685248)
theorem fin_of {sum out : Int} {big : Bool} (h : SI sum out big) : fin out = if big = true then (0, 1) else if sum = 0 then (0, 1) else (sum, 0) := by
  obtain ⟨h1, h2, h3, h4, h5, h6⟩ := h
  unfold fin
  cases big with
  | true => rw [if_pos (.inr (h6 rfl))]; rfl
  | false =>
    have := h5 rfl
    subst this
    by_cases hz : out = 0
    · rw [if_pos (.inl hz), if_neg (by simp), if_pos hz]
    · rw [if_neg (by omega), if_neg (by simp), if_neg hz]
/-- One part's sum: the program's cut one and the reference's. -/
theorem part_sum {sum out nr ni u e : Int} {b0 bn : Bool} (hs : SI sum out b0) (hn : NI nr ni b0 bn) (hu : UR u e) :
    (1125899906842624 / e < nr ∧ SI sum (min (out + capN ni e * e) 2251799813685248) true) ∨
    (nr ≤ 1125899906842624 / e ∧ 0 ≤ nr * e ∧ nr * e ≤ 1125899906842624 ∧ 1125899906842624 - nr * e < sum ∧ SI sum (min (out + capN ni e * e) 2251799813685248) true) ∨
    (nr ≤ 1125899906842624 / e ∧ 0 ≤ nr * e ∧ nr * e ≤ 1125899906842624 ∧ sum ≤ 1125899906842624 - nr * e ∧ SI (sum + nr * e) (min (out + capN ni e * e) 2251799813685248) bn) := by
  obtain ⟨h1, h2, h3, h4, h5, h6⟩ := hs
  have hcap : capN ni e = if 2251799813685248 / e < ni then 2251799813685248 / e else ni := rfl
  unfold SI
  cases b0 <;> cases bn <;> simp only [NI] at hn <;> rcases hn with ⟨n1, n2, n3, n4⟩ | ⟨n1, n2, n3, n4⟩ <;> (first | (cases n4; done) | skip) <;> rcases hu with ⟨rfl, rfl⟩ | ⟨rfl, rfl⟩ | ⟨rfl, rfl⟩ | ⟨rfl, rfl⟩ | ⟨rfl, rfl⟩ <;> simp at h5 h6 hcap ⊢ <;> (rw [hcap]; split <;> omega)
end Go.Proofs.YtkflhfdpdgnbfaaDoor
