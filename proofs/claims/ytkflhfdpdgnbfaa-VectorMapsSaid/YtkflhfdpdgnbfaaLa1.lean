/- Bytes and names of labels: the code's and the document's. -/
import Derived.Test.YtkflhfdpdgnbfaaBase
import Derived.Deep.Strs
import Derived.Deep.RegionLaw
import Derived.BigQuiet
import Derived.Deep.QuietTactic
import Derived.Shelf.SlSortCmp.QuietGrown
namespace Go.Proofs.Ytkflhfdpdgnbfaa
open Go.RowKit
set_option linter.unusedVariables false
set_option linter.unusedSimpArgs false
set_option maxRecDepth 100000

def letterB (c : Int) : Bool := (decide (65 ≤ c) && decide (c ≤ 90)) || (decide (97 ≤ c) && decide (c ≤ 122)) || decide (c = 95)
def digitB (c : Int) : Bool := decide (48 ≤ c) && decide (c ≤ 57)
theorem letter_any (c : Int) (w : World) : Calls Try.prog 71 #[.int .u8 c] w fun e w' => e = .returned (.bool (letterB c)) ∧ w' = w := by
  by_cases h1 : 65 ≤ c <;> by_cases h2 : c ≤ 90 <;> by_cases h3 : 97 ≤ c <;> by_cases h4 : c ≤ 122 <;> by_cases h5 : c = 95
  all_goals first | (exfalso; omega) | skip
  all_goals first | have h6 : (c == 95) = false := by simp; omega | have h6 : (c == 95) = true := by simp; omega
  all_goals
    go_enter Try.func71, Try.ntmps71
    go_wp2_with fail
    go_ret
    exact ⟨by first | (simp [letterB, *]; done) | (simp [letterB, *]; omega), rfl⟩
theorem rletter_any (c : Int) (w : World) : Calls Try.prog 74 #[.int .u8 c] w fun e w' => e = .returned (.bool (letterB c)) ∧ w' = w := by
  by_cases h1 : 65 ≤ c <;> by_cases h2 : c ≤ 90 <;> by_cases h3 : 97 ≤ c <;> by_cases h4 : c ≤ 122 <;> by_cases h5 : c = 95
  all_goals first | (exfalso; omega) | skip
  all_goals first | have h6 : (c == 95) = false := by simp; omega | have h6 : (c == 95) = true := by simp; omega
  all_goals
    go_enter Try.func74, Try.ntmps74
    go_wp2_with fail
    go_ret
    exact ⟨by first | (simp [letterB, *]; done) | (simp [letterB, *]; omega), rfl⟩
theorem digit_any (c : Int) (w : World) : Calls Try.prog 72 #[.int .u8 c] w fun e w' => e = .returned (.bool (digitB c)) ∧ w' = w := by
  by_cases h1 : 48 ≤ c <;> by_cases h2 : c ≤ 57
  all_goals
    go_enter Try.func72, Try.ntmps72
    go_wp2_with fail
    go_ret
    exact ⟨by simp [digitB, *], rfl⟩
theorem rdigit_any (c : Int) (w : World) : Calls Try.prog 75 #[.int .u8 c] w fun e w' => e = .returned (.bool (digitB c)) ∧ w' = w := by
  by_cases h1 : 48 ≤ c <;> by_cases h2 : c ≤ 57
  all_goals
    go_enter Try.func75, Try.ntmps75
    go_wp2_with fail
    go_ret
    exact ⟨by simp [digitB, *], rfl⟩

/-- A label's name: a letter ahead, letters and digits behind. -/
def bt (s : ByteArray) (i : Nat) : Int := ((s.data[i]?).getD 0).toNat
theorem bt_eq (s : ByteArray) (i : Nat) (h : i < s.size) : (s[i].toNat : Int) = bt s i := by
  have h' : i < s.data.size := h
  unfold bt
  rw [Array.getElem?_eq_getElem h']
  rfl
def partB (c : Int) : Bool := letterB c || digitB c
def nameB (s : ByteArray) : Bool := decide (0 < s.size) && decide (s.size ≤ 64) && letterB (bt s 0) && (List.range s.size).all fun j => partB (bt s j)
theorem nameB_true {s : ByteArray} (h0 : 0 < s.size) (h1 : s.size ≤ 64) (h2 : letterB (bt s 0) = true) (h3 : ∀ j, j < s.size → partB (bt s j) = true) : nameB s = true := by
  unfold nameB
  simp [h0, h1, h2]
  exact h3
theorem nameB_false {s : ByteArray} (h : s.size = 0 ∨ 64 < s.size ∨ letterB (bt s 0) = false ∨ ∃ j, j < s.size ∧ partB (bt s j) = false) : nameB s = false := by
  unfold nameB
  rcases h with h | h | h | ⟨j, h1, h2⟩
  · simp [h]
  · simp; intros; omega
  · simp [h]
  · have : (List.range s.size).all (fun j => partB (bt s j)) = false := by
      rw [List.all_eq_false]
      exact ⟨j, List.mem_range.mpr h1, by simp [h2]⟩
    rw [this, Bool.and_false]

theorem empty_of {s : ByteArray} (h : s.size = 0) : s.toList = [] := by
  rw [ByteArray.toList_eq]
  have : s.data.toList.length = 0 := h
  exact List.length_eq_zero_iff.mp this
theorem not_empty_of {s : ByteArray} (h : 0 < s.size) : ¬ s.toList = [] := by
  rw [ByteArray.toList_eq]
  intro he
  have h2 : 0 < s.data.toList.length := h
  rw [he] at h2
  simp at h2
set_option maxHeartbeats 2000000 in
theorem rname_any (s : ByteArray) (w : World) : Calls Try.prog 54 #[.string s] w fun e w' => e = .returned (.bool (nameB s)) ∧ w' = w := by
  by_cases h0 : s.size = 0
  · have h1 : s.toList = [] := empty_of h0
    rw [nameB_false (.inl h0)]
    go_enter Try.func54, Try.ntmps54
    go_wp2_with fail
    go_ret
    exact ⟨rfl, rfl⟩
  · have hp : 0 < s.size := by omega
    have h1 : ¬ s.toList = [] := not_empty_of hp
    by_cases h2 : 64 < s.size
    · rw [nameB_false (.inr (.inl h2))]
      have h3 : ¬ (s.size : Int) ≤ 64 := by omega
      go_enter Try.func54, Try.ntmps54
      go_wp2_with fail
      go_ret
      exact ⟨rfl, rfl⟩
    · have h3 : (s.size : Int) ≤ 64 := by omega
      have h4 : s.toList.isEmpty = false := by simpa using h1
      have h5 : decide (64 < (s.size : Int)) = false := by simp; omega
      have e0 := bt_eq s 0 hp
      have E0 := Lib.hid e0
      clear e0
      go_enter Try.func54, Try.ntmps54
      go_wp2_with fail
      refine (rletter_any _ _).mono ?_
      rintro e w1 ⟨rfl, rfl⟩
      rw [E0.out]
      by_cases hL : letterB (bt s 0) = true
      · go_wp2_with fail
        go_loopw [3] (fun iv wr => ∃ i : Nat, iv = .int .i64 i ∧ 1 ≤ i ∧ i ≤ s.size ∧ wr = w1 ∧ Hid (∀ j, 1 ≤ j → j < i → partB (bt s j) = true)) (fun iv _ => s.size - (intOf iv).toNat)
        case atStart => exact ⟨1, rfl, Nat.le_refl _, hp, rfl, fun j h1 h2 => by omega⟩
        case round =>
          obtain ⟨i, rfl, hi1, hi2, rfl, HI⟩ := hrel
          by_cases hlt : i < s.size
          · have hltz : (i : Int) < (s.size : Int) := by omega
            have EI := Lib.hid (bt_eq s i hlt)
            have ea : ((i : Int)).toNat = i := by omega
            go_wp2_with fail
            refine (rletter_any _ _).mono ?_
            rintro e w2 ⟨rfl, rfl⟩
            rw [EI.out]
            by_cases hl : letterB (bt s i) = true
            · go_wp2_with fail
              go_roundw
              case rel => exact ⟨i + 1, by first | rfl | go_num, by omega, by omega, by trivial, fun j h1 h2 => by
                by_cases hj : j = i
                · subst hj; simp [partB, hl]
                · exact HI.out j h1 (by omega)⟩
              case measure => simp [intOf]; omega
            · have hl2 : letterB (bt s i) = false := by simpa using hl
              go_wp2_with fail
              refine (rdigit_any _ _).mono ?_
              rintro e w2 ⟨rfl, rfl⟩
              rw [EI.out]
              by_cases hd : digitB (bt s i) = true
              · go_wp2_with fail
                go_roundw
                case rel => exact ⟨i + 1, by first | rfl | go_num, by omega, by omega, by trivial, fun j h1 h2 => by
                  by_cases hj : j = i
                  · subst hj; simp [partB, hd]
                  · exact HI.out j h1 (by omega)⟩
                case measure => simp [intOf]; omega
              · have hd2 : digitB (bt s i) = false := by simpa using hd
                go_wp2_with fail
                go_ret
                exact ⟨by rw [nameB_false (.inr (.inr (.inr ⟨i, hlt, by simp [partB, hl2, hd2]⟩)))] <;> rfl, rfl⟩
          · have hltz : ¬ (i : Int) < (s.size : Int) := by omega
            go_wp2_with fail
            go_ret
            have hn := nameB_true hp (by omega) hL (fun j hj => by
              by_cases hj0 : j = 0
              · subst hj0; simp [partB, hL]
              · exact HI.out j (by omega) (by omega))
            exact ⟨by rw [hn] <;> rfl, rfl⟩
      · have hL2 : letterB (bt s 0) = false := by simpa using hL
        go_wp2_with fail
        go_ret
        exact ⟨by rw [nameB_false (.inr (.inr (.inl hL2)))] <;> rfl, rfl⟩
set_option maxHeartbeats 2000000 in
theorem name_any (s : ByteArray) (w : World) : Calls Try.prog 51 #[.string s] w fun e w' => e = .returned (.bool (nameB s)) ∧ w' = w := by
  by_cases h0 : s.size = 0
  · have h1 : s.toList = [] := empty_of h0
    rw [nameB_false (.inl h0)]
    go_enter Try.func51, Try.ntmps51
    go_wp2_with fail
    go_ret
    exact ⟨rfl, rfl⟩
  · have hp : 0 < s.size := by omega
    have h1 : ¬ s.toList = [] := not_empty_of hp
    by_cases h2 : 64 < s.size
    · rw [nameB_false (.inr (.inl h2))]
      have h3 : ¬ (s.size : Int) ≤ 64 := by omega
      go_enter Try.func51, Try.ntmps51
      go_wp2_with fail
      go_ret
      exact ⟨rfl, rfl⟩
    · have h3 : (s.size : Int) ≤ 64 := by omega
      have h4 : s.toList.isEmpty = false := by simpa using h1
      have h5 : decide (64 < (s.size : Int)) = false := by simp; omega
      have e0 := bt_eq s 0 hp
      have E0 := Lib.hid e0
      clear e0
      go_enter Try.func51, Try.ntmps51
      go_wp2_with fail
      refine (letter_any _ _).mono ?_
      rintro e w1 ⟨rfl, rfl⟩
      rw [E0.out]
      by_cases hL : letterB (bt s 0) = true
      · go_wp2_with fail
        go_loopw [19] (fun iv wr => ∃ i : Nat, iv = .int .i64 i ∧ i ≤ s.size ∧ wr = w1 ∧ Hid (∀ j, j < i → partB (bt s j) = true)) (fun iv _ => s.size - (intOf iv).toNat)
        case atStart => exact ⟨0, rfl, Nat.zero_le _, rfl, fun j h2 => absurd h2 (Nat.not_lt_zero _)⟩
        case round =>
          obtain ⟨i, rfl, hi2, rfl, HI⟩ := hrel
          by_cases hlt : i < s.size
          · have hltz : (i : Int) < (s.size : Int) := by omega
            have EI := Lib.hid (bt_eq s i hlt)
            have ea : ((i : Int)).toNat = i := by omega
            go_wp2_with fail
            refine (letter_any _ _).mono ?_
            rintro e w2 ⟨rfl, rfl⟩
            rw [EI.out]
            by_cases hl : letterB (bt s i) = true
            · go_wp2_with fail
              go_roundw
              case rel => exact ⟨i + 1, by first | rfl | go_num, by omega, by trivial, fun j h2 => by
                by_cases hj : j = i
                · subst hj; simp [partB, hl]
                · exact HI.out j (by omega)⟩
              case measure => simp [intOf]; omega
            · have hl2 : letterB (bt s i) = false := by simpa using hl
              go_wp2_with fail
              refine (digit_any _ _).mono ?_
              rintro e w2 ⟨rfl, rfl⟩
              rw [EI.out]
              by_cases hd : digitB (bt s i) = true
              · go_wp2_with fail
                go_roundw
                case rel => exact ⟨i + 1, by first | rfl | go_num, by omega, by trivial, fun j h2 => by
                  by_cases hj : j = i
                  · subst hj; simp [partB, hd]
                  · exact HI.out j (by omega)⟩
                case measure => simp [intOf]; omega
              · have hd2 : digitB (bt s i) = false := by simpa using hd
                go_wp2_with fail
                go_ret
                exact ⟨by rw [nameB_false (.inr (.inr (.inr ⟨i, hlt, by simp [partB, hl2, hd2]⟩)))] <;> rfl, rfl⟩
          · have hltz : ¬ (i : Int) < (s.size : Int) := by omega
            go_wp2_with fail
            go_ret
            have hn := nameB_true hp (by omega) hL (fun j hj => HI.out j (by omega))
            exact ⟨by rw [hn] <;> rfl, rfl⟩
      · have hL2 : letterB (bt s 0) = false := by simpa using hL
        go_wp2_with fail
        go_ret
        exact ⟨by rw [nameB_false (.inr (.inr (.inl hL2)))] <;> rfl, rfl⟩
end Go.Proofs.Ytkflhfdpdgnbfaa
