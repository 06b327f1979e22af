/- Texts' order, lists' order. -/
import Derived.Test.YtkflhfdpdgnbfaaLa2
import Derived.Test.YtkflhfdpdgnbfaaShelf
namespace Go.Proofs.Ytkflhfdpdgnbfaa
open Go.RowKit
set_option linter.unusedVariables false
set_option linter.unusedSimpArgs false
set_option maxRecDepth 100000
open Lib (compareBytes)
theorem u8_eq {a b : UInt8} (h1 : ¬ a < b) (h2 : ¬ b < a) : a = b := UInt8.le_antisymm (UInt8.not_lt.mp h2) (UInt8.not_lt.mp h1)
theorem u8_asym {a b : UInt8} (h1 : a < b) : ¬ b < a := fun h2 => absurd (UInt8.lt_trans h1 h2) (UInt8.lt_irrefl _)
theorem cb_cases : ∀ x y : List UInt8, compareBytes x y = -1 ∨ compareBytes x y = 0 ∨ compareBytes x y = 1 := by
  intro x
  induction x with
  | nil => intro y; cases y <;> simp [compareBytes]
  | cons a x ih =>
    intro y
    cases y with
    | nil => simp [compareBytes]
    | cons b y =>
      simp only [compareBytes]
      split
      · simp
      · split
        · simp
        · exact ih y
theorem cb_neg : ∀ x y : List UInt8, compareBytes y x = - compareBytes x y := by
  intro x
  induction x with
  | nil => intro y; cases y <;> simp [compareBytes]
  | cons a x ih =>
    intro y
    cases y with
    | nil => simp [compareBytes]
    | cons b y =>
      simp only [compareBytes]
      by_cases h1 : a < b
      · rw [if_pos h1, if_neg (u8_asym h1), if_pos h1]; rfl
      · rw [if_neg h1, if_neg h1]
        by_cases h2 : b < a
        · rw [if_pos h2, if_pos h2]
        · rw [if_neg h2, if_neg h2]; exact ih y
theorem cb_eq : ∀ x y : List UInt8, compareBytes x y = 0 ↔ x = y := by
  intro x
  induction x with
  | nil => intro y; cases y <;> simp [compareBytes]
  | cons a x ih =>
    intro y
    cases y with
    | nil => simp [compareBytes]
    | cons b y =>
      simp only [compareBytes]
      by_cases h1 : a < b
      · rw [if_pos h1]
        exact ⟨fun h => by simp at h, fun h => by injection h with h; subst h; exact absurd h1 (UInt8.lt_irrefl _)⟩
      · rw [if_neg h1]
        by_cases h2 : b < a
        · rw [if_pos h2]
          exact ⟨fun h => by simp at h, fun h => by injection h with h; subst h; exact absurd h2 (UInt8.lt_irrefl _)⟩
        · rw [if_neg h2, ih y]
          have := u8_eq h1 h2
          subst this
          simp
theorem cb_less : ∀ x y : List UInt8, Op.bytesLess x y = decide (compareBytes x y = -1) := by
  intro x
  induction x with
  | nil => intro y; cases y <;> simp [compareBytes, Op.bytesLess]
  | cons a x ih =>
    intro y
    cases y with
    | nil => simp [compareBytes, Op.bytesLess]
    | cons b y =>
      simp only [compareBytes, Op.bytesLess, ih y]
      by_cases h1 : a < b
      · simp [h1]
      · by_cases h2 : b < a
        · have : (a == b) = false := by
            cases h : a == b with
            | false => rfl
            | true => have := eq_of_beq h; subst this; exact absurd h2 (UInt8.lt_irrefl _)
          simp [h1, h2, this]
        · have := u8_eq h1 h2
          subst this
          simp [h1]
theorem cb_trans : ∀ x y z : List UInt8, compareBytes x y ≤ 0 → compareBytes y z ≤ 0 → compareBytes x z ≤ 0 ∧ (compareBytes x y < 0 ∨ compareBytes y z < 0 → compareBytes x z < 0) := by
  intro x
  induction x with
  | nil => intro y z; cases y <;> cases z <;> simp [compareBytes]
  | cons a x ih =>
    intro y z
    cases y with
    | nil => simp [compareBytes]
    | cons b y =>
      cases z with
      | nil => intro h1 h2; simp [compareBytes] at h2
      | cons c z =>
        simp only [compareBytes]
        by_cases h1 : a < b
        · rw [if_pos h1]
          by_cases h2 : b < c
          · rw [if_pos h2, if_pos (UInt8.lt_trans h1 h2)]; simp
          · rw [if_neg h2]
            by_cases h3 : c < b
            · rw [if_pos h3]; intro _ h; simp at h
            · have := u8_eq h2 h3
              subst this
              rw [if_pos h1]; simp
        · rw [if_neg h1]
          by_cases h2 : b < a
          · rw [if_pos h2]; intro h; simp at h
          · have := u8_eq h1 h2
            subst this
            rw [if_neg h2]
            by_cases h2 : a < c
            · simp only [if_pos h2]; intros; simp
            · simp only [if_neg h2]
              by_cases h3 : c < a
              · simp only [if_pos h3]; intro _ h; simp at h
              · simp only [if_neg h3]; exact ih y z

/-- Of two texts: which stands first. -/
def cmpS (a b : ByteArray) : Int := compareBytes a.data.toList b.data.toList
theorem order_any (a b : ByteArray) (w : World) : Calls Try.prog 62 #[.string a, .string b] w fun e w' => e = .returned (.int .i64 (cmpS a b)) ∧ w' = w := by
  have hl : Op.bytesLess a.toList b.toList = decide (cmpS a b = -1) := by rw [ByteArray.toList_eq, ByteArray.toList_eq]; exact cb_less _ _
  have he : (a.toList == b.toList) = decide (cmpS a b = 0) := by
    rw [ByteArray.toList_eq, ByteArray.toList_eq, Bool.eq_iff_iff]
    simp [cmpS, cb_eq]
  rcases cb_cases a.data.toList b.data.toList with h | h | h
  · have h' : cmpS a b = -1 := h
    rw [h'] at hl he ⊢
    have hl2 : Op.bytesLess a.toList b.toList = true := hl
    go_enter Try.func62, Try.ntmps62
    go_wp2_with fail
    go_ret
    exact ⟨rfl, rfl⟩
  · have h' : cmpS a b = 0 := h
    rw [h'] at hl he ⊢
    have hl2 : Op.bytesLess a.toList b.toList = false := hl
    have he2 : (!(a.toList == b.toList)) = false := by rw [he]; rfl
    have he3 : (a.toList == b.toList) = true := he
    clear hl he
    go_enter Try.func62, Try.ntmps62
    go_wp2_with fail
    all_goals first | (exfalso; simp_all; done) | (go_ret; exact ⟨rfl, rfl⟩)
  · have h' : cmpS a b = 1 := h
    rw [h'] at hl he ⊢
    have hl2 : Op.bytesLess a.toList b.toList = false := hl
    have he2 : (!(a.toList == b.toList)) = true := by rw [he]; rfl
    have he3 : (a.toList == b.toList) = false := he
    clear hl he
    go_enter Try.func62, Try.ntmps62
    go_wp2_with fail
    all_goals first | (exfalso; simp_all; done) | (go_ret; exact ⟨rfl, rfl⟩)
end Go.Proofs.Ytkflhfdpdgnbfaa
