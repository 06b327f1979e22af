/- Names among some: Has, Contains. -/
import Derived.Test.YtkflhfdpdgnbfaaLa7
namespace Go.Proofs.Ytkflhfdpdgnbfaa
open Go.RowKit
set_option linter.unusedVariables false
set_option linter.unusedSimpArgs false
set_option maxRecDepth 100000
def hasL (names : List ByteArray) (x : ByteArray) : Bool := names.any fun n => n.toList == x.toList
theorem hasL_drop {names : List ByteArray} {x : ByteArray} {k : Nat} (h : k < names.length) : hasL (names.drop k) x = ((names[k].toList == x.toList) || hasL (names.drop (k + 1)) x) := by
  rw [List.drop_eq_getElem_cons h]; rfl
set_option maxHeartbeats 1000000 in
theorem rhas_any (v : Value) (names : List ByteArray) (x : ByteArray) (w : World) (h : Sl senc1 w v names) :
    Calls Try.prog 82 #[v, .string x] w fun e w' => e = .returned (.bool (hasL names x)) ∧ w' = w := by
  obtain ⟨a, cap, rfl, hlen, hc⟩ := h.strings
  have HC := Lib.hid hc
  clear hc h
  go_enter Try.func82, Try.ntmps82
  go_wp2_with fail
  go_loopw [5] (fun i wr => ∃ k : Nat, k ≤ names.length ∧ i = .int .i64 k ∧ Hid (hasL (names.drop k) x = hasL names x) ∧ wr = w) (fun i _ => names.length - (intOf i).toNat)
  case atStart => exact ⟨0, Nat.zero_le _, rfl, rfl, rfl⟩
  case round =>
    obtain ⟨k, hk, rfl, HV, rfl⟩ := hrel
    by_cases hlt : k < names.length
    · obtain ⟨b, off, rfl, hcc⟩ := HC.out k hlt
      have hltz : (k : Int) < (names.length : Int) := by omega
      have h00 : (0 : Int) ≤ (k : Int) := by omega
      have k0 := hcc k hlt
      have HD := Lib.hid (hasL_drop (x := x) hlt)
      clear hcc
      generalize names[k] = y at k0 HD
      by_cases he : (y.toList == x.toList) = true
      · go_wp2_with fail
        go_ret
        exact ⟨by rw [← HV.out, HD.out, he] <;> rfl, rfl⟩
      · have he2 : (y.toList == x.toList) = false := by simpa using he
        go_wp2_with fail
        go_roundw
        case rel => exact ⟨k + 1, by omega, by go_num, by show _ = _; rw [← HV.out, HD.out, he2]; rfl, by trivial⟩
        case measure => simp [intOf]; omega
    · have hltz : ¬ (k : Int) < (names.length : Int) := by omega
      have hd : names.drop k = [] := List.drop_eq_nil_of_le (by omega)
      have HE := Lib.hid (show hasL names x = false by rw [← HV.out, hd]; rfl)
      clear hd
      go_wp2_with fail
      go_ret
      exact ⟨by rw [HE.out] <;> rfl, rfl⟩
theorem contains_has (names : List ByteArray) (x : ByteArray) : Lib.containsS names x = hasL names x := by
  rw [Bool.eq_iff_iff, Lib.containsS_iff, hasL, List.any_eq_true]
  constructor
  · intro h; exact ⟨x, h, by simp⟩
  · rintro ⟨y, h1, h2⟩
    have := eq_of_beq h2
    rw [ByteArray.toList_eq, ByteArray.toList_eq] at this
    rw [← ba_eq this]; exact h1
theorem contains_any (v : Value) (names : List ByteArray) (x : ByteArray) (w : World) (h : Sl senc1 w v names) :
    Calls Try.prog 87 #[v, .string x] w fun e w' => e = .returned (.bool (hasL names x)) ∧ w' = w := by
  obtain ⟨a, cap, rfl, hlen, hc⟩ := h.strings
  cases names with
  | nil =>
    refine (Try.slices_Contains_string_empty a cap x w).mono ?_
    intro e w' h
    exact h
  | cons y r =>
    obtain ⟨b, off, rfl, hcc⟩ := hc 0 (by simp)
    refine (Try.slices_Contains_string b off (y :: r).length cap (y :: r) x w (Nat.le_refl _) (by omega) (fun j hj => by rw [hcc j hj, List.getD_eq_getElem?_getD, List.getElem?_eq_getElem hj]; rfl)).mono ?_
    intro e w' h
    rw [List.take_of_length_le (Nat.le_refl _), contains_has] at h
    exact h
end Go.Proofs.Ytkflhfdpdgnbfaa
