/- A number divided by one is itself. -/
import Derived.Test.YtidmbjgnkodiiaaWhole
namespace Go.Proofs.Ytidmbjgnkodiiaa
open Ieee Go
set_option linter.unusedVariables false
set_option linter.unusedSimpArgs false

theorem write_own (s : Bool) (r : Nat) (h : r < 2047 * 2 ^ 52) : double.write (double.read (double.word s r)) = double.word s r := by
  have e2 : double.binade = 2 ^ 52 := rfl
  have e3 : double.infRung = 2047 * 2 ^ 52 := by decide +kernel
  have e4 : double.leastPlace = -1074 := by decide +kernel
  have e5 : (double.fractionBits : Int) = 52 := rfl
  rw [read_word _ _ (by omega)]
  by_cases h1 : r < 2 ^ 52
  · rw [if_pos h1]
    show double.nearest s r (-1074) = _
    unfold Format.nearest
    by_cases h0 : r = 0
    · subst h0; rw [if_pos rfl]
    · have hL : r.log2 < 52 := (Nat.log2_lt h0).2 h1
      rw [if_neg h0, e2, e3, e4, e5]
      dsimp only
      rw [show max (-1074 + (r.log2 : Int) - 52) (-1074) = -1074 by omega]
      rw [show ((-1074 : Int) - -1074).toNat = 0 by omega, cut_zero, Nat.shiftLeft_zero, Nat.zero_mul, Nat.zero_add, Nat.min_eq_left (by omega)]
  · rw [if_neg h1, if_pos h]
    show double.nearest s (2 ^ 52 + r % 2 ^ 52) (-1074 + (r / 2 ^ 52 - 1 : Nat)) = _
    have hL : (2 ^ 52 + r % 2 ^ 52).log2 = 52 := by rw [Nat.log2_eq_iff (by omega)]; omega
    unfold Format.nearest
    rw [if_neg (by omega), e2, e3, e4, e5, hL]
    dsimp only
    obtain ⟨q, hq⟩ : ∃ q, r / 2 ^ 52 - 1 = q := ⟨_, rfl⟩
    rw [hq]
    rw [show max (-1074 + (q : Int) + ((52 : Nat) : Int) - 52) (-1074) = -1074 + (q : Int) by omega]
    rw [show (-1074 + (q : Int) - (-1074 + (q : Int))).toNat = 0 by omega, cut_zero, Nat.shiftLeft_zero]
    rw [show (-1074 + (q : Int) - -1074).toNat = q by omega]
    rw [show q * 2 ^ 52 + (2 ^ 52 + r % 2 ^ 52) = r by omega, Nat.min_eq_left (by omega)]

theorem word_own (x : Nat) (h : x < 18446744073709551616) : double.word (x / 2 ^ 63 == 1) (x % 2 ^ 63) = x := by
  have e1 : double.signWeight = 2 ^ 63 := rfl
  unfold Format.word
  rw [e1]
  by_cases hs : x / 2 ^ 63 = 1
  · simp only [hs, beq_self_eq_true, if_true]; omega
  · have : x / 2 ^ 63 = 0 := by omega
    simp only [this]
    simp; omega

theorem quo_one {x : Nat} (h : x < 18446744073709551616) (hn : fnan x = false) : double.div x 4607182418800017408 = some x := by
  have h1 : double.read 4607182418800017408 = .number false (2 ^ 52) (-52) := by decide +kernel
  have hw := word_own x h
  obtain ⟨s, hs⟩ : ∃ s, s = (x / 2 ^ 63 == 1) := ⟨_, rfl⟩
  obtain ⟨r, hr⟩ : ∃ r, r = x % 2 ^ 63 := ⟨_, rfl⟩
  rw [← hs, ← hr] at hw
  have hr63 : r < 2 ^ 63 := by omega
  unfold Format.div
  rw [h1]
  have hnum := read_number hn
  by_cases h2 : r < 2047 * 2 ^ 52
  · have hown := write_own s r h2
    have hrd : ∃ m p, double.read x = .number s m p ∧ m < 2 ^ 53 := by
      rw [← hw, read_word _ _ hr63]
      by_cases h3 : r < 2 ^ 52
      · rw [if_pos h3]; exact ⟨r, _, rfl, by omega⟩
      · rw [if_neg h3, if_pos h2]; exact ⟨_, _, rfl, by omega⟩
    obtain ⟨m, p, hrd, hm⟩ := hrd
    rw [hw, hrd] at hown
    rw [hrd]
    have e5 : double.fractionBits = 52 := rfl
    have hlog : (2 ^ 52 : Nat).log2 = 52 := by rw [Nat.log2_eq_iff (by omega)]; omega
    have hml : m.log2 ≤ 52 := by
      by_cases h0 : m = 0
      · subst h0; decide
      · have := (Nat.log2_lt h0).2 hm; omega
    simp only [Datum.quotient]
    rw [if_neg (by omega), e5, hlog]
    obtain ⟨k, hk⟩ : ∃ k, 52 + 2 + 52 - m.log2 = k + 52 := ⟨54 - m.log2, by omega⟩
    rw [hk]
    have hdv : m <<< (k + 52) = m * 2 ^ k * 2 ^ 52 := by rw [Nat.shiftLeft_eq, Nat.pow_add, Nat.mul_assoc]
    rw [hdv, Nat.mul_div_cancel _ (Nat.two_pow_pos 52), Nat.mul_mod_left]
    simp only [Option.map_some, Bool.xor_false]
    congr 1
    rw [← hown]
    show double.nearest s _ _ = double.nearest s m p
    have : 2 * (m * 2 ^ k) + (0 != 0).toNat = m * 2 ^ (k + 1) := by
      simp only [bne_self_eq_false, Bool.toNat_false, Nat.add_zero, Nat.pow_succ]
      rw [Nat.mul_comm 2, Nat.mul_assoc]
    rw [this, nearest_shift]
    congr 1; omega
  · have hri : double.read x = if r = 2047 * 2 ^ 52 then .infinity s else .nan s (r - 2047 * 2 ^ 52) := by
      rw [← hw, read_word _ _ hr63, if_neg (by omega), if_neg h2]
    by_cases h3 : r = 2047 * 2 ^ 52
    · rw [if_pos h3] at hri
      rw [hri]
      have e3 : double.infRung = 2047 * 2 ^ 52 := by decide +kernel
      simp only [Datum.quotient, Option.map_some, Bool.xor_false]
      congr 1
      show double.word s double.infRung = x
      rw [e3, ← h3]; exact hw
    · rw [if_neg h3] at hri
      exact (hnum _ _ hri).elim

theorem fenc_one : fenc 1 = 4607182418800017408 := by decide +kernel
theorem cop_quo_one {x : Nat} (h : x < 18446744073709551616) : cop .quo x (fenc 1) = canon x := by
  by_cases hn : fnan x = true
  · rw [cop_nan_l _ _ hn, canon_nan hn]
  · have hn : fnan x = false := by simpa using hn
    have e : floatBits .quo .f64 x 4607182418800017408 = some x := quo_one h hn
    rw [fenc_one]
    unfold cop
    rw [e]
end Go.Proofs.Ytidmbjgnkodiiaa
