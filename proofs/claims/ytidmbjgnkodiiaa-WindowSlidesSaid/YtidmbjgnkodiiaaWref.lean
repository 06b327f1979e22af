/- Contracts of the wave's reference. -/
import Derived.Test.YtidmbjgnkodiiaaWave
import Derived.Laws.BitsAllLaws
namespace Go.Proofs.Ytidmbjgnkodiiaa
open Go.RowKit
set_option linter.unusedVariables false
set_option linter.unusedSimpArgs false

theorem fnan_fneg (b : Nat) : fnan (fneg b) = fnan b := by
  have hs : Ieee.double.signWeight = 2 ^ 63 := rfl
  have hx : (b ^^^ 2 ^ 63) % 2 ^ 63 = b % 2 ^ 63 := by
    rw [Nat.xor_mod_two_pow]; simp
  have key : ∀ c : Nat, fnan c = decide (Ieee.double.infRung < c % 2 ^ 63) := by
    intro c
    have hb : Ieee.double.binade < Ieee.double.infRung := by decide +kernel
    cases h : fnan c
    · have := read_number h
      symm; rw [decide_eq_false_iff_not]
      intro hc
      unfold Ieee.Format.read at this
      rw [hs] at this
      dsimp only at this
      rw [if_neg (by omega), if_neg (by omega), if_neg (by omega)] at this
      exact this _ _ rfl
    · obtain ⟨n, q, hr⟩ := read_nan h
      symm; rw [decide_eq_true_iff]
      unfold Ieee.Format.read at hr
      rw [hs] at hr
      dsimp only at hr
      split at hr
      · cases hr
      · split at hr
        · cases hr
        · split at hr
          · cases hr
          · omega
  rw [key, key]
  have e : fneg b = b ^^^ 2 ^ 63 := rfl
  rw [e, hx]

theorem canon_fneg_canon (b : Nat) : canon (fneg (canon b)) = canon (fneg b) := by
  cases h : fnan b
  · rw [canon_num h]
  · rw [canon_nan (b := fneg (canon b)) (by rw [fnan_fneg, fnan_canon, h]), canon_nan (by rw [fnan_fneg, h])]


theorem fneg_lt {b : Nat} (h : b < 18446744073709551616) : fneg b < 18446744073709551616 := by
  have : b ^^^ 2 ^ 63 < 2 ^ 64 := Nat.xor_lt_two_pow (by omega) (by decide)
  exact this
theorem canon_lt {b : Nat} (h : b < 18446744073709551616) : canon b < 18446744073709551616 := by
  unfold canon; split
  · unfold CN; omega
  · exact h

theorem xor_fneg (b : Nat) (hb : b < 18446744073709551616) : (bits .xor .u64 (b : Int) 9223372036854775808).toNat = fneg b := by
  rw [show (9223372036854775808 : Int) = ((9223372036854775808 : Nat) : Int) from rfl, bits_xor_u64_nat b _ hb (by decide), Int.toNat_natCast]
  rfl

/-- The reference's turning: the parts are made canonical at the end. -/
def rturn (r i : Nat) : Nat → Nat × Nat
  | 0 => (r, i)
  | k + 1 => (canon (fneg (rturn r i k).2), (rturn r i k).1)
theorem rturn_turn (r i k : Nat) : canon (rturn r i k).1 = (turn r i k).1 ∧ canon (rturn r i k).2 = (turn r i k).2 := by
  induction k with
  | zero => exact ⟨rfl, rfl⟩
  | succ k ih =>
    refine ⟨?_, ?_⟩
    · show canon (canon (fneg (rturn r i k).2)) = canon (fneg (turn r i k).2)
      rw [canon_canon, ← ih.2, canon_fneg_canon]
    · show canon (rturn r i k).1 = canon (turn r i k).1
      rw [← ih.1, canon_canon]
theorem rturn_lt (r i : Nat) (hr : r < 18446744073709551616) (hi : i < 18446744073709551616) (k : Nat) : (rturn r i k).1 < 18446744073709551616 ∧ (rturn r i k).2 < 18446744073709551616 := by
  induction k with
  | zero => exact ⟨hr, hi⟩
  | succ k ih => exact ⟨canon_lt (fneg_lt ih.2), ih.1⟩

theorem tmod4 (n : Int) : n.tmod 4 = if 0 ≤ n then n % 4 else -((-n) % 4) := by
  split
  · exact Int.tmod_eq_emod_of_nonneg (by assumption)
  · rw [show n = -(-n) by omega, Int.neg_tmod, Int.tmod_eq_emod_of_nonneg (by omega)]; omega

/-- The reference's sum: canonical at the end. -/
def rstep (k : Nat) (p : Nat × Nat) (v : Nat) : Nat × Nat :=
  if k % 4 = 0 then (cop .add p.1 v, p.2) else if k % 4 = 1 then (p.1, cop .add p.2 v) else if k % 4 = 2 then (cop .sub p.1 v, p.2) else (p.1, cop .sub p.2 v)

set_option maxHeartbeats 400000 in
theorem rsum_any (a : Option Addr) (cap : Nat) (xs : List Nat) (w : World) (h : FRow w a xs) : Calls Try.prog 33 #[.slice a xs.length cap] w fun e w' => e = .returned (.tuple #[.float .f64 (ws xs xs.length).1, .float .f64 (ws xs xs.length).2]) ∧ ∃ n, w' = w.drewN n := by
  obtain ⟨hm, hc⟩ := h
  have HC := Lib.hid hc; clear hc
  go_enter Try.func33, Try.ntmps33
  go_wp2_with fail
  go_loopw [4, 5, 6] (fun x y i wr => ∃ k : Nat, k ≤ xs.length ∧ i = .int .i64 k ∧ (∃ p q, x = .float .f64 p ∧ y = .float .f64 q ∧ canon p = (ws xs k).1 ∧ canon q = (ws xs k).2) ∧ ∃ n, wr = w.drewN n) (fun _ _ i _ => xs.length - (intOf i).toNat)
  case atStart => exact ⟨0, Nat.zero_le _, rfl, ⟨0, 0, rfl, rfl, canon_zero, canon_zero⟩, 0, rfl⟩
  case round =>
    obtain ⟨k, hk, rfl, ⟨p, q, rfl, rfl, hp, hq⟩, n, rfl⟩ := hrel
    have HP := Lib.hid hp; clear hp
    have HQ := Lib.hid hq; clear hq
    by_cases hlt : k < xs.length
    · obtain ⟨b, off, rfl, hcell⟩ := HC.out (by intro e; simp [e] at hlt)
      have hc0 : w.cell? ⟨b, off + k, none⟩ = some (.float .f64 (fx xs k)) := hcell k hlt
      clear hcell
      go_wp2_with fail
      all_goals
        go_roundw
        case rel =>
          refine ⟨k + 1, by omega, by go_num, ⟨_, _, rfl, rfl, ?_, ?_⟩, _, rfl⟩
          all_goals
            have hp := HP.out
            have hq := HQ.out
            go_light
            simp only [beq_iff_eq, beq_eq_false_iff_ne] at *
            simp only [canon_fop, ws, wstep, ← hp, ← hq]
            first
              | rw [if_pos (by omega)]
              | rw [if_neg (by omega), if_pos (by omega)]
              | rw [if_neg (by omega), if_neg (by omega), if_pos (by omega)]
              | rw [if_neg (by omega), if_neg (by omega), if_neg (by omega)]
            first | rfl | rw [cop_canon_l] | skip
        case measure => simp [intOf]; omega
    · obtain rfl : k = xs.length := by omega
      go_wp2_with (go_at_call 23; refine (rcanon_any _ _).mono ?_; rintro e w' ⟨rfl, rfl⟩)
      go_ret2
      refine ⟨?_, _, rfl⟩
      rw [← HP.out, ← HQ.out]
      rfl
end Go.Proofs.Ytidmbjgnkodiiaa
