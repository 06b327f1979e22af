/- The walk of WaveTurns. -/
import Derived.Test.YtdhahnagnemgaaaWlaw
namespace Go.Proofs.Ytdhahnagnemgaaa
open Go.RowKit
set_option linter.unusedVariables false
set_option linter.unusedSimpArgs false

theorem and3 (m : Int) : bits .and .i64 m 3 = m % 4 := by
  have h : ((BitVec.ofInt 64 m &&& BitVec.ofInt 64 3).toNat : Int) = m % 4 := by
    rw [BitVec.toNat_and, BitVec.toNat_ofInt, show (BitVec.ofInt 64 3).toNat = 2 ^ 2 - 1 from rfl, Nat.and_two_pow_sub_one_eq_mod]
    omega
  show IntKind.i64.wrap ((BitVec.ofInt 64 m &&& BitVec.ofInt 64 3).toNat : Int) = m % 4
  rw [h]
  exact IntWalk.i64_in _ (by omega)

theorem fneg_fneg (b : Nat) : fneg (fneg b) = b := by
  show (b ^^^ 2 ^ 63) ^^^ 2 ^ 63 = b
  rw [Nat.xor_assoc, Nat.xor_self, Nat.xor_zero]
theorem cneg2 (b : Nat) : canon (fneg (canon (fneg b))) = canon b := by rw [canon_fneg_canon, fneg_fneg]
theorem turn_canon (r i k : Nat) : canon (turn r i k).1 = (turn r i k).1 ∧ canon (turn r i k).2 = (turn r i k).2 := by
  cases k with
  | zero => exact ⟨canon_canon _, canon_canon _⟩
  | succ k => exact ⟨canon_canon _, canon_canon _⟩
theorem turn_turn (r i p q : Nat) : turn (turn r i p).1 (turn r i p).2 q = turn r i (p + q) := by
  induction q with
  | zero => show (canon (turn r i p).1, canon (turn r i p).2) = turn r i p; rw [(turn_canon r i p).1, (turn_canon r i p).2]
  | succ q ih => show rot _ = rot _; rw [ih]; rfl
theorem rot4 (r i k : Nat) : turn r i (k + 4) = turn r i k := by
  have h := turn_canon r i k
  show rot (rot (rot (rot (turn r i k)))) = turn r i k
  simp only [rot]
  rw [canon_canon, canon_canon, canon_fneg_canon, canon_fneg_canon, fneg_fneg, canon_fneg_canon, fneg_fneg, canon_canon, h.1, h.2]
theorem turn_mod (r i k : Nat) : turn r i k = turn r i (k % 4) := by
  induction k using Nat.strongRecOn with
  | ind k ih =>
    by_cases h : k < 4
    · rw [Nat.mod_eq_of_lt h]
    · obtain ⟨j, rfl⟩ : ∃ j, k = j + 4 := ⟨k - 4, by omega⟩
      rw [rot4, ih j (by omega), Nat.add_mod_right]

theorem wturns_walk (a b : Nat) (m n : Int) (w : World) (ha : a < 18446744073709551616) (hb : b < 18446744073709551616) (hm0 : -9223372036854775808 ≤ m) (hm1 : m ≤ 9223372036854775807) (hn0 : -9223372036854775808 ≤ n) (hn1 : n ≤ 9223372036854775807) :
    Calls Try.prog 3 #[.int .u64 a, .int .u64 b, .int .i64 m, .int .i64 n] w fun e w' => e = .returned (.bool true) ∧ Below w.heap.size w w' := by
  have e2 : turn (turn a b (m % 4).toNat).1 (turn a b (m % 4).toNat).2 (n % 4).toNat = turn a b ((m + n) % 4).toNat := by
    rw [turn_turn, turn_mod]; congr 1; omega
  have e3 : turn a b ((4 : Int) % 4).toNat = turn a b ((0 : Int) % 4).toNat := rfl
  have e4 : turn (turn a b (m % 4).toNat).1 (turn a b (m % 4).toNat).2 (-(m % 4) % 4).toNat = turn a b 0 := by
    rw [turn_turn, turn_mod]; congr 1; omega
  have E2 := Lib.hid e2
  have E4 := Lib.hid e4
  clear e2 e3 e4
  have b1 := and3 m
  have b2 := and3 n
  go_enter Try.func3, Try.ntmps3
  go_wp2_with fail
  refine (known7 _).mono ?_
  rintro e w1 ⟨rfl, hb1⟩
  go_wp2_with fail
  refine (values_any (some ⟨w1.heap.size, 0, none⟩) _ [a, b] _ (URow.new w1 [a, b] _ _ rfl (by simp)) (by simp; omega)).mono ?_
  rintro e w2 ⟨a', cap', rfl, hrow, hb2⟩
  obtain ⟨_, hcell⟩ := hrow
  obtain ⟨blk, off, rfl, hc⟩ := hcell (by simp)
  have hc0 : w2.cell? ⟨blk, off, none⟩ = some (.float .f64 a) := hc 0 (by simp)
  have hc1 : w2.cell? ⟨blk, off + 1, none⟩ = some (.float .f64 b) := hc 1 (by simp)
  clear hc hcell
  go_wp2_with fail
  go_quiet (fail)
  go_wp2_with fail
  refine (turn_any _ _ _ _ hm0 hm1).mono ?_
  rintro e w' ⟨rfl, rfl⟩
  go_wp2_with fail
  refine (turn_any _ _ _ _ hn0 hn1).mono ?_
  rintro e w' ⟨rfl, rfl⟩
  go_wp2_with fail
  refine (turn_any _ _ _ _ (by omega) (by omega)).mono ?_
  rintro e w' ⟨rfl, rfl⟩
  go_wp2_with fail
  rw [E2.out]
  refine (wsame_any _ _ _ _ _).mono ?_
  rw [fsame_refl, fsame_refl]
  rintro e w' ⟨rfl, rfl⟩
  go_wp2_with fail
  refine (turn_any _ _ _ _ (by omega) (by omega)).mono ?_
  rintro e w' ⟨rfl, rfl⟩
  go_wp2_with fail
  refine (turn_any _ _ _ _ (by omega) (by omega)).mono ?_
  rintro e w' ⟨rfl, rfl⟩
  go_wp2_with fail
  refine (wsame_any _ _ _ _ _).mono ?_
  rw [fsame_refl, fsame_refl]
  rintro e w' ⟨rfl, rfl⟩
  go_wp2_with fail
  refine (turn_any _ _ _ _ hm0 hm1).mono ?_
  rintro e w' ⟨rfl, rfl⟩
  go_wp2_with fail
  refine (turn_any _ _ _ _ (by omega) (by omega)).mono ?_
  rw [E4.out]
  rintro e w' ⟨rfl, rfl⟩
  go_wp2_with fail
  refine (turn_any _ _ _ _ (by omega) (by omega)).mono ?_
  rintro e w' ⟨rfl, rfl⟩
  go_wp2_with fail
  refine (wsame_any _ _ _ _ _).mono ?_
  rw [fsame_refl, fsame_refl]
  rintro e w' ⟨rfl, rfl⟩
  go_wp2_with fail
  go_ret
  refine ⟨rfl, ?_⟩
  exact (hb1.trans ((Below.refl _ _).alloc hb1.size _)).trans ((hb2.mono (by have := hb1.size; simp; omega)).trans ⟨rfl, rfl, rfl, Nat.le_refl _, fun _ _ => rfl⟩)

theorem waveTurns_walk (a b m n : Int) (w : World) (wa : (Lit.int .u64 a).wf = true) (wb : (Lit.int .u64 b).wf = true) (wm : (Lit.int .i64 m).wf = true) (wn : (Lit.int .i64 n).wf = true) :
    Calls Try.prog 3 #[.int .u64 a, .int .u64 b, .int .i64 m, .int .i64 n] w fun e w' => e = .returned (.bool true) ∧ Below w.heap.size w w' := by
  obtain ⟨x, rfl, hx⟩ := u64_nat wa
  obtain ⟨y, rfl, hy⟩ := u64_nat wb
  exact wturns_walk x y m n w hx hy (i64_in wm).1 (i64_in wm).2 (i64_in wn).1 (i64_in wn).2
end Go.Proofs.Ytdhahnagnemgaaa
