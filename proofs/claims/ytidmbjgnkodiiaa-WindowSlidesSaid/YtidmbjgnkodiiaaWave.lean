/- Contracts of package wave and of its reference. -/
import Derived.Test.YtidmbjgnkodiiaaFlt
import Derived.Deep.Light
namespace Go.Proofs.Ytidmbjgnkodiiaa
open Go.RowKit
set_option linter.unusedVariables false
set_option linter.unusedSimpArgs false

theorem wcanon_any (r i : Nat) (w : World) : Calls Try.prog 52 #[.complex .f64 r i] w fun e w' => e = .returned (.complex .f64 (canon r) (canon i)) ∧ w = w' := by
  go_enter Try.func52, Try.ntmps52
  go_wp2_with (go_at_call 24; refine (canon_any _ _).mono ?_; rintro e w' ⟨rfl, rfl⟩)
  go_ret
  exact ⟨rfl, rfl⟩

theorem quarters_any (n : Int) (w : World) (h0 : -9223372036854775808 ≤ n) (h1 : n ≤ 9223372036854775807) : Calls Try.prog 51 #[.int .i64 n] w fun e w' => e = .returned (.int .i64 (n % 4)) ∧ w = w' := by
  go_enter Try.func51, Try.ntmps51
  go_wp2
  go_ret
  refine ⟨ret_i ?_, rfl⟩
  have e1 : n.tmod 4 = if 0 ≤ n then n % 4 else -((-n) % 4) := by
    split
    · exact Int.tmod_eq_emod_of_nonneg (by assumption)
    · rw [show n = -(-n) by omega, Int.neg_tmod, Int.tmod_eq_emod_of_nonneg (by omega)]; omega
  have e2 : wrap64 (n.tmod 4 + 4) = n.tmod 4 + 4 := by
    unfold wrap64; rw [e1]; split <;> omega
  have e3 : 0 ≤ n.tmod 4 + 4 := by rw [e1]; split <;> omega
  rw [e2, Int.tmod_eq_emod_of_nonneg e3, e1]
  split <;> omega

def rot (p : Nat × Nat) : Nat × Nat := (canon (fneg p.2), canon p.1)
def turn (r i : Nat) : Nat → Nat × Nat
  | 0 => (canon r, canon i)
  | k + 1 => rot (turn r i k)

def quarter (r i : Nat) : Int :=
  if fnan r || (fnan i || (fo r 0 == some .eq && fo i 0 == some .eq)) then 0
  else if fo r 0 == some .gt && (fo i 0 == some .gt || fo i 0 == some .eq) then 0
  else if fo i 0 == some .gt && (fo r 0 == some .lt || fo r 0 == some .eq) then 1
  else if fo r 0 == some .lt && (fo i 0 == some .lt || fo i 0 == some .eq) then 2 else 3

theorem wquarter_any (r i : Nat) (w : World) : Calls Try.prog 49 #[.complex .f64 r i] w fun e w' => e = .returned (.int .i64 (quarter r i)) ∧ w = w' := by
  go_enter Try.func49, Try.ntmps49
  go_wp2
  all_goals go_ret
  all_goals (refine ⟨ret_i ?_, rfl⟩; go_light; unfold quarter fnan fo; simp_all)

theorem rquarter_any (r i : Nat) (w : World) : Calls Try.prog 39 #[.float .f64 r, .float .f64 i] w fun e w' => e = .returned (.int .i64 (quarter r i)) ∧ w = w' := by
  go_enter Try.func39, Try.ntmps39
  go_wp2
  all_goals go_ret
  all_goals (refine ⟨ret_i ?_, rfl⟩; go_light; unfold quarter fnan fo; simp_all)

def mag (r i : Nat) : Nat := cop .add (cop .mul r r) (cop .mul i i)

theorem mag_any (r i : Nat) (w : World) : Calls Try.prog 47 #[.complex .f64 r i] w fun e w' => e = .returned (.float .f64 (mag r i)) ∧ ∃ n, w' = w.drewN n := by
  go_enter Try.func47, Try.ntmps47
  go_wp2_with (go_at_call 24; refine (canon_any _ _).mono ?_; rintro e w' ⟨rfl, rfl⟩)
  go_ret
  exact ⟨ret_f (by rw [canon_fop, cop_fop_l, cop_fop_r]; rfl), _, rfl⟩

theorem rmag_any (r i : Nat) (w : World) : Calls Try.prog 38 #[.float .f64 r, .float .f64 i] w fun e w' => e = .returned (.float .f64 (mag r i)) ∧ ∃ n, w' = w.drewN n := by
  go_enter Try.func38, Try.ntmps38
  go_wp2_with (go_at_call 23; refine (rcanon_any _ _).mono ?_; rintro e w' ⟨rfl, rfl⟩)
  go_ret
  exact ⟨ret_f (by rw [canon_fop, cop_fop_l, cop_fop_r]; rfl), _, rfl⟩

/-- One step of the turning sum. -/
def wstep (k : Nat) (p : Nat × Nat) (v : Nat) : Nat × Nat :=
  if k % 4 = 0 then (cop .add p.1 v, p.2) else if k % 4 = 1 then (p.1, cop .add p.2 v) else if k % 4 = 2 then (cop .sub p.1 v, p.2) else (p.1, cop .sub p.2 v)
/-- The turning sum of the first k. -/
def ws (xs : List Nat) : Nat → Nat × Nat
  | 0 => (0, 0)
  | k + 1 => wstep k (ws xs k) (fx xs k)
theorem canon_zero : canon 0 = 0 := by decide +kernel
theorem ws_canon (xs : List Nat) (k : Nat) : canon (ws xs k).1 = (ws xs k).1 ∧ canon (ws xs k).2 = (ws xs k).2 := by
  induction k with
  | zero => exact ⟨canon_zero, canon_zero⟩
  | succ k ih =>
    simp only [ws, wstep]
    split
    · exact ⟨canon_cop .., ih.2⟩
    · split
      · exact ⟨ih.1, canon_cop ..⟩
      · split
        · exact ⟨canon_cop .., ih.2⟩
        · exact ⟨ih.1, canon_cop ..⟩

set_option maxHeartbeats 400000 in
theorem wsum_any (a : Option Addr) (cap : Nat) (xs : List Nat) (w : World) (h : FRow w a xs) : Calls Try.prog 48 #[.slice a xs.length cap] w fun e w' => e = .returned (.complex .f64 (ws xs xs.length).1 (ws xs xs.length).2) ∧ ∃ n, w' = w.drewN n := by
  obtain ⟨hm, hc⟩ := h
  have HC := Lib.hid hc; clear hc
  go_enter Try.func48, Try.ntmps48
  go_wp2_with fail
  go_loopw [3, 10] (fun z i wr => ∃ k : Nat, k ≤ xs.length ∧ i = .int .i64 k ∧ z = .complex .f64 (ws xs k).1 (ws xs k).2 ∧ ∃ n, wr = w.drewN n) (fun _ i _ => xs.length - (intOf i).toNat)
  case atStart => exact ⟨0, Nat.zero_le _, rfl, rfl, 0, rfl⟩
  case round =>
    obtain ⟨k, hk, rfl, rfl, n, rfl⟩ := hrel
    have hwc := ws_canon xs k
    have HW := Lib.hid hwc; clear hwc
    by_cases hlt : k < xs.length
    · obtain ⟨b, off, rfl, hcell⟩ := HC.out (by intro e; simp [e] at hlt)
      have hc0 : w.cell? ⟨b, off + k, none⟩ = some (.float .f64 (fx xs k)) := hcell k hlt
      clear hcell
      have h4 : (k : Int) % 4 = ((k % 4 : Nat) : Int) := by omega
      have H4 := Lib.hid h4; clear h4
      go_wp2_with (first | (go_at_call 51; refine (quarters_any _ _ (by omega) (by omega)).mono ?_; rintro e w' ⟨rfl, rfl⟩) | (go_at_call 52; refine (wcanon_any _ _ _).mono ?_; rintro e w' ⟨rfl, rfl⟩))
      all_goals
        go_roundw
        case rel =>
          refine ⟨k + 1, by omega, by go_num, ?_, _, rfl⟩
          obtain ⟨hw1, hw2⟩ := HW.out
          go_light
          simp only [beq_iff_eq, beq_eq_false_iff_ne] at *
          simp only [canon_fop, hw1, hw2, ws, wstep]
          first
            | rw [if_pos (by omega)]
            | rw [if_neg (by omega), if_pos (by omega)]
            | rw [if_neg (by omega), if_neg (by omega), if_pos (by omega)]
            | rw [if_neg (by omega), if_neg (by omega), if_neg (by omega)]
        case measure => simp [intOf]; omega
    · obtain rfl : k = xs.length := by omega
      go_wp2
      go_ret
      exact ⟨rfl, _, rfl⟩

end Go.Proofs.Ytidmbjgnkodiiaa
