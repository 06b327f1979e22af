/- The guard Right of the laws of chapter 8. -/
import Derived.Test.YtidmbjgnkodiiaaWin8
import Derived.Deep.RegionLaw
import Derived.BigQuiet
namespace Go.Proofs.Ytidmbjgnkodiiaa
open Go.RowKit
set_option linter.unusedVariables false
set_option linter.unusedSimpArgs false
set_option maxRecDepth 100000

set_option maxHeartbeats 2000000 in
theorem right_any (v : Value) (l : List (Int × Nat)) (w : World) (h : Sl tenc w v l) :
    Calls Try.prog 5 #[v] w fun e w' => ∃ q, e = .returned (.bool q) ∧ (q = true → l.length ≤ 200) ∧ Below w.heap.size w w' := by
  obtain ⟨a, cap, rfl, hlen, -, hc⟩ := h.split tenc_len
  have HC := Lib.hid hc
  clear hc h
  by_cases hl : l.length ≤ 200
  · have hl2 : (l.length : Int) ≤ 200 := by omega
    go_enter Try.func5, Try.ntmps5
    go_wp2_with fail
    go_loopw [3] (fun i wr => ∃ (k : Nat), k ≤ l.length ∧ i = .int .i64 k ∧ Below w.heap.size w wr) (fun i _ => l.length - (intOf i).toNat)
    case atStart => exact ⟨0, Nat.zero_le _, rfl, Below.refl _ _⟩
    case round =>
      obtain ⟨k, hk, rfl, hb⟩ := hrel
      have HB := Lib.hid hb
      by_cases hlt : k < l.length
      · obtain ⟨b, off, rfl, hcc⟩ := HC.out k hlt
        obtain ⟨x, hx⟩ : ∃ x, x = l[k].1 := ⟨_, rfl⟩
        have k0 : wr.cell? ⟨b, off + k * 2, none⟩ = some (.int .i64 x) := by rw [hx]; exact cell_below hb (Nat.le_refl _) (hcc 0 _ rfl)
        clear hcc hx
        have hk0 : (0 : Int) ≤ (k : Int) := Int.natCast_nonneg _
        have hk1 : (k : Int) < (l.length : Int) := by omega
        by_cases c1 : x < -1125899906842624
        · clear hb
          go_wp2_with fail
          have q1 : decide (x < -1125899906842624) = true := by simp; omega
          clear c1
          go_big_quiet (fail)
          go_wp2_with fail
          go_ret
          exact ⟨_, rfl, fun _ => hl, below_drewN HB.out _⟩
        · by_cases c2 : 1125899906842624 < x
          · clear hb
            go_wp2_with fail
            have q1 : decide (x < -1125899906842624) = false := by simp; omega
            have q2 : decide (1125899906842624 < x) = true := by simp; omega
            clear c1 c2
            go_big_quiet (fail)
            go_wp2_with fail
            go_ret
            exact ⟨_, rfl, fun _ => hl, below_drewN HB.out _⟩
          · by_cases hz : k = 0
            · clear hb
              have q3 : decide ((0 : Int) < (k : Int)) = false := by simp; omega
              have Q3 := Lib.hid q3
              have q5 : decide (0 < k) = false := by simp; omega
              have Q5 := Lib.hid q5
              clear q3 q5 hz
              go_wp2_with fail
              have q1 : decide (x < -1125899906842624) = false := by simp; omega
              have q2 : decide (1125899906842624 < x) = false := by simp; omega
              have q3 := Q3.out
              have q5 := Q5.out
              clear c1 c2
              go_big_quiet (fail)
              go_wp2_with fail
              go_roundw
              case rel => exact ⟨k + 1, by omega, by go_num, below_drewN HB.out _⟩
              case measure => simp [intOf]; omega
            · obtain ⟨m, rfl⟩ : ∃ m, k = m + 1 := ⟨k - 1, by omega⟩
              clear hz
              obtain ⟨b', off', e2, hcc⟩ := HC.out m (by omega)
              injection e2 with e2
              injection e2 with e2 e3
              subst e2 e3
              obtain ⟨p, hp⟩ : ∃ p, p = (l[m]'(by omega)).1 := ⟨_, rfl⟩
              have p0 : wr.cell? ⟨b, off + m * 2, none⟩ = some (.int .i64 p) := by rw [hp]; exact cell_below hb (Nat.le_refl _) (hcc 0 _ rfl)
              clear hcc hp hb
              have hm0 : (0 : Int) ≤ (m : Int) := Int.natCast_nonneg _
              have hm1 : (m : Int) < (l.length : Int) := by omega
              have hk4 : IntKind.i64.wrap (m : Int) = (m : Int) := IntWalk.i64_in _ (by omega)
              have hm2 : (0 : Int) < (m : Int) + 1 := by omega
              by_cases c3 : x ≤ p
              · have b3 : decide (x ≤ p) = true := by simpa using c3
                go_wp2_with fail
                have q1 : decide (x < -1125899906842624) = false := by simp; omega
                have q2 : decide (1125899906842624 < x) = false := by simp; omega
                have q3 : decide ((0 : Int) < (m : Int) + 1) = true := decide_eq_true (by omega)
                have q4 : decide (x ≤ p) = true := by simp; omega
                clear c1 c2 c3
                go_big_quiet (fail)
                go_wp2_with fail
                go_ret
                exact ⟨_, rfl, fun _ => hl, below_drewN HB.out _⟩
              · have b3 : decide (x ≤ p) = false := by simpa using c3
                go_wp2_with fail
                have q1 : decide (x < -1125899906842624) = false := by simp; omega
                have q2 : decide (1125899906842624 < x) = false := by simp; omega
                have q3 : decide ((0 : Int) < (m : Int) + 1) = true := decide_eq_true (by omega)
                have q4 : decide (x ≤ p) = false := by simp; omega
                clear c1 c2 c3
                go_big_quiet (fail)
                go_wp2_with fail
                go_roundw
                case rel => exact ⟨m + 2, by omega, by go_num, below_drewN HB.out _⟩
                case measure => simp [intOf]; omega
      · obtain rfl : k = l.length := by omega
        go_wp2_with fail
        go_ret
        exact ⟨_, rfl, fun _ => hl, HB.out⟩
  · have hl2 : (200 : Int) < l.length := by omega
    go_enter Try.func5, Try.ntmps5
    go_wp2_with fail
    go_ret
    refine ⟨false, rfl, ?_, Below.refl _ _⟩
    intro e; cases e
end Go.Proofs.Ytidmbjgnkodiiaa
