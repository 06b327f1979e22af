/- The walk of WavePairs. -/
import Derived.Test.YtdhahnagnemgaaaWlaw
namespace Go.Proofs.Ytdhahnagnemgaaa
open Go.RowKit
set_option linter.unusedVariables false
set_option linter.unusedSimpArgs false

set_option maxHeartbeats 1000000 in
theorem wpairs_walk (a b c d : Nat) (m : Int) (w : World) (ha : a < 18446744073709551616) (hb : b < 18446744073709551616) (hc : c < 18446744073709551616) (hd : d < 18446744073709551616) (hm0 : -9223372036854775808 ≤ m) (hm1 : m ≤ 9223372036854775807) :
    Calls Try.prog 4 #[.int .u64 a, .int .u64 b, .int .u64 c, .int .u64 d, .int .i64 m] w fun e w' => e = .returned (.bool true) ∧ Below w.heap.size w w' := by
  go_enter Try.func4, Try.ntmps4
  go_wp2_with fail
  refine (known7 _).mono ?_
  rintro e w1 ⟨rfl, hb1⟩
  go_wp2_with fail
  refine (values_any (some ⟨w1.heap.size, 0, none⟩) _ [a, b, c, d] _ (URow.new w1 [a, b, c, d] _ _ rfl (by simp)) (by simp; omega)).mono ?_
  rintro e w2 ⟨a', cap', rfl, hrow, hb2⟩
  obtain ⟨_, hcell⟩ := hrow
  obtain ⟨blk, off, rfl, hcs⟩ := hcell (by simp)
  have hc0 : w2.cell? ⟨blk, off, none⟩ = some (.float .f64 a) := hcs 0 (by simp)
  have hc1 : w2.cell? ⟨blk, off + 1, none⟩ = some (.float .f64 b) := hcs 1 (by simp)
  have hc2 : w2.cell? ⟨blk, off + 2, none⟩ = some (.float .f64 c) := hcs 2 (by simp)
  have hc3 : w2.cell? ⟨blk, off + 3, none⟩ = some (.float .f64 d) := hcs 3 (by simp)
  clear hcs hcell
  go_wp2_with fail
  go_quiet (fail)
  go_wp2_with fail
  go_quiet (fail)
  go_wp2_with fail
  go_quiet ((go_at_call 19; refine qs (rturn_any _ _ _ _ ha hb hm0 hm1)))
  go_wp2_with fail
  go_quiet ((go_at_call 20; refine qd (rplus_any _ _ _ _ _)))
  go_wp2_with fail
  go_quiet (first
    | (go_at_call 17; refine qs (turn_any _ _ _ _ hm0 hm1))
    | (go_at_call 21; refine qs (like_self _ _ _))
    | (go_at_call 22; refine qd (wplus_any _ _ _ _ _))
    | (go_at_call 23; refine qs (wquarter_any _ _ _))
    | (go_at_call 24; refine qs (rquarter_any _ _ _)))
  go_wp2_with fail
  refine (mag_any _ _ _).mono ?_
  rintro e w' ⟨rfl, n, rfl⟩
  go_wp2_with fail
  go_quiet ((go_at_call 26; refine qd (rmag_any _ _ _)))
  have hg := call_bits
  go_wp2_with fail
  refine (wsame_self _ _ _).mono ?_
  rintro e w' ⟨rfl, rfl⟩
  go_wp2_with fail
  go_ret
  refine ⟨rfl, ?_⟩
  exact (hb1.trans ((Below.refl _ _).alloc hb1.size _)).trans ((hb2.mono (by have := hb1.size; simp; omega)).trans ⟨rfl, rfl, rfl, Nat.le_refl _, fun _ _ => rfl⟩)

theorem wavePairs_walk (a b c d m : Int) (w : World) (wa : (Lit.int .u64 a).wf = true) (wb : (Lit.int .u64 b).wf = true) (wc : (Lit.int .u64 c).wf = true) (wd : (Lit.int .u64 d).wf = true) (wm : (Lit.int .i64 m).wf = true) :
    Calls Try.prog 4 #[.int .u64 a, .int .u64 b, .int .u64 c, .int .u64 d, .int .i64 m] w fun e w' => e = .returned (.bool true) ∧ Below w.heap.size w w' := by
  obtain ⟨a, rfl, ha⟩ := u64_nat wa
  obtain ⟨b, rfl, hb⟩ := u64_nat wb
  obtain ⟨c, rfl, hc⟩ := u64_nat wc
  obtain ⟨d, rfl, hd⟩ := u64_nat wd
  exact wpairs_walk a b c d m w ha hb hc hd (i64_in wm).1 (i64_in wm).2
end Go.Proofs.Ytdhahnagnemgaaa
