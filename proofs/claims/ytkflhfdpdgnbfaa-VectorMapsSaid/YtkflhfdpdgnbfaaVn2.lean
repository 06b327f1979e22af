/- Few points. -/
import Derived.Test.YtkflhfdpdgnbfaaVn1
namespace Go.Proofs.Ytkflhfdpdgnbfaa
open Go Go.RowKit
set_option linter.unusedVariables false
set_option linter.unusedSimpArgs false
set_option maxRecDepth 100000
def vfewL (ps : List Pt) : Bool := decide (ps.length ≤ 60) && ps.all fun p => fewL p.1
theorem vfew_no {ps : List Pt} {k : Nat} (h : k < ps.length) (h2 : fewL ps[k].1 = false) : vfewL ps = false := by
  have : (ps.all fun p => fewL p.1) = false := by
    rw [List.all_eq_false]
    exact ⟨_, List.getElem_mem h, by simpa using h2⟩
  unfold vfewL
  rw [this]
  simp
set_option maxHeartbeats 2000000 in
theorem vfew_any (v : Value) (ps : List Pt) (w : World) (h : VS w v ps) :
    Calls Try.prog 8 #[v] w fun e w' => e = .returned (.bool (vfewL ps)) ∧ w' = w := by
  obtain ⟨a, cap, rfl, hlen, hc⟩ := h.split
  have HC := Lib.hid hc
  clear hc h
  by_cases hb : 60 < ps.length
  · have hbz : (60 : Int) < (ps.length : Int) := by omega
    have HF := Lib.hid (show vfewL ps = false by unfold vfewL; rw [show decide (ps.length ≤ 60) = false from decide_eq_false (by omega)]; rfl)
    go_enter Try.func8, Try.ntmps8
    go_wp2_with fail
    go_ret
    exact ⟨by rw [HF.out] <;> rfl, rfl⟩
  · have hbz : ¬ (60 : Int) < (ps.length : Int) := by omega
    go_enter Try.func8, Try.ntmps8
    go_wp2_with fail
    go_loopw [3] (fun i wr => ∃ (k : Nat), k ≤ ps.length ∧ i = .int .i64 k ∧ Hid (∀ j (hj : j < ps.length), j < k → fewL ps[j].1 = true) ∧ wr = w) (fun i _ => ps.length - (intOf i).toNat)
    case atStart => exact ⟨0, Nat.zero_le _, rfl, fun j _ hj => absurd hj (Nat.not_lt_zero _), rfl⟩
    case round =>
      obtain ⟨k, hk, rfl, HV, rfl⟩ := hrel
      by_cases hlt : k < ps.length
      · have hltz : (k : Int) < (ps.length : Int) := by omega
        have h00 : (0 : Int) ≤ (k : Int) := by omega
        obtain ⟨b, off, lv, rfl, k0, k1, hsl⟩ := HC.out k hlt
        have HFW := Lib.hid (few_any lv ps[k].1 _ hsl)
        clear hsl
        go_wp2_with fail
        refine HFW.out.mono ?_
        by_cases hf : fewL ps[k].1 = true
        · rw [hf]
          rintro e w1 ⟨rfl, rfl⟩
          have HFF := Lib.hid hf
          clear hf HFW
          go_wp2_with fail
          go_roundw
          case rel => exact ⟨k + 1, by omega, by go_num, (fun j hj hjk => by
            by_cases hjk2 : j = k
            · subst hjk2; exact HFF.out
            · exact HV.out j hj (by omega)), by trivial⟩
          case measure => simp [intOf]; omega
        · have hf2 : fewL ps[k].1 = false := by simpa using hf
          have HF := Lib.hid (vfew_no hlt hf2)
          rw [hf2]
          rintro e w1 ⟨rfl, rfl⟩
          clear hf hf2 HFW
          go_wp2_with fail
          go_ret
          exact ⟨by rw [HF.out] <;> rfl, rfl⟩
      · have hltz : ¬ (k : Int) < (ps.length : Int) := by omega
        have HF := Lib.hid (show vfewL ps = true by
          unfold vfewL
          rw [Bool.and_eq_true, List.all_eq_true]
          refine ⟨decide_eq_true (by omega), fun p hp => ?_⟩
          obtain ⟨j, hj, rfl⟩ := List.mem_iff_getElem.1 hp
          exact HV.out j hj (by omega))
        go_wp2_with fail
        go_ret
        exact ⟨by rw [HF.out] <;> rfl, rfl⟩
end Go.Proofs.Ytkflhfdpdgnbfaa
