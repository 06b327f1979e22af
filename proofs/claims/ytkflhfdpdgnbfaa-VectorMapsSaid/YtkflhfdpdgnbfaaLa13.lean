/- The guards of chapter 3's laws: Few, names. -/
import Derived.Test.YtkflhfdpdgnbfaaLa12
namespace Go.Proofs.Ytkflhfdpdgnbfaa
open Go.RowKit
set_option linter.unusedVariables false
set_option linter.unusedSimpArgs false
set_option maxRecDepth 100000
def fewL (cs : List Lb) : Bool := decide (cs.length ≤ 80) && cs.all fun x => decide (x.1.size ≤ 400) && decide (x.2.size ≤ 2000)
theorem few_no {cs : List Lb} {k : Nat} (h : k < cs.length) (h2 : 400 < (lx cs k).1.size ∨ 2000 < (lx cs k).2.size) : fewL cs = false := by
  have : (cs.all fun x => decide (x.1.size ≤ 400) && decide (x.2.size ≤ 2000)) = false := by
    rw [List.all_eq_false]
    refine ⟨cs[k], List.getElem_mem h, ?_⟩
    rw [lx_at h] at h2
    simp
    omega
  rw [fewL, this, Bool.and_false]
theorem few_len {cs : List Lb} (h : fewL cs = true) : cs.length ≤ 80 := by
  unfold fewL at h
  rw [Bool.and_eq_true] at h
  exact of_decide_eq_true h.1
theorem few_yes {cs : List Lb} (h : cs.length ≤ 80) (h2 : ∀ j, j < cs.length → (lx cs j).1.size ≤ 400 ∧ (lx cs j).2.size ≤ 2000) : fewL cs = true := by
  unfold fewL
  rw [Bool.and_eq_true]
  refine ⟨decide_eq_true h, ?_⟩
  rw [List.all_eq_true]
  intro x hx
  obtain ⟨j, hj, rfl⟩ := List.getElem_of_mem hx
  have := h2 j hj
  rw [lx_at hj] at this
  simp [this]
set_option maxHeartbeats 2000000 in
theorem few_any (v : Value) (cs : List Lb) (w : World) (h : Sl lenc w v cs) :
    Calls Try.prog 26 #[v] w fun e w' => e = .returned (.bool (fewL cs)) ∧ w' = w := by
  obtain ⟨a, cap, rfl, hlen, -, hc⟩ := h.split lenc_len
  have HC := Lib.hid hc
  clear hc h
  by_cases hb : 80 < cs.length
  · have hbz : (80 : Int) < (cs.length : Int) := by omega
    have HF := Lib.hid (show fewL cs = false by unfold fewL; rw [show decide (cs.length ≤ 80) = false from decide_eq_false (by omega)]; rfl)
    go_enter Try.func26, Try.ntmps26
    go_wp2_with fail
    go_ret
    exact ⟨by rw [HF.out] <;> rfl, rfl⟩
  · have hbz : ¬ (80 : Int) < (cs.length : Int) := by omega
    go_enter Try.func26, Try.ntmps26
    go_wp2_with fail
    go_loopw [3] (fun i wr => ∃ (k : Nat), k ≤ cs.length ∧ i = .int .i64 k ∧ Hid (∀ j, j < k → (lx cs j).1.size ≤ 400 ∧ (lx cs j).2.size ≤ 2000) ∧ wr = w) (fun i _ => cs.length - (intOf i).toNat)
    case atStart => exact ⟨0, Nat.zero_le _, rfl, fun j hj => absurd hj (Nat.not_lt_zero _), rfl⟩
    case round =>
      obtain ⟨k, hk, rfl, HV, rfl⟩ := hrel
      by_cases hlt : k < cs.length
      · have hltz : (k : Int) < (cs.length : Int) := by omega
        have h00 : (0 : Int) ≤ (k : Int) := by omega
        obtain ⟨b, off, rfl, k0, k1⟩ := lab_cells HC.out (Below.refl _ _) (Nat.le_refl _) hlt
        by_cases h1 : 400 < (lx cs k).1.size
        · have HF := Lib.hid (few_no hlt (.inl h1))
          have h1z : (400 : Int) < ((lx cs k).1.size : Int) := by omega
          have h1b : decide ((400 : Int) < ((lx cs k).1.size : Int)) = true := decide_eq_true h1z
          go_wp2_with fail
          go_ret
          exact ⟨by rw [HF.out] <;> rfl, rfl⟩
        · have h1z : ¬ (400 : Int) < ((lx cs k).1.size : Int) := by omega
          have h1b : decide ((400 : Int) < ((lx cs k).1.size : Int)) = false := decide_eq_false h1z
          by_cases h2 : 2000 < (lx cs k).2.size
          · have HF := Lib.hid (few_no hlt (.inr h2))
            have h2z : (2000 : Int) < ((lx cs k).2.size : Int) := by omega
            have h2b : decide ((2000 : Int) < ((lx cs k).2.size : Int)) = true := decide_eq_true h2z
            go_wp2_with fail
            go_ret
            exact ⟨by rw [HF.out] <;> rfl, rfl⟩
          · have h2z : ¬ (2000 : Int) < ((lx cs k).2.size : Int) := by omega
            have h2b : decide ((2000 : Int) < ((lx cs k).2.size : Int)) = false := decide_eq_false h2z
            go_wp2_with fail
            go_roundw
            case rel => exact ⟨k + 1, by omega, by go_num, (fun j hj => by
              by_cases hjk : j = k
              · subst hjk; omega
              · exact HV.out j (by omega)), by trivial⟩
            case measure => simp [intOf]; omega
      · have hltz : ¬ (k : Int) < (cs.length : Int) := by omega
        have HF := Lib.hid (few_yes (by omega) (fun j hj => HV.out j (by omega)))
        go_wp2_with fail
        go_ret
        exact ⟨by rw [HF.out] <;> rfl, rfl⟩
end Go.Proofs.Ytkflhfdpdgnbfaa
