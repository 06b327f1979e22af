/- Whether points are a vector: the document's walk. -/
import Derived.Test.YtkflhfdpdgnbfaaVn2
namespace Go.Proofs.Ytkflhfdpdgnbfaa
open Go Go.RowKit
set_option linter.unusedVariables false
set_option linter.unusedSimpArgs false
set_option maxRecDepth 100000
def VRight (ps : List Pt) : Prop := ∀ k (h : k < ps.length), rightL ps[k].1 = true ∧ (0 < k → cmpL (ps[k - 1]'(by omega)).1 ps[k].1 < 0)
noncomputable def vrightL (ps : List Pt) : Bool := @decide (VRight ps) (Classical.propDecidable _)
theorem vright_no {ps : List Pt} {k : Nat} (h : k < ps.length) (h2 : rightL ps[k].1 = false ∨ (0 < k ∧ ¬ cmpL (ps[k - 1]'(by omega)).1 ps[k].1 < 0)) : vrightL ps = false := by
  unfold vrightL
  refine @decide_eq_false _ (Classical.propDecidable _) fun hv => ?_
  obtain ⟨a, b⟩ := hv k h
  rcases h2 with h2 | ⟨h2, h3⟩
  · rw [a] at h2; cases h2
  · exact h3 (b h2)
theorem vright_yes {ps : List Pt} (h : VRight ps) : vrightL ps = true := @decide_eq_true _ (Classical.propDecidable _) h
set_option maxHeartbeats 4000000 in
theorem rvright_any (v : Value) (ps : List Pt) (w : World) (h : VS w v ps) :
    Calls Try.prog 13 #[v] w fun e w' => e = .returned (.bool (vrightL ps)) ∧ ∃ n, w' = w.drewN n := by
  obtain ⟨a, cap, rfl, hlen, hc⟩ := h.split
  have HC := Lib.hid hc
  clear hc h
  go_enter Try.func13, Try.ntmps13
  go_wp2_with fail
  go_loopw [3] (fun i wr => ∃ (k n : Nat), k ≤ ps.length ∧ i = .int .i64 k ∧ Hid (∀ j (hj : j < ps.length), j < k → rightL ps[j].1 = true ∧ (0 < j → cmpL (ps[j - 1]'(by omega)).1 ps[j].1 < 0)) ∧ wr = w.drewN n) (fun i _ => ps.length - (intOf i).toNat)
  case atStart => exact ⟨0, 0, Nat.zero_le _, rfl, fun j _ hj => absurd hj (Nat.not_lt_zero _), rfl⟩
  case round =>
    obtain ⟨k, n, hk, rfl, HV, rfl⟩ := hrel
    have h00 : (0 : Int) ≤ (k : Int) := by omega
    by_cases hlt : k < ps.length
    · have hltz : (k : Int) < (ps.length : Int) := by omega
      obtain ⟨b, off, lv, rfl, k0, k1, hsl⟩ := HC.out k hlt
      have HFR := Lib.hid (fun m => rright_any lv ps[k].1 (w.drewN m) (hsl.below (below_drewN (Below.refl _ _) m) (Nat.le_refl _)))
      obtain ⟨rk, hrk⟩ : ∃ r, r = rightL ps[k].1 := ⟨_, rfl⟩
      rw [← hrk] at HFR
      have HSL := Lib.hid hsl
      clear hsl
      cases rk with
      | false =>
        have HF := Lib.hid (vright_no hlt (.inl hrk.symm))
        clear hrk
        go_wp2_with fail
        go_quiet ((go_at_call 33; refine qd (HFR.out _)))
        go_wp2_with fail
        go_ret
        exact ⟨by rw [HF.out] <;> rfl, _, World.drewN_drewN _ _ _⟩
      | true =>
        have HRK := Lib.hid hrk.symm
        clear hrk
        by_cases hk0 : k = 0
        · have HK0 := Lib.hid hk0
          have hkz : ¬ (0 : Int) < (k : Int) := by omega
          clear hk0
          go_wp2_with fail
          have hk0 := HK0.out
          have hkb : decide ((0 : Int) < (k : Int)) = false := decide_eq_false (by omega)
          have hkn : decide (0 < k) = false := decide_eq_false (by omega)
          clear hkz hk0
          go_quiet ((go_at_call 33; refine qd (HFR.out _)))
          go_wp2_with fail
          go_roundw
          case rel => exact ⟨k + 1, _, by omega, by go_num, (fun j hj hj1 => by
            by_cases hjk : j = k
            · subst hjk; exact ⟨HRK.out, fun h => absurd h (by have := HK0.out; omega)⟩
            · exact HV.out j hj (by omega)), rfl⟩
          case measure => simp [intOf]; omega
        · have hkz : (0 : Int) < (k : Int) := by omega
          have hkb : decide ((0 : Int) < (k : Int)) = true := decide_eq_true hkz
          have hkn : decide (0 < k) = true := decide_eq_true (by omega)
          obtain ⟨m, hmk⟩ : ∃ m, k = m + 1 := ⟨k - 1, by omega⟩
          have hm1 : m < ps.length := by omega
          obtain ⟨b', off', lv', hbb, k0', k1', hsl'⟩ := HC.out m hm1
          injection hbb with hbb
          injection hbb with hbb1 hbb2
          subst hbb1 hbb2
          obtain ⟨cc, hcc⟩ : ∃ c, c = cmpL ps[m].1 ps[k].1 := ⟨_, rfl⟩
          have HCP := Lib.hid (fun q => rcompare_any lv' lv ps[m].1 ps[k].1 (w.drewN q) (hsl'.below (below_drewN (Below.refl _ _) q) (Nat.le_refl _)) (HSL.out.below (below_drewN (Below.refl _ _) q) (Nat.le_refl _)))
          rw [← hcc] at HCP
          have hmz0 : (0 : Int) ≤ (m : Int) := by omega
          have hmz : (m : Int) < (ps.length : Int) := by omega
          have hw : IntKind.i64.wrap ((k : Int) - 1) = (m : Int) := by rw [IntKind.wrap_i64] <;> omega
          have HCC := Lib.hid hcc
          have HMK := Lib.hid hmk
          clear hcc hmk hk0 hsl'
          by_cases hneg : cc < 0
          · have HN := Lib.hid hneg
            go_wp2_with fail
            have hcb : decide ((0 : Int) ≤ cc) = false := decide_eq_false (by have := HN.out; omega)
            clear hneg
            go_quiet ((first | (go_at_call 33; refine qd (HFR.out _)) | (go_at_call 34; refine qd (HCP.out _))))
            go_wp2_with fail
            go_roundw
            case rel => exact ⟨k + 1, _, by omega, by go_num, (fun j hj hj1 => by
              by_cases hjk : j = k
              · subst hjk
                refine ⟨HRK.out, fun _ => ?_⟩
                have h1 := HN.out
                rw [HCC.out] at h1
                have h2 := HMK.out
                subst h2
                exact h1
              · exact HV.out j hj (by omega)), rfl⟩
            case measure => simp [intOf]; omega
          · have HF := Lib.hid (show vrightL ps = false from vright_no hlt (.inr ⟨by omega, by
              rw [HCC.out] at hneg
              have h2 := HMK.out
              subst h2
              exact hneg⟩))
            go_wp2_with fail
            have hcb : decide ((0 : Int) ≤ cc) = true := decide_eq_true (by omega)
            clear hneg
            go_quiet ((first | (go_at_call 33; refine qd (HFR.out _)) | (go_at_call 34; refine qd (HCP.out _))))
            go_wp2_with fail
            go_ret
            exact ⟨by rw [HF.out] <;> rfl, _, World.drewN_drewN _ _ _⟩
    · have hltz : ¬ (k : Int) < (ps.length : Int) := by omega
      have HF := Lib.hid (show vrightL ps = true from vright_yes fun j hj => HV.out j hj (by omega))
      go_wp2_with fail
      go_ret
      exact ⟨by rw [HF.out] <;> rfl, n, rfl⟩
end Go.Proofs.Ytkflhfdpdgnbfaa
