/- Whether two vectors are the same: the document's walk. -/
import Derived.Test.YtkflhfdpdgnbfaaVn3
namespace Go.Proofs.Ytkflhfdpdgnbfaa
open Go Go.RowKit
set_option linter.unusedVariables false
set_option linter.unusedSimpArgs false
set_option maxRecDepth 100000
def VSame (ps qs : List Pt) : Prop := ps.length = qs.length ∧ ∀ k (h : k < ps.length) (h2 : k < qs.length), cmpL ps[k].1 qs[k].1 = 0 ∧ fsame ps[k].2 qs[k].2 = true
noncomputable def vsameL (ps qs : List Pt) : Bool := @decide (VSame ps qs) (Classical.propDecidable _)
theorem vsame_no {ps qs : List Pt} (h : ¬ VSame ps qs) : vsameL ps qs = false := @decide_eq_false _ (Classical.propDecidable _) h
theorem vsame_yes {ps qs : List Pt} (h : VSame ps qs) : vsameL ps qs = true := @decide_eq_true _ (Classical.propDecidable _) h
set_option maxHeartbeats 4000000 in
theorem rvsame_any (v u : Value) (ps qs : List Pt) (w : World) (h : VS w v ps) (h' : VS w u qs) :
    Calls Try.prog 36 #[v, u] w fun e w' => e = .returned (.bool (vsameL ps qs)) ∧ ∃ n, w' = w.drewN n := by
  obtain ⟨a, cap, rfl, hlen, hc⟩ := h.split
  obtain ⟨a2, cap2, rfl, hlen2, hc2⟩ := h'.split
  have HC := Lib.hid hc
  have HC2 := Lib.hid hc2
  clear hc hc2 h h'
  by_cases hl : ps.length = qs.length
  · have HL := Lib.hid hl
    obtain ⟨N, hN⟩ : ∃ N, N = ps.length := ⟨_, rfl⟩
    have hN2 : N = qs.length := hN.trans hl
    have HN := Lib.hid hN
    have HN2 := Lib.hid hN2
    rw [← hN] at hlen ⊢
    rw [← hN2] at hlen2 ⊢
    clear hl hN hN2
    go_enter Try.func36, Try.ntmps36
    go_wp2_with fail
    go_loopw [5] (fun i wr => ∃ (k n : Nat), k ≤ N ∧ i = .int .i64 k ∧ Hid (∀ j (hj : j < ps.length) (hj2 : j < qs.length), j < k → cmpL ps[j].1 qs[j].1 = 0 ∧ fsame ps[j].2 qs[j].2 = true) ∧ wr = w.drewN n) (fun i _ => N - (intOf i).toNat)
    case atStart => exact ⟨0, 0, Nat.zero_le _, rfl, fun j _ _ hj => absurd hj (Nat.not_lt_zero _), rfl⟩
    case round =>
      obtain ⟨k, n, hk, rfl, HV, rfl⟩ := hrel
      have h00 : (0 : Int) ≤ (k : Int) := by omega
      by_cases hlt : k < N
      · have hltz : (k : Int) < (N : Int) := by omega
        have hp : k < ps.length := by rw [← HN.out]; exact hlt
        have hq : k < qs.length := by rw [← HN2.out]; exact hlt
        obtain ⟨b, off, lv, rfl, k0, k1, hsl⟩ := HC.out k hp
        obtain ⟨b2, off2, lv2, rfl, k2, k3, hsl2⟩ := HC2.out k hq
        have HFS := Lib.hid (fun m => rsame_any lv lv2 ps[k].1 qs[k].1 (w.drewN m) (hsl.below (below_drewN (Below.refl _ _) m) (Nat.le_refl _)) (hsl2.below (below_drewN (Below.refl _ _) m) (Nat.le_refl _)))
        have HFF := Lib.hid (fun m => rfsame_any ps[k].2 qs[k].2 (w.drewN m))
        clear hsl hsl2
        obtain ⟨c, hc⟩ : ∃ c, c = (cmpL ps[k].1 qs[k].1 == 0) := ⟨_, rfl⟩
        obtain ⟨f, hf⟩ : ∃ f, f = fsame ps[k].2 qs[k].2 := ⟨_, rfl⟩
        rw [← hc] at HFS
        rw [← hf] at HFF
        have HCC := Lib.hid hc
        have HCF := Lib.hid hf
        clear hc hf
        cases c with
        | false =>
          have HF := Lib.hid (vsame_no (ps := ps) (qs := qs) fun h => by
            have h1 := (h.2 k hp hq).1
            have h2 := HCC.out
            rw [h1] at h2
            cases h2)
          go_wp2_with fail
          go_quiet ((first | (go_at_call 63; refine qd (HFS.out _)) | (go_at_call 64; first | refine qs (HFF.out _) | refine quiet_same (HFF.out _) | exact (HFF.out _).mono fun _ _ ⟨he, hw⟩ => ⟨he, by rw [← hw]; exact ⟨_, rfl⟩⟩)))
          go_wp2_with fail
          go_ret
          exact ⟨by rw [HF.out] <;> rfl, _, World.drewN_drewN _ _ _⟩
        | true =>
          cases f with
          | false =>
            have HF := Lib.hid (vsame_no (ps := ps) (qs := qs) fun h => by
              have h1 := (h.2 k hp hq).2
              have h2 := HCF.out
              rw [h1] at h2
              cases h2)
            go_wp2_with fail
            go_quiet ((first | (go_at_call 63; refine qd (HFS.out _)) | (go_at_call 64; first | refine qs (HFF.out _) | refine quiet_same (HFF.out _) | exact (HFF.out _).mono fun _ _ ⟨he, hw⟩ => ⟨he, by rw [← hw]; exact ⟨_, rfl⟩⟩)))
            go_wp2_with fail
            go_ret
            exact ⟨by rw [HF.out] <;> rfl, _, World.drewN_drewN _ _ _⟩
          | true =>
            go_wp2_with fail
            go_quiet ((first | (go_at_call 63; refine qd (HFS.out _)) | (go_at_call 64; first | refine qs (HFF.out _) | refine quiet_same (HFF.out _) | exact (HFF.out _).mono fun _ _ ⟨he, hw⟩ => ⟨he, by rw [← hw]; exact ⟨_, rfl⟩⟩)))
            go_wp2_with fail
            go_roundw
            case rel => exact ⟨k + 1, _, by omega, by go_num, (fun j hj hj2 hj1 => by
              by_cases hjk : j = k
              · subst hjk
                exact ⟨by simpa using HCC.out.symm, HCF.out.symm⟩
              · exact HV.out j hj hj2 (by omega)), rfl⟩
            case measure => simp [intOf]; omega
      · have hltz : ¬ (k : Int) < (N : Int) := by omega
        have HF := Lib.hid (show vsameL ps qs = true from vsame_yes ⟨HL.out, fun j hj hj2 => HV.out j hj hj2 (by have := HN.out; omega)⟩)
        go_wp2_with fail
        go_ret
        exact ⟨by rw [HF.out] <;> rfl, n, rfl⟩
  · have HF := Lib.hid (vsame_no (ps := ps) (qs := qs) fun h => hl h.1)
    have hz : ¬ (ps.length : Int) = (qs.length : Int) := by omega
    have hzb : ((ps.length : Int) == (qs.length : Int)) = false := by simpa using hz
    have hzc : ((ps.length : Int) != (qs.length : Int)) = true := by simpa using hz
    go_enter Try.func36, Try.ntmps36
    go_wp2_with fail
    go_ret
    exact ⟨by rw [HF.out] <;> rfl, 0, rfl⟩
end Go.Proofs.Ytkflhfdpdgnbfaa
