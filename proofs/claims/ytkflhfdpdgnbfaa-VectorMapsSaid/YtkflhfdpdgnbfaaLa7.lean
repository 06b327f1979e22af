/- Are labels a set: the document's Right. -/
import Derived.Test.YtkflhfdpdgnbfaaLa6
namespace Go.Proofs.Ytkflhfdpdgnbfaa
open Go.RowKit
set_option linter.unusedVariables false
set_option linter.unusedSimpArgs false
set_option maxRecDepth 100000
theorem rname_qs (s : ByteArray) (w : World) : Calls Try.prog 54 #[.string s] w fun e w' => e = .returned (.bool (nameB s)) ∧ w = w' := (rname_any s w).mono fun _ _ h => ⟨h.1, h.2.symm⟩
def prevN (cs : List Lb) : Nat → ByteArray
  | 0 => emptyS
  | k + 1 => (lx cs k).1
set_option maxHeartbeats 4000000 in
theorem rright_any (v : Value) (cs : List Lb) (w : World) (h : Sl lenc w v cs) :
    Calls Try.prog 33 #[v] w fun e w' => e = .returned (.bool (rightL cs)) ∧ ∃ n, w' = w.drewN n := by
  obtain ⟨a, cap, rfl, hlen, -, hc⟩ := h.split lenc_len
  have HC := Lib.hid hc
  clear hc h
  go_enter Try.func33, Try.ntmps33
  go_wp2_with fail
  go_loopw [3] (fun i wr => ∃ (k : Nat), k ≤ cs.length ∧ i = .int .i64 k ∧ Hid (rightFrom (prevN cs k) (cs.drop k) = rightFrom emptyS cs) ∧ ∃ n, wr = w.drewN n) (fun i _ => cs.length - (intOf i).toNat)
  case atStart => exact ⟨0, Nat.zero_le _, rfl, rfl, 0, rfl⟩
  case round =>
    obtain ⟨k, hk, rfl, HV, n, rfl⟩ := hrel
    by_cases hlt : k < cs.length
    · have hltz : (k : Int) < (cs.length : Int) := by omega
      have h00 : (0 : Int) ≤ (k : Int) := by omega
      obtain ⟨b, off, rfl, hk0, hk1⟩ := lab_cells HC.out (Below.refl _ _) (Nat.le_refl _) hlt
      have HD := Lib.hid (show cs.drop k = lx cs k :: cs.drop (k + 1) by rw [List.drop_eq_getElem_cons hlt]; simp [lx, hlt])
      have hno : (0 ≤ cmpS (prevN cs k) (lx cs k).1 ∨ nameB (lx cs k).1 = false ∨ (lx cs k).2.size = 0 ∨ 256 < (lx cs k).2.size) → rightL cs = false := fun h => by
        rw [rightL, ← HV.out, HD.out, rightFrom_no h]; rfl
      have HNO := Lib.hid hno
      have hgo : cmpS (prevN cs k) (lx cs k).1 < 0 → nameB (lx cs k).1 = true → 0 < (lx cs k).2.size → (lx cs k).2.size ≤ 256 → rightFrom (prevN cs (k + 1)) (cs.drop (k + 1)) = rightFrom emptyS cs := fun h1 h2 h3 h4 => by
        rw [← HV.out, HD.out, rightFrom_go h1 h2 h3 h4]; rfl
      have HGO := Lib.hid hgo
      clear hno hgo HD HV
      by_cases hn : nameB (lx cs k).1 = true
      · by_cases hz : (lx cs k).2.size = 0
        · have hz1 : (lx cs k).2.toList = [] := empty_of hz
          have hz2 : (lx cs k).2.toList.isEmpty = true := by simpa using hz1
          have HF : Hid (rightL cs = false) := HNO.out (.inr (.inr (.inl hz)))
          go_wp2_with fail
          go_quiet ((go_at_call 54; first | refine qs (rname_qs _ _) | refine quiet_same (rname_qs _ _)))
          go_wp2_with fail
          go_ret
          exact ⟨by rw [HF.out] <;> rfl, n + nq, by first | rfl | (simp only [World.drewN_drewN])⟩
        · have hz1 : ¬ (lx cs k).2.toList = [] := not_empty_of (by omega)
          have hz2 : (lx cs k).2.toList.isEmpty = false := by simpa using hz1
          by_cases hb : 256 < (lx cs k).2.size
          · have hb1 : (256 : Int) < ((lx cs k).2.size : Int) := by omega
            have hb2 : decide ((256 : Int) < ((lx cs k).2.size : Int)) = true := by simpa using hb1
            have HF : Hid (rightL cs = false) := HNO.out (.inr (.inr (.inr hb)))
            go_wp2_with fail
            go_quiet ((go_at_call 54; first | refine qs (rname_qs _ _) | refine quiet_same (rname_qs _ _)))
            go_wp2_with fail
            go_ret
            exact ⟨by rw [HF.out] <;> rfl, n + nq, by first | rfl | (simp only [World.drewN_drewN])⟩
          · have hb1 : ¬ (256 : Int) < ((lx cs k).2.size : Int) := by omega
            have hb2 : decide ((256 : Int) < ((lx cs k).2.size : Int)) = false := by simp only [decide_eq_false_iff_not]; exact hb1
            by_cases hk0' : k = 0
            · have hz3 : ¬ (0 : Int) < (k : Int) := by omega
              have hz4 : decide ((0 : Int) < (k : Int)) = false := by simp only [decide_eq_false_iff_not]; exact hz3
              have hz5 : decide (0 < k) = false := by simp; omega
              have HR := Lib.hid (HGO.out (by have h9 := name_size hn; subst hk0'; exact empty_less h9) hn (by omega) (by omega))
              clear hk0'
              go_wp2_with fail
              go_quiet ((go_at_call 54; first | refine qs (rname_qs _ _) | refine quiet_same (rname_qs _ _)))
              go_wp2_with fail
              go_roundw
              case rel => exact ⟨k + 1, by omega, by go_num, HR, n + nq, by first | rfl | (simp only [World.drewN_drewN])⟩
              case measure => simp [intOf]; omega
            · obtain ⟨m, rfl⟩ : ∃ m, k = m + 1 := ⟨k - 1, by omega⟩
              have hlt' : m < cs.length := by omega
              obtain ⟨b3, off3, e2, hp0, hp1⟩ := lab_cells HC.out (Below.refl _ _) (Nat.le_refl _) hlt'
              injection e2 with e2
              injection e2 with e2 e3
              subst e2 e3
              have hz3 : (0 : Int) < ((m : Int) + 1) := by omega
              have hz4 : decide ((0 : Int) < ((m : Int) + 1)) = true := decide_eq_true hz3
              have hm1 : (m : Int) < (cs.length : Int) := by omega
              have hm0 : (0 : Int) ≤ (m : Int) := by omega
              have hm2 : ((m : Int) + 1).toNat = m + 1 := by omega
              have hm3 : (0 : Int) ≤ (m : Int) + 1 := by omega
              have hm4 : (m : Int) + 1 < (cs.length : Int) := by omega
              have hm5 : IntKind.i64.wrap (m : Int) = (m : Int) := by rw [IntKind.wrap_i64]; omega
              have l1 := less_cmp (lx cs m).1 (lx cs (m + 1)).1
              by_cases hc : cmpS (lx cs m).1 (lx cs (m + 1)).1 = -1
              · rw [hc] at l1
                have l1' : Op.bytesLess (lx cs m).1.toList (lx cs (m + 1)).1.toList = true := l1
                have HR := Lib.hid (HGO.out (by show cmpS (lx cs m).1 _ < 0; omega) hn (by omega) (by omega))
                clear l1
                go_wp2_with fail
                go_quiet ((go_at_call 54; first | refine qs (rname_qs _ _) | refine quiet_same (rname_qs _ _)))
                go_wp2_with fail
                go_roundw
                case rel => exact ⟨m + 1 + 1, by omega, by go_num, HR, n + nq, by first | rfl | (simp only [World.drewN_drewN])⟩
                case measure => simp [intOf]; omega
              · have l1' : Op.bytesLess (lx cs m).1.toList (lx cs (m + 1)).1.toList = false := by rw [l1]; simpa using hc
                have HF : Hid (rightL cs = false) := HNO.out (.inl (by show 0 ≤ cmpS (lx cs m).1 _; rcases cmpS_cases (lx cs m).1 (lx cs (m + 1)).1 with h | h | h <;> omega))
                clear l1
                go_wp2_with fail
                go_quiet ((go_at_call 54; first | refine qs (rname_qs _ _) | refine quiet_same (rname_qs _ _)))
                go_wp2_with fail
                go_ret
                exact ⟨by rw [HF.out] <;> rfl, n + nq, by first | rfl | (simp only [World.drewN_drewN])⟩
      · have hn2 : nameB (lx cs k).1 = false := by simpa using hn
        have HF : Hid (rightL cs = false) := HNO.out (.inr (.inl hn2))
        go_wp2_with fail
        go_quiet ((go_at_call 54; first | refine qs (rname_qs _ _) | refine quiet_same (rname_qs _ _)))
        go_wp2_with fail
        go_ret
        exact ⟨by rw [HF.out] <;> rfl, n + nq, by first | rfl | (simp only [World.drewN_drewN])⟩
    · have hltz : ¬ (k : Int) < (cs.length : Int) := by omega
      have hd : cs.drop k = [] := List.drop_eq_nil_of_le (by omega)
      have HE := Lib.hid (show rightL cs = decide (cs.length ≤ 32) by rw [rightL, ← HV.out, hd]; rfl)
      clear hd
      go_wp2_with fail
      go_ret
      exact ⟨by rw [HE.out] <;> simp <;> omega, n, rfl⟩
end Go.Proofs.Ytkflhfdpdgnbfaa
