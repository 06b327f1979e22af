/- Are labels a set: the code's Right, the document's. -/
import Derived.Test.YtkflhfdpdgnbfaaLa5
namespace Go.Proofs.Ytkflhfdpdgnbfaa
open Go.RowKit
set_option linter.unusedVariables false
set_option linter.unusedSimpArgs false
set_option maxRecDepth 100000
def emptyS : ByteArray := ⟨#[]⟩
def labOk (x : Lb) : Bool := nameB x.1 && decide (0 < x.2.size) && decide (x.2.size ≤ 256)
def rightFrom (last : ByteArray) : List Lb → Bool
  | [] => true
  | x :: r => decide (cmpS last x.1 < 0) && labOk x && rightFrom x.1 r
def rightL (cs : List Lb) : Bool := rightFrom emptyS cs && decide (cs.length ≤ 32)
theorem less_cmp (a b : ByteArray) : Op.bytesLess a.toList b.toList = decide (cmpS a b = -1) := by rw [ByteArray.toList_eq, ByteArray.toList_eq]; exact cb_less _ _
theorem beq_cmp (a b : ByteArray) : (a.toList == b.toList) = decide (cmpS a b = 0) := by
  rw [ByteArray.toList_eq, ByteArray.toList_eq, Bool.eq_iff_iff]
  simp [cmpS, cb_eq]
theorem cmpS_cases (a b : ByteArray) : cmpS a b = -1 ∨ cmpS a b = 0 ∨ cmpS a b = 1 := cb_cases _ _
theorem empty_less {s : ByteArray} (h : 0 < s.size) : cmpS emptyS s < 0 := by
  rcases cmpS_cases emptyS s with h1 | h1 | h1
  · omega
  · have := (cmpS_eq _ _).1 h1
    rw [← this] at h
    exact absurd h (by decide)
  · exfalso
    unfold cmpS emptyS at h1
    cases hs : s.data.toList with
    | nil => rw [hs] at h1; simp [Lib.compareBytes] at h1
    | cons x r => rw [hs] at h1; simp [Lib.compareBytes] at h1
theorem name_size {s : ByteArray} (h : nameB s = true) : 0 < s.size := by
  unfold nameB at h
  simp only [Bool.and_eq_true, decide_eq_true_eq] at h
  exact h.1.1.1
theorem rightFrom_no {last : ByteArray} {x : Lb} {r : List Lb} (h : 0 ≤ cmpS last x.1 ∨ nameB x.1 = false ∨ x.2.size = 0 ∨ 256 < x.2.size) : rightFrom last (x :: r) = false := by
  unfold rightFrom labOk
  rcases h with h | h | h | h
  · rw [decide_eq_false (by omega)]; rfl
  · rw [h]; simp
  · simp [h]
  · rw [show decide (x.2.size ≤ 256) = false from decide_eq_false (by omega)]; simp
theorem rightFrom_go {last : ByteArray} {x : Lb} {r : List Lb} (h1 : cmpS last x.1 < 0) (h2 : nameB x.1 = true) (h3 : 0 < x.2.size) (h4 : x.2.size ≤ 256) : rightFrom last (x :: r) = rightFrom x.1 r := by
  rw [rightFrom, labOk]
  simp [h1, h2, h3, h4]
set_option maxHeartbeats 4000000 in
theorem right_any (v : Value) (cs : List Lb) (w : World) (h : Sl lenc w v cs) :
    Calls Try.prog 27 #[v] w fun e w' => e = .returned (.bool (rightL cs)) ∧ Grew w w' := by
  obtain ⟨a, cap, rfl, hlen, -, hc⟩ := h.split lenc_len
  have HC := Lib.hid hc
  clear hc h
  go_enter Try.func27, Try.ntmps27
  go_wp2_with fail
  go_loopw [3, 8] (fun lv i wr => ∃ (k : Nat) (last : ByteArray), lv = .string last ∧ k ≤ cs.length ∧ i = .int .i64 k ∧ Hid (rightFrom last (cs.drop k) = rightFrom emptyS cs) ∧ Hid (Grew w wr)) (fun _ i _ => cs.length - (intOf i).toNat)
  case atStart => exact ⟨0, emptyS, rfl, Nat.zero_le _, rfl, rfl, Grew.refl _⟩
  case round =>
    obtain ⟨k, last, rfl, hk, rfl, HV, HG⟩ := hrel
    by_cases hlt : k < cs.length
    · have hltz : (k : Int) < (cs.length : Int) := by omega
      obtain ⟨b, off, rfl, hk0, hk1⟩ := lab_cells HC.out HG.out.below (Nat.le_refl _) hlt
      have HD := Lib.hid (show cs.drop k = lx cs k :: cs.drop (k + 1) by rw [List.drop_eq_getElem_cons hlt]; simp [lx, hlt])
      have hno : (0 ≤ cmpS last (lx cs k).1 ∨ nameB (lx cs k).1 = false ∨ (lx cs k).2.size = 0 ∨ 256 < (lx cs k).2.size) → rightL cs = false := fun h => by
        rw [rightL, ← HV.out, HD.out, rightFrom_no h]; rfl
      have HNO := Lib.hid hno
      clear hno
      obtain ⟨x, hx⟩ : ∃ x, x = lx cs k := ⟨_, rfl⟩
      rw [← hx] at hk0 hk1 HD HNO
      clear hx
      have l1 := less_cmp x.1 last
      have l2 := beq_cmp x.1 last
      have l3 := cmpS_neg last x.1
      by_cases hle : cmpS x.1 last ≤ 0
      · have HF : Hid (rightL cs = false) := HNO.out (.inl (by omega))
        rcases cmpS_cases x.1 last with hc | hc | hc
        · rw [hc] at l1 l2
          have l1' : Op.bytesLess x.1.toList last.toList = true := l1
          have l2' : (x.1.toList == last.toList) = false := l2
          clear l1 l2
          go_wp2_with fail
          go_ret
          exact ⟨by rw [HF.out] <;> rfl, HG.out.alloc _⟩
        · rw [hc] at l1 l2
          have l1' : Op.bytesLess x.1.toList last.toList = false := l1
          have l2' : (x.1.toList == last.toList) = true := l2
          clear l1 l2
          go_wp2_with fail
          all_goals go_ret
          all_goals exact ⟨by rw [HF.out] <;> rfl, HG.out.alloc _⟩
        · omega
      · have hc : cmpS x.1 last = 1 := by rcases cmpS_cases x.1 last with h | h | h <;> omega
        rw [hc] at l1 l2
        have l1' : Op.bytesLess x.1.toList last.toList = false := l1
        have l2' : (x.1.toList == last.toList) = false := l2
        clear l1 l2
        go_wp2_with fail
        refine (name_any _ _).mono ?_
        rintro e w1 ⟨rfl, rfl⟩
        have hl1 : cmpS last x.1 < 0 := by omega
        by_cases hn : nameB x.1 = true
        · by_cases hz : x.2.size = 0
          · have hz1 : x.2.toList = [] := empty_of hz
            have HF : Hid (rightL cs = false) := HNO.out (.inr (.inr (.inl hz)))
            go_wp2_with fail
            go_ret
            exact ⟨by rw [HF.out] <;> rfl, HG.out.alloc _⟩
          · have hz1 : ¬ x.2.toList = [] := not_empty_of (by omega)
            have hz2 : x.2.toList.isEmpty = false := by simpa using hz1
            by_cases hb : 256 < x.2.size
            · have hb1 : (256 : Int) < (x.2.size : Int) := by omega
              have hb2 : decide ((256 : Int) < (x.2.size : Int)) = true := by simpa using hb1
              have HF : Hid (rightL cs = false) := HNO.out (.inr (.inr (.inr hb)))
              go_wp2_with fail
              go_ret
              exact ⟨by rw [HF.out] <;> rfl, HG.out.alloc _⟩
            · have hb1 : ¬ (256 : Int) < (x.2.size : Int) := by omega
              have hb2 : decide ((256 : Int) < (x.2.size : Int)) = false := by simp only [decide_eq_false_iff_not]; exact hb1
              go_wp2_with fail
              go_roundw
              case rel => exact ⟨k + 1, x.1, rfl, by omega, by go_num, by show _ = _; rw [← HV.out, HD.out, rightFrom_go hl1 hn (by omega) (by omega)], HG.out.alloc _⟩
              case measure => simp [intOf]; omega
        · have hn2 : nameB x.1 = false := by simpa using hn
          have HF : Hid (rightL cs = false) := HNO.out (.inr (.inl hn2))
          go_wp2_with fail
          go_ret
          exact ⟨by rw [HF.out] <;> rfl, HG.out.alloc _⟩
    · have hltz : ¬ (k : Int) < (cs.length : Int) := by omega
      have hd : cs.drop k = [] := List.drop_eq_nil_of_le (by omega)
      have HE := Lib.hid (show rightL cs = decide (cs.length ≤ 32) by rw [rightL, ← HV.out, hd]; rfl)
      clear hd
      go_wp2_with fail
      go_ret
      exact ⟨by rw [HE.out] <;> simp <;> omega, HG.out⟩
end Go.Proofs.Ytkflhfdpdgnbfaa
