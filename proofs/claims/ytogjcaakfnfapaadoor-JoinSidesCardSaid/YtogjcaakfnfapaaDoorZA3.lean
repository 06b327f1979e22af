/- Are labels a set: the code's Right, the document's. Are labels a set: the document's Right. Names among some: Has, Contains. Labels whose names are among some, or are not: pick. A list's copy: slices.Clone. The library's stable sort, in plain words: what exchanges of ranges, rotations and merges make of a row. A row of one's own, sorted in its place: how it is met and how it is read behind. Labels, sorted by their names. labels.Set. (Several texts in one file, by merge.py.) -/
import Derived.Test.YtogjcaakfnfapaaDoorZA2
import Derived.OwnWalk
import Derived.Test.YtogjcaakfnfapaaDoorZA1
import Derived.Shelf.SlSortCmp.KitK
import Derived.Sort.LotA
import Derived.Sort.LotD2
import Derived.Laws.OwnMore
namespace Go.Proofs.YtogjcaakfnfapaaDoor
open Go.RowKit
set_option linter.unusedVariables false
set_option linter.unusedSimpArgs false
set_option maxRecDepth 100000
def emptyS : ByteArray := ⟨#[]⟩
def labOk (x : Lb) : Bool := nameB x.1 && decide (0 < x.2.size) && decide (x.2.size ≤ 256)
def rightFrom (last : ByteArray) : List Lb → Bool
  | [] => true
  | x :: r => decide (cmpS last x.1 < 0) && labOk x && rightFrom x.1 r
def rightL (cs : List Lb) : Bool := rightFrom emptyS cs && decide (cs.length ≤ 32)
theorem less_cmp (a b : ByteArray) : Op.bytesLess a.toList b.toList = decide (cmpS a b = -1) := by rw [ByteArray.toList_eq, ByteArray.toList_eq]; exact cb_less _ _
theorem beq_cmp (a b : ByteArray) : (a.toList == b.toList) = decide (cmpS a b = 0) := by
  rw [ByteArray.toList_eq, ByteArray.toList_eq, Bool.eq_iff_iff]
  simp [cmpS, cb_eq]
theorem cmpS_cases (a b : ByteArray) : cmpS a b = -1 ∨ cmpS a b = 0 ∨ cmpS a b = 1 := cb_cases _ _
theorem empty_less {s : ByteArray} (h : 0 < s.size) : cmpS emptyS s < 0 := by
  rcases cmpS_cases emptyS s with h1 | h1 | h1
  · omega
  · have := (cmpS_eq _ _).1 h1
    rw [← this] at h
    exact absurd h (by decide)
  · exfalso
    unfold cmpS emptyS at h1
    cases hs : s.data.toList with
    | nil => rw [hs] at h1; simp [Lib.compareBytes] at h1
    | cons x r => rw [hs] at h1; simp [Lib.compareBytes] at h1
theorem name_size {s : ByteArray} (h : nameB s = true) : 0 < s.size := by
  unfold nameB at h
  simp only [Bool.and_eq_true, decide_eq_true_eq] at h
  exact h.1.1.1
theorem rightFrom_no {last : ByteArray} {x : Lb} {r : List Lb} (h : 0 ≤ cmpS last x.1 ∨ nameB x.1 = false ∨ x.2.size = 0 ∨ 256 < x.2.size) : rightFrom last (x :: r) = false := by
  unfold rightFrom labOk
  rcases h with h | h | h | h
  · rw [decide_eq_false (by omega)]; rfl
  · rw [h]; simp
  · simp [h]
  · rw [show decide (x.2.size ≤ 256) = false from decide_eq_false (by omega)]; simp
theorem rightFrom_go {last : ByteArray} {x : Lb} {r : List Lb} (h1 : cmpS last x.1 < 0) (h2 : nameB x.1 = true) (h3 : 0 < x.2.size) (h4 : x.2.size ≤ 256) : rightFrom last (x :: r) = rightFrom x.1 r := by
  rw [rightFrom, labOk]
  simp [h1, h2, h3, h4]
set_option maxHeartbeats 4000000 in
theorem right_any (v : Value) (cs : List Lb) (w : World) (h : Sl lenc w v cs) :
    Calls Tryd.prog 77 #[v] w fun e w' => e = .returned (.bool (rightL cs)) ∧ Grew w w' := by
  obtain ⟨a, cap, rfl, hlen, -, hc⟩ := h.split lenc_len
  have HC := Lib.hid hc
  clear hc h
  go_enter Tryd.func77, Tryd.ntmps77
  go_wp2_with fail
  go_loopw [3, 8] (fun lv i wr => ∃ (k : Nat) (last : ByteArray), lv = .string last ∧ k ≤ cs.length ∧ i = .int .i64 k ∧ Hid (rightFrom last (cs.drop k) = rightFrom emptyS cs) ∧ Hid (Grew w wr)) (fun _ i _ => cs.length - (intOf i).toNat)
  case atStart => exact ⟨0, emptyS, rfl, Nat.zero_le _, rfl, rfl, Grew.refl _⟩
  case round =>
    obtain ⟨k, last, rfl, hk, rfl, HV, HG⟩ := hrel
    by_cases hlt : k < cs.length
    · have hltz : (k : Int) < (cs.length : Int) := by omega
      obtain ⟨b, off, rfl, hk0, hk1⟩ := lab_cells HC.out HG.out.below (Nat.le_refl _) hlt
      have HD := Lib.hid (show cs.drop k = lx cs k :: cs.drop (k + 1) by rw [List.drop_eq_getElem_cons hlt]; simp [lx, hlt])
      have hno : (0 ≤ cmpS last (lx cs k).1 ∨ nameB (lx cs k).1 = false ∨ (lx cs k).2.size = 0 ∨ 256 < (lx cs k).2.size) → rightL cs = false := fun h => by
        rw [rightL, ← HV.out, HD.out, rightFrom_no h]; rfl
      have HNO := Lib.hid hno
      clear hno
      obtain ⟨x, hx⟩ : ∃ x, x = lx cs k := ⟨_, rfl⟩
      rw [← hx] at hk0 hk1 HD HNO
      clear hx
      have l1 := less_cmp x.1 last
      have l2 := beq_cmp x.1 last
      have l3 := cmpS_neg last x.1
      by_cases hle : cmpS x.1 last ≤ 0
      · have HF : Hid (rightL cs = false) := HNO.out (.inl (by omega))
        rcases cmpS_cases x.1 last with hc | hc | hc
        · rw [hc] at l1 l2
          have l1' : Op.bytesLess x.1.toList last.toList = true := l1
          have l2' : (x.1.toList == last.toList) = false := l2
          clear l1 l2
          go_wp2_with fail
          go_ret
          exact ⟨by rw [HF.out] <;> rfl, HG.out.alloc _⟩
        · rw [hc] at l1 l2
          have l1' : Op.bytesLess x.1.toList last.toList = false := l1
          have l2' : (x.1.toList == last.toList) = true := l2
          clear l1 l2
          go_wp2_with fail
          all_goals go_ret
          all_goals exact ⟨by rw [HF.out] <;> rfl, HG.out.alloc _⟩
        · omega
      · have hc : cmpS x.1 last = 1 := by rcases cmpS_cases x.1 last with h | h | h <;> omega
        rw [hc] at l1 l2
        have l1' : Op.bytesLess x.1.toList last.toList = false := l1
        have l2' : (x.1.toList == last.toList) = false := l2
        clear l1 l2
        go_wp2_with fail
        refine (name_any _ _).mono ?_
        rintro e w1 ⟨rfl, rfl⟩
        have hl1 : cmpS last x.1 < 0 := by omega
        by_cases hn : nameB x.1 = true
        · by_cases hz : x.2.size = 0
          · have hz1 : x.2.toList = [] := empty_of hz
            have HF : Hid (rightL cs = false) := HNO.out (.inr (.inr (.inl hz)))
            go_wp2_with fail
            go_ret
            exact ⟨by rw [HF.out] <;> rfl, HG.out.alloc _⟩
          · have hz1 : ¬ x.2.toList = [] := not_empty_of (by omega)
            have hz2 : x.2.toList.isEmpty = false := by simpa using hz1
            by_cases hb : 256 < x.2.size
            · have hb1 : (256 : Int) < (x.2.size : Int) := by omega
              have hb2 : decide ((256 : Int) < (x.2.size : Int)) = true := by simpa using hb1
              have HF : Hid (rightL cs = false) := HNO.out (.inr (.inr (.inr hb)))
              go_wp2_with fail
              go_ret
              exact ⟨by rw [HF.out] <;> rfl, HG.out.alloc _⟩
            · have hb1 : ¬ (256 : Int) < (x.2.size : Int) := by omega
              have hb2 : decide ((256 : Int) < (x.2.size : Int)) = false := by simp only [decide_eq_false_iff_not]; exact hb1
              go_wp2_with fail
              go_roundw
              case rel => exact ⟨k + 1, x.1, rfl, by omega, by go_num, by show _ = _; rw [← HV.out, HD.out, rightFrom_go hl1 hn (by omega) (by omega)], HG.out.alloc _⟩
              case measure => simp [intOf]; omega
        · have hn2 : nameB x.1 = false := by simpa using hn
          have HF : Hid (rightL cs = false) := HNO.out (.inr (.inl hn2))
          go_wp2_with fail
          go_ret
          exact ⟨by rw [HF.out] <;> rfl, HG.out.alloc _⟩
    · have hltz : ¬ (k : Int) < (cs.length : Int) := by omega
      have hd : cs.drop k = [] := List.drop_eq_nil_of_le (by omega)
      have HE := Lib.hid (show rightL cs = decide (cs.length ≤ 32) by rw [rightL, ← HV.out, hd]; rfl)
      clear hd
      go_wp2_with fail
      go_ret
      exact ⟨by rw [HE.out] <;> simp <;> omega, HG.out⟩
end Go.Proofs.YtogjcaakfnfapaaDoor
namespace Go.Proofs.YtogjcaakfnfapaaDoor
open Go.RowKit
set_option linter.unusedVariables false
set_option linter.unusedSimpArgs false
set_option maxRecDepth 100000
theorem rname_qs (s : ByteArray) (w : World) : Calls Tryd.prog 58 #[.string s] w fun e w' => e = .returned (.bool (nameB s)) ∧ w = w' := (rname_any s w).mono fun _ _ h => ⟨h.1, h.2.symm⟩
def prevN (cs : List Lb) : Nat → ByteArray
  | 0 => emptyS
  | k + 1 => (lx cs k).1
set_option maxHeartbeats 4000000 in
theorem rright_any (v : Value) (cs : List Lb) (w : World) (h : Sl lenc w v cs) :
    Calls Tryd.prog 33 #[v] w fun e w' => e = .returned (.bool (rightL cs)) ∧ ∃ n, w' = w.drewN n := by
  obtain ⟨a, cap, rfl, hlen, -, hc⟩ := h.split lenc_len
  have HC := Lib.hid hc
  clear hc h
  go_enter Tryd.func33, Tryd.ntmps33
  go_wp2_with fail
  go_loopw [3] (fun i wr => ∃ (k : Nat), k ≤ cs.length ∧ i = .int .i64 k ∧ Hid (rightFrom (prevN cs k) (cs.drop k) = rightFrom emptyS cs) ∧ ∃ n, wr = w.drewN n) (fun i _ => cs.length - (intOf i).toNat)
  case atStart => exact ⟨0, Nat.zero_le _, rfl, rfl, 0, rfl⟩
  case round =>
    obtain ⟨k, hk, rfl, HV, n, rfl⟩ := hrel
    by_cases hlt : k < cs.length
    · have hltz : (k : Int) < (cs.length : Int) := by omega
      have h00 : (0 : Int) ≤ (k : Int) := by omega
      obtain ⟨b, off, rfl, hk0, hk1⟩ := lab_cells HC.out (Below.refl _ _) (Nat.le_refl _) hlt
      have HD := Lib.hid (show cs.drop k = lx cs k :: cs.drop (k + 1) by rw [List.drop_eq_getElem_cons hlt]; simp [lx, hlt])
      have hno : (0 ≤ cmpS (prevN cs k) (lx cs k).1 ∨ nameB (lx cs k).1 = false ∨ (lx cs k).2.size = 0 ∨ 256 < (lx cs k).2.size) → rightL cs = false := fun h => by
        rw [rightL, ← HV.out, HD.out, rightFrom_no h]; rfl
      have HNO := Lib.hid hno
      have hgo : cmpS (prevN cs k) (lx cs k).1 < 0 → nameB (lx cs k).1 = true → 0 < (lx cs k).2.size → (lx cs k).2.size ≤ 256 → rightFrom (prevN cs (k + 1)) (cs.drop (k + 1)) = rightFrom emptyS cs := fun h1 h2 h3 h4 => by
        rw [← HV.out, HD.out, rightFrom_go h1 h2 h3 h4]; rfl
      have HGO := Lib.hid hgo
      clear hno hgo HD HV
      by_cases hn : nameB (lx cs k).1 = true
      · by_cases hz : (lx cs k).2.size = 0
        · have hz1 : (lx cs k).2.toList = [] := empty_of hz
          have hz2 : (lx cs k).2.toList.isEmpty = true := by simpa using hz1
          have HF : Hid (rightL cs = false) := HNO.out (.inr (.inr (.inl hz)))
          go_wp2_with fail
          go_quiet ((go_at_call 58; first | refine qs (rname_qs _ _) | refine quiet_same (rname_qs _ _)))
          go_wp2_with fail
          go_ret
          exact ⟨by rw [HF.out] <;> rfl, n + nq, by first | rfl | (simp only [World.drewN_drewN])⟩
        · have hz1 : ¬ (lx cs k).2.toList = [] := not_empty_of (by omega)
          have hz2 : (lx cs k).2.toList.isEmpty = false := by simpa using hz1
          by_cases hb : 256 < (lx cs k).2.size
          · have hb1 : (256 : Int) < ((lx cs k).2.size : Int) := by omega
            have hb2 : decide ((256 : Int) < ((lx cs k).2.size : Int)) = true := by simpa using hb1
            have HF : Hid (rightL cs = false) := HNO.out (.inr (.inr (.inr hb)))
            go_wp2_with fail
            go_quiet ((go_at_call 58; first | refine qs (rname_qs _ _) | refine quiet_same (rname_qs _ _)))
            go_wp2_with fail
            go_ret
            exact ⟨by rw [HF.out] <;> rfl, n + nq, by first | rfl | (simp only [World.drewN_drewN])⟩
          · have hb1 : ¬ (256 : Int) < ((lx cs k).2.size : Int) := by omega
            have hb2 : decide ((256 : Int) < ((lx cs k).2.size : Int)) = false := by simp only [decide_eq_false_iff_not]; exact hb1
            by_cases hk0' : k = 0
            · have hz3 : ¬ (0 : Int) < (k : Int) := by omega
              have hz4 : decide ((0 : Int) < (k : Int)) = false := by simp only [decide_eq_false_iff_not]; exact hz3
              have hz5 : decide (0 < k) = false := by simp; omega
              have HR := Lib.hid (HGO.out (by have h9 := name_size hn; subst hk0'; exact empty_less h9) hn (by omega) (by omega))
              clear hk0'
              go_wp2_with fail
              go_quiet ((go_at_call 58; first | refine qs (rname_qs _ _) | refine quiet_same (rname_qs _ _)))
              go_wp2_with fail
              go_roundw
              case rel => exact ⟨k + 1, by omega, by go_num, HR, n + nq, by first | rfl | (simp only [World.drewN_drewN])⟩
              case measure => simp [intOf]; omega
            · obtain ⟨m, rfl⟩ : ∃ m, k = m + 1 := ⟨k - 1, by omega⟩
              have hlt' : m < cs.length := by omega
              obtain ⟨b3, off3, e2, hp0, hp1⟩ := lab_cells HC.out (Below.refl _ _) (Nat.le_refl _) hlt'
              injection e2 with e2
              injection e2 with e2 e3
              subst e2 e3
              have hz3 : (0 : Int) < ((m : Int) + 1) := by omega
              have hz4 : decide ((0 : Int) < ((m : Int) + 1)) = true := decide_eq_true hz3
              have hm1 : (m : Int) < (cs.length : Int) := by omega
              have hm0 : (0 : Int) ≤ (m : Int) := by omega
              have hm2 : ((m : Int) + 1).toNat = m + 1 := by omega
              have hm3 : (0 : Int) ≤ (m : Int) + 1 := by omega
              have hm4 : (m : Int) + 1 < (cs.length : Int) := by omega
              have hm5 : IntKind.i64.wrap (m : Int) = (m : Int) := by rw [IntKind.wrap_i64]; omega
              have l1 := less_cmp (lx cs m).1 (lx cs (m + 1)).1
              by_cases hc : cmpS (lx cs m).1 (lx cs (m + 1)).1 = -1
              · rw [hc] at l1
                have l1' : Op.bytesLess (lx cs m).1.toList (lx cs (m + 1)).1.toList = true := l1
                have HR := Lib.hid (HGO.out (by show cmpS (lx cs m).1 _ < 0; omega) hn (by omega) (by omega))
                clear l1
                go_wp2_with fail
                go_quiet ((go_at_call 58; first | refine qs (rname_qs _ _) | refine quiet_same (rname_qs _ _)))
                go_wp2_with fail
                go_roundw
                case rel => exact ⟨m + 1 + 1, by omega, by go_num, HR, n + nq, by first | rfl | (simp only [World.drewN_drewN])⟩
                case measure => simp [intOf]; omega
              · have l1' : Op.bytesLess (lx cs m).1.toList (lx cs (m + 1)).1.toList = false := by rw [l1]; simpa using hc
                have HF : Hid (rightL cs = false) := HNO.out (.inl (by show 0 ≤ cmpS (lx cs m).1 _; rcases cmpS_cases (lx cs m).1 (lx cs (m + 1)).1 with h | h | h <;> omega))
                clear l1
                go_wp2_with fail
                go_quiet ((go_at_call 58; first | refine qs (rname_qs _ _) | refine quiet_same (rname_qs _ _)))
                go_wp2_with fail
                go_ret
                exact ⟨by rw [HF.out] <;> rfl, n + nq, by first | rfl | (simp only [World.drewN_drewN])⟩
      · have hn2 : nameB (lx cs k).1 = false := by simpa using hn
        have HF : Hid (rightL cs = false) := HNO.out (.inr (.inl hn2))
        go_wp2_with fail
        go_quiet ((go_at_call 58; first | refine qs (rname_qs _ _) | refine quiet_same (rname_qs _ _)))
        go_wp2_with fail
        go_ret
        exact ⟨by rw [HF.out] <;> rfl, n + nq, by first | rfl | (simp only [World.drewN_drewN])⟩
    · have hltz : ¬ (k : Int) < (cs.length : Int) := by omega
      have hd : cs.drop k = [] := List.drop_eq_nil_of_le (by omega)
      have HE := Lib.hid (show rightL cs = decide (cs.length ≤ 32) by rw [rightL, ← HV.out, hd]; rfl)
      clear hd
      go_wp2_with fail
      go_ret
      exact ⟨by rw [HE.out] <;> simp <;> omega, n, rfl⟩
end Go.Proofs.YtogjcaakfnfapaaDoor
namespace Go.Proofs.YtogjcaakfnfapaaDoor
open Go.RowKit
set_option linter.unusedVariables false
set_option linter.unusedSimpArgs false
set_option maxRecDepth 100000
def hasL (names : List ByteArray) (x : ByteArray) : Bool := names.any fun n => n.toList == x.toList
theorem hasL_drop {names : List ByteArray} {x : ByteArray} {k : Nat} (h : k < names.length) : hasL (names.drop k) x = ((names[k].toList == x.toList) || hasL (names.drop (k + 1)) x) := by
  rw [List.drop_eq_getElem_cons h]; rfl
set_option maxHeartbeats 1000000 in
theorem rhas_any (v : Value) (names : List ByteArray) (x : ByteArray) (w : World) (h : Sl senc1 w v names) :
    Calls Tryd.prog 59 #[v, .string x] w fun e w' => e = .returned (.bool (hasL names x)) ∧ w' = w := by
  obtain ⟨a, cap, rfl, hlen, hc⟩ := h.strings
  have HC := Lib.hid hc
  clear hc h
  go_enter Tryd.func59, Tryd.ntmps59
  go_wp2_with fail
  go_loopw [5] (fun i wr => ∃ k : Nat, k ≤ names.length ∧ i = .int .i64 k ∧ Hid (hasL (names.drop k) x = hasL names x) ∧ wr = w) (fun i _ => names.length - (intOf i).toNat)
  case atStart => exact ⟨0, Nat.zero_le _, rfl, rfl, rfl⟩
  case round =>
    obtain ⟨k, hk, rfl, HV, rfl⟩ := hrel
    by_cases hlt : k < names.length
    · obtain ⟨b, off, rfl, hcc⟩ := HC.out k hlt
      have hltz : (k : Int) < (names.length : Int) := by omega
      have h00 : (0 : Int) ≤ (k : Int) := by omega
      have k0 := hcc k hlt
      have HD := Lib.hid (hasL_drop (x := x) hlt)
      clear hcc
      generalize names[k] = y at k0 HD
      by_cases he : (y.toList == x.toList) = true
      · go_wp2_with fail
        go_ret
        exact ⟨by rw [← HV.out, HD.out, he] <;> rfl, rfl⟩
      · have he2 : (y.toList == x.toList) = false := by simpa using he
        go_wp2_with fail
        go_roundw
        case rel => exact ⟨k + 1, by omega, by go_num, by show _ = _; rw [← HV.out, HD.out, he2]; rfl, by trivial⟩
        case measure => simp [intOf]; omega
    · have hltz : ¬ (k : Int) < (names.length : Int) := by omega
      have hd : names.drop k = [] := List.drop_eq_nil_of_le (by omega)
      have HE := Lib.hid (show hasL names x = false by rw [← HV.out, hd]; rfl)
      clear hd
      go_wp2_with fail
      go_ret
      exact ⟨by rw [HE.out] <;> rfl, rfl⟩
theorem contains_has (names : List ByteArray) (x : ByteArray) : Lib.containsS names x = hasL names x := by
  rw [Bool.eq_iff_iff, Lib.containsS_iff, hasL, List.any_eq_true]
  constructor
  · intro h; exact ⟨x, h, by simp⟩
  · rintro ⟨y, h1, h2⟩
    have := eq_of_beq h2
    rw [ByteArray.toList_eq, ByteArray.toList_eq] at this
    rw [← ba_eq this]; exact h1
theorem contains_any (v : Value) (names : List ByteArray) (x : ByteArray) (w : World) (h : Sl senc1 w v names) :
    Calls Tryd.prog 109 #[v, .string x] w fun e w' => e = .returned (.bool (hasL names x)) ∧ w' = w := by
  obtain ⟨a, cap, rfl, hlen, hc⟩ := h.strings
  cases names with
  | nil =>
    refine (Tryd.slices_Contains_string_empty a cap x w).mono ?_
    intro e w' h
    exact h
  | cons y r =>
    obtain ⟨b, off, rfl, hcc⟩ := hc 0 (by simp)
    refine (Tryd.slices_Contains_string b off (y :: r).length cap (y :: r) x w (Nat.le_refl _) (by omega) (fun j hj => by rw [hcc j hj, List.getD_eq_getElem?_getD, List.getElem?_eq_getElem hj]; rfl)).mono ?_
    intro e w' h
    rw [List.take_of_length_le (Nat.le_refl _), contains_has] at h
    exact h
end Go.Proofs.YtogjcaakfnfapaaDoor
namespace Go.Proofs.YtogjcaakfnfapaaDoor
open Go.RowKit
set_option linter.unusedVariables false
set_option linter.unusedSimpArgs false
set_option maxRecDepth 100000
theorem Tryd.infoLb : (Tryd.prog.info? 69).map (fun i => (i.zero, i.size, i.bytes)) = some (some (.agg #[.string ⟨#[]⟩, .string ⟨#[]⟩]), 2, 32) := by kernel_rfl
def pickL (names : List ByteArray) (among : Bool) (l : List Lb) : List Lb := l.filter fun x => hasL names x.1 == among
theorem pick_snoc (names : List ByteArray) (among : Bool) (l : List Lb) (k : Nat) (h : k < l.length) : pickL names among (l.take (k + 1)) = pickL names among (l.take k) ++ if hasL names (lx l k).1 == among then [lx l k] else [] := by
  unfold pickL
  rw [lx_at h, List.take_succ_eq_append_getElem h, List.filter_append]
  congr 1
  by_cases h : (hasL names l[k].1 == among) = true <;> simp [h]
theorem pick_len (names : List ByteArray) (among : Bool) (l : List Lb) : (pickL names among l).length ≤ l.length := List.length_filter_le _ _
theorem pick_take_len (names : List ByteArray) (among : Bool) (l : List Lb) (k : Nat) : (pickL names among (l.take k)).length ≤ l.length := Nat.le_trans (pick_len _ _ _) (by simp; omega)
set_option maxHeartbeats 2000000 in
theorem pick_own (v vn : Value) (l : List Lb) (names : List ByteArray) (among : Bool) (w : World) (h : Sl lenc w v l) (hn : Sl senc1 w vn names) (hl : l.length ≤ 1000000) :
    Calls Tryd.prog 120 #[v, vn, .bool among] w fun e w' => ∃ v', e = .returned v' ∧ w'.ownsRow w.heap.size 69 2 v' (pickL names among l).length ((pickL names among l).flatMap lenc) ∧ Below w.heap.size w w' := by
  obtain ⟨a, cap, rfl, hlen, -, hc⟩ := h.split lenc_len
  have HC := Lib.hid hc
  have HN := Lib.hid hn
  clear hc h hn
  obtain ⟨i0, hi, hz0, hz1, hz2⟩ := info_parts Tryd.infoLb
  go_enter Tryd.func120, Tryd.ntmps120
  go_wp2_with fail
  go_step3
  go_wp2_with fail
  go_step3
  go_wp2_with fail
  go_loopw [7, 12] (fun v i wr => ∃ (k : Nat), k ≤ l.length ∧ i = .int .i64 k ∧ wr.ownsRow w.heap.size 69 2 v (pickL names among (l.take k)).length ((pickL names among (l.take k)).flatMap lenc) ∧ Below w.heap.size w wr) (fun _ i _ => l.length - (intOf i).toNat)
  case atStart => exact ⟨0, Nat.zero_le _, rfl, by simpa [pickL] using World.ownsRow_nil _ _ _ _, Below.refl _ _⟩
  case round =>
    obtain ⟨k, hk, rfl, hown, hb⟩ := hrel
    have hB := hb.size
    have HO := Lib.hid hown
    have HB := Lib.hid hb
    by_cases hlt : k < l.length
    · obtain ⟨b, off, rfl, k0, k1⟩ := lab_cells HC.out hb (Nat.le_refl _) hlt
      have HS := Lib.hid (pick_snoc names among l k hlt)
      have hct := pick_take_len names among l k
      generalize lx l k = x at k0 k1 HS
      clear hb
      obtain ⟨t, y⟩ := x
      simp only at k0 k1
      have hk0 : (0 : Int) ≤ (k : Int) := Int.natCast_nonneg _
      have hk1 : (k : Int) < (l.length : Int) := by omega
      have HCT := Lib.hid (contains_any vn names t (wr.alloc (.cells #[.string t, .string y] 69)) (HN.out.below (HB.out.alloc hB _) (Nat.le_refl _)))
      go_wp2_with fail
      refine HCT.out.mono ?_
      rintro e w1 ⟨rfl, rfl⟩
      by_cases he : (hasL names t == among) = true
      · have he2 : hasL names t = among := by simpa using he
        rw [he2]
        have HE := Lib.hid he
        clear he
        have hbe : (among == among) = true := by simp
        go_wp2_with (at_builtin; refine wpList_append_own _ rfl _ _ 40 rfl w.heap.size 69 i0 (.agg #[.string ⟨#[]⟩, .string ⟨#[]⟩]) 2 32 Tryd.underlying40 hi hz0 hz1 hz2 rfl (by decide) _ _ _ rfl ((hown.alloc _).alloc _) ⟨wr.heap.size + 1, 0, none⟩ 1 1 [.string t, .string y] rfl rfl ?c1 ?c2 ?c3 ?c4 ?c5 ?_)
        case c1 => have := two_new (wr.alloc (.cells #[.string t, .string y] 69)) (.string t) (.string y) 69; simpa using this
        case c2 => intro u hu; simp at hu; rcases hu with rfl | rfl <;> rfl
        case c3 => unfold maxLen; omega
        case c4 => omega
        case c5 => simp; omega
        intro v' w1 hown' hgrow _
        have HG := Lib.hid hgrow
        have HO' := Lib.hid hown'
        clear hown hgrow hown'
        go_wp2_with fail
        go_roundw
        case rel =>
          refine ⟨k + 1, by omega, by go_num, ?_, ((HB.out.alloc hB _).alloc (by simp; omega) _).grown HG.out (by simp; omega) (fun j hj => (HO.out.lt j hj).1)⟩
          rw [HS.out, HE.out]
          simp only [if_true, List.length_append, List.flatMap_append]
          exact HO'.out
        case measure => simp [intOf]; omega
      · have he1 : (hasL names t == among) = false := by simpa using he
        have he2 : hasL names t = !among := by cases h1 : hasL names t <;> cases among <;> simp_all
        have HE := Lib.hid he1
        rw [he2]
        clear he he1
        have hbe : ((!among) == among) = false := by cases among <;> rfl
        go_wp2_with fail
        go_roundw
        case rel =>
          refine ⟨k + 1, by omega, by go_num, ?_, HB.out.alloc hB _⟩
          rw [HS.out, HE.out]
          simpa using HO.out.alloc _
        case measure => simp [intOf]; omega
    · obtain rfl : k = l.length := by omega
      rw [List.take_of_length_le (Nat.le_refl _)] at hown
      have HOW := Lib.hid hown
      clear hown
      go_wp2_with fail
      try rw [Exit.noGoto_ret]
      go_ret
      exact ⟨_, rfl, HOW.out, HB.out⟩
theorem pick_any (v vn : Value) (l : List Lb) (names : List ByteArray) (among : Bool) (w : World) (h : Sl lenc w v l) (hn : Sl senc1 w vn names) (hl : l.length ≤ 1000000) :
    Calls Tryd.prog 120 #[v, vn, .bool among] w fun e w' => ∃ v', e = .returned v' ∧ Sl lenc w' v' (pickL names among l) ∧ Below w.heap.size w w' := by
  refine (pick_own v vn l names among w h hn hl).mono ?_
  rintro e w' ⟨v', rfl, ho, hb⟩
  exact ⟨v', rfl, Sl.own lenc_len (by decide) ho, hb⟩
theorem keep_any (v vn : Value) (l : List Lb) (names : List ByteArray) (w : World) (h : Sl lenc w v l) (hn : Sl senc1 w vn names) (hl : l.length ≤ 1000000) :
    Calls Tryd.prog 89 #[v, vn] w fun e w' => ∃ v', e = .returned v' ∧ Sl lenc w' v' (pickL names true l) ∧ Below w.heap.size w w' := by
  have HF := Lib.hid (pick_any v vn l names true w h hn hl)
  clear h hn
  go_enter Tryd.func89, Tryd.ntmps89
  go_wp2_with fail
  refine HF.out.mono ?_
  rintro e w1 ⟨v', rfl, hs, hb⟩
  go_wp2_with fail
  go_ret
  exact ⟨_, rfl, hs, hb⟩
theorem drop_any (v vn : Value) (l : List Lb) (names : List ByteArray) (w : World) (h : Sl lenc w v l) (hn : Sl senc1 w vn names) (hl : l.length ≤ 1000000) :
    Calls Tryd.prog 90 #[v, vn] w fun e w' => ∃ v', e = .returned v' ∧ Sl lenc w' v' (pickL names false l) ∧ Below w.heap.size w w' := by
  have HF := Lib.hid (pick_any v vn l names false w h hn hl)
  clear h hn
  go_enter Tryd.func90, Tryd.ntmps90
  go_wp2_with fail
  refine HF.out.mono ?_
  rintro e w1 ⟨v', rfl, hs, hb⟩
  go_wp2_with fail
  go_ret
  exact ⟨_, rfl, hs, hb⟩
theorem drop_own (v vn : Value) (l : List Lb) (names : List ByteArray) (w : World) (h : Sl lenc w v l) (hn : Sl senc1 w vn names) (hl : l.length ≤ 1000000) :
    Calls Tryd.prog 90 #[v, vn] w fun e w' => ∃ v', e = .returned v' ∧ w'.ownsRow w.heap.size 69 2 v' (pickL names false l).length ((pickL names false l).flatMap lenc) ∧ Below w.heap.size w w' := by
  have HF := Lib.hid (pick_own v vn l names false w h hn hl)
  clear h hn
  go_enter Tryd.func90, Tryd.ntmps90
  go_wp2_with fail
  refine HF.out.mono ?_
  rintro e w1 ⟨v', rfl, hs, hb⟩
  go_wp2_with fail
  go_ret
  exact ⟨_, rfl, hs, hb⟩
set_option maxHeartbeats 2000000 in
theorem rkeep_any (v vn : Value) (l : List Lb) (names : List ByteArray) (w : World) (h : Sl lenc w v l) (hn : Sl senc1 w vn names) (hl : l.length ≤ 1000000) :
    Calls Tryd.prog 61 #[v, vn] w fun e w' => ∃ v', e = .returned v' ∧ Sl lenc w' v' (pickL names true l) ∧ Below w.heap.size w w' := by
  obtain ⟨a, cap, rfl, hlen, -, hc⟩ := h.split lenc_len
  have HC := Lib.hid hc
  have HN := Lib.hid hn
  clear hc h hn
  obtain ⟨i0, hi, hz0, hz1, hz2⟩ := info_parts Tryd.infoLb
  go_enter Tryd.func61, Tryd.ntmps61
  go_wp2_with fail
  go_loopw [5, 6] (fun v i wr => ∃ (k : Nat), k ≤ l.length ∧ i = .int .i64 k ∧ wr.ownsRow w.heap.size 69 2 v (pickL names true (l.take k)).length ((pickL names true (l.take k)).flatMap lenc) ∧ Below w.heap.size w wr) (fun _ i _ => l.length - (intOf i).toNat)
  case atStart => exact ⟨0, Nat.zero_le _, rfl, by simpa [pickL] using World.ownsRow_nil _ _ _ _, Below.refl _ _⟩
  case round =>
    obtain ⟨k, hk, rfl, hown, hb⟩ := hrel
    have hB := hb.size
    have HO := Lib.hid hown
    have HB := Lib.hid hb
    by_cases hlt : k < l.length
    · obtain ⟨b, off, rfl, k0, k1⟩ := lab_cells HC.out hb (Nat.le_refl _) hlt
      have HS := Lib.hid (pick_snoc names true l k hlt)
      have hct := pick_take_len names true l k
      generalize lx l k = x at k0 k1 HS
      clear hb
      obtain ⟨t, y⟩ := x
      simp only at k0 k1
      have hk0 : (0 : Int) ≤ (k : Int) := Int.natCast_nonneg _
      have hk1 : (k : Int) < (l.length : Int) := by omega
      have HCT := Lib.hid (rhas_any vn names t wr (HN.out.below HB.out (Nat.le_refl _)))
      go_wp2_with fail
      refine HCT.out.mono ?_
      rintro e w1 ⟨rfl, rfl⟩
      by_cases he : (hasL names t == true) = true
      · have he2 : hasL names t = true := by simpa using he
        rw [he2]
        have HE := Lib.hid he
        clear he
        go_wp2_with (at_builtin; refine wpList_append_own _ rfl _ _ 40 rfl w.heap.size 69 i0 (.agg #[.string ⟨#[]⟩, .string ⟨#[]⟩]) 2 32 Tryd.underlying40 hi hz0 hz1 hz2 rfl (by decide) _ _ _ rfl (hown.alloc _) ⟨w1.heap.size, 0, none⟩ 1 1 [.string t, .string y] rfl rfl ?c1 ?c2 ?c3 ?c4 ?c5 ?_)
        case c1 => have := two_new w1 (.string t) (.string y) 69; simpa using this
        case c2 => intro u hu; simp at hu; rcases hu with rfl | rfl <;> rfl
        case c3 => unfold maxLen; omega
        case c4 => omega
        case c5 => simp; omega
        intro v' w2 hown' hgrow _
        have HG := Lib.hid hgrow
        have HO' := Lib.hid hown'
        clear hown hgrow hown'
        go_wp2_with fail
        go_roundw
        case rel =>
          refine ⟨k + 1, by omega, by go_num, ?_, (HB.out.alloc hB _).grown HG.out (by simp; omega) (fun j hj => (HO.out.lt j hj).1)⟩
          rw [HS.out, HE.out]
          simp only [if_true, List.length_append, List.flatMap_append]
          exact HO'.out
        case measure => simp [intOf]; omega
      · have he1 : (hasL names t == true) = false := by simpa using he
        have he2 : hasL names t = !true := by cases h1 : hasL names t <;> simp_all
        have HE := Lib.hid he1
        rw [he2]
        clear he he1
        go_wp2_with fail
        go_roundw
        case rel =>
          refine ⟨k + 1, by omega, by go_num, ?_, HB.out⟩
          rw [HS.out, HE.out]
          simpa using HO.out
        case measure => simp [intOf]; omega
    · obtain rfl : k = l.length := by omega
      have hsl : Sl lenc wr u5 (pickL names true l) := Sl.own lenc_len (by decide) (by rw [List.take_of_length_le (Nat.le_refl _)] at hown; exact hown)
      go_wp2_with fail
      go_ret
      exact ⟨_, rfl, hsl, HB.out⟩
set_option maxHeartbeats 2000000 in
theorem rdrop_any (v vn : Value) (l : List Lb) (names : List ByteArray) (w : World) (h : Sl lenc w v l) (hn : Sl senc1 w vn names) (hl : l.length ≤ 1000000) :
    Calls Tryd.prog 62 #[v, vn] w fun e w' => ∃ v', e = .returned v' ∧ Sl lenc w' v' (pickL names false l) ∧ Below w.heap.size w w' := by
  obtain ⟨a, cap, rfl, hlen, -, hc⟩ := h.split lenc_len
  have HC := Lib.hid hc
  have HN := Lib.hid hn
  clear hc h hn
  obtain ⟨i0, hi, hz0, hz1, hz2⟩ := info_parts Tryd.infoLb
  go_enter Tryd.func62, Tryd.ntmps62
  go_wp2_with fail
  go_loopw [5, 6] (fun v i wr => ∃ (k : Nat), k ≤ l.length ∧ i = .int .i64 k ∧ wr.ownsRow w.heap.size 69 2 v (pickL names false (l.take k)).length ((pickL names false (l.take k)).flatMap lenc) ∧ Below w.heap.size w wr) (fun _ i _ => l.length - (intOf i).toNat)
  case atStart => exact ⟨0, Nat.zero_le _, rfl, by simpa [pickL] using World.ownsRow_nil _ _ _ _, Below.refl _ _⟩
  case round =>
    obtain ⟨k, hk, rfl, hown, hb⟩ := hrel
    have hB := hb.size
    have HO := Lib.hid hown
    have HB := Lib.hid hb
    by_cases hlt : k < l.length
    · obtain ⟨b, off, rfl, k0, k1⟩ := lab_cells HC.out hb (Nat.le_refl _) hlt
      have HS := Lib.hid (pick_snoc names false l k hlt)
      have hct := pick_take_len names false l k
      generalize lx l k = x at k0 k1 HS
      clear hb
      obtain ⟨t, y⟩ := x
      simp only at k0 k1
      have hk0 : (0 : Int) ≤ (k : Int) := Int.natCast_nonneg _
      have hk1 : (k : Int) < (l.length : Int) := by omega
      have HCT := Lib.hid (rhas_any vn names t wr (HN.out.below HB.out (Nat.le_refl _)))
      go_wp2_with fail
      refine HCT.out.mono ?_
      rintro e w1 ⟨rfl, rfl⟩
      by_cases he : (hasL names t == false) = true
      · have he2 : hasL names t = false := by simpa using he
        rw [he2]
        have HE := Lib.hid he
        clear he
        go_wp2_with (at_builtin; refine wpList_append_own _ rfl _ _ 40 rfl w.heap.size 69 i0 (.agg #[.string ⟨#[]⟩, .string ⟨#[]⟩]) 2 32 Tryd.underlying40 hi hz0 hz1 hz2 rfl (by decide) _ _ _ rfl (hown.alloc _) ⟨w1.heap.size, 0, none⟩ 1 1 [.string t, .string y] rfl rfl ?c1 ?c2 ?c3 ?c4 ?c5 ?_)
        case c1 => have := two_new w1 (.string t) (.string y) 69; simpa using this
        case c2 => intro u hu; simp at hu; rcases hu with rfl | rfl <;> rfl
        case c3 => unfold maxLen; omega
        case c4 => omega
        case c5 => simp; omega
        intro v' w2 hown' hgrow _
        have HG := Lib.hid hgrow
        have HO' := Lib.hid hown'
        clear hown hgrow hown'
        go_wp2_with fail
        go_roundw
        case rel =>
          refine ⟨k + 1, by omega, by go_num, ?_, (HB.out.alloc hB _).grown HG.out (by simp; omega) (fun j hj => (HO.out.lt j hj).1)⟩
          rw [HS.out, HE.out]
          simp only [if_true, List.length_append, List.flatMap_append]
          exact HO'.out
        case measure => simp [intOf]; omega
      · have he1 : (hasL names t == false) = false := by simpa using he
        have he2 : hasL names t = !false := by cases h1 : hasL names t <;> simp_all
        have HE := Lib.hid he1
        rw [he2]
        clear he he1
        go_wp2_with fail
        go_roundw
        case rel =>
          refine ⟨k + 1, by omega, by go_num, ?_, HB.out⟩
          rw [HS.out, HE.out]
          simpa using HO.out
        case measure => simp [intOf]; omega
    · obtain rfl : k = l.length := by omega
      have hsl : Sl lenc wr u5 (pickL names false l) := Sl.own lenc_len (by decide) (by rw [List.take_of_length_le (Nat.le_refl _)] at hown; exact hown)
      go_wp2_with fail
      go_ret
      exact ⟨_, rfl, hsl, HB.out⟩
end Go.Proofs.YtogjcaakfnfapaaDoor
namespace Go.Proofs.YtogjcaakfnfapaaDoor
open Go.RowKit
set_option linter.unusedVariables false
set_option linter.unusedSimpArgs false
set_option maxRecDepth 100000
theorem oneCell_flat (l : List Lb) : ∀ u ∈ l.flatMap lenc, u.oneCell' = true := by
  intro u hu
  rw [List.mem_flatMap] at hu
  obtain ⟨x, _, hx⟩ := hu
  simp [lenc] at hx
  rcases hx with rfl | rfl <;> rfl
set_option maxHeartbeats 2000000 in
theorem clone_any (v : Value) (l : List Lb) (w : World) (h : Sl lenc w v l) (hl : l.length ≤ 1000000) :
    Calls Tryd.prog 78 #[v] w fun e w' => ∃ v', e = .returned v' ∧ w'.ownsRow w.heap.size 69 2 v' l.length (l.flatMap lenc) ∧ Below w.heap.size w w' := by
  obtain ⟨a, cap, rfl, hlen, hnone, hc⟩ := h.len (fun x => by rw [lenc_len]; decide)
  obtain ⟨i0, hi, hz0, hz1, hz2⟩ := info_parts Tryd.infoLb
  cases a with
  | none =>
    obtain ⟨rfl, rfl⟩ := hnone rfl
    have he : ∀ w : World, (binOp .eql 40 (.slice none 0 0) (.slice none 0 0)).run Tryd.prog w = .ok (.bool true) w := fun _ => rfl
    go_enter Tryd.func78, Tryd.ntmps78
    go_wp2_with fail
    go_ret
    exact ⟨_, rfl, by simpa using World.ownsRow_nil _ _ _ _, Below.refl _ _⟩
  | some ad =>
    have HCC := Lib.hid hc
    have he : ∀ (n c : Nat) (w : World), (binOp .eql 40 (.slice (some ad) n c) (.slice none 0 0)).run Tryd.prog w = .ok (.bool false) w := fun _ _ _ => rfl
    have hb0 : Below w.heap.size w (w.alloc (.cells #[] 69)) := (Below.refl _ _).alloc (Nat.le_refl _) _
    have hslb := Sl.below h hb0 (Nat.le_refl _)
    obtain ⟨a2, cap2, e2, -, -, hc2⟩ := hslb.len (fun x => by rw [lenc_len]; decide)
    injection e2 with e2 e3 e4
    subst e2
    have HC2 := Lib.hid hc2
    clear hc hc2 hslb hnone h
    have HF1 := Lib.hid (flat_length lenc_len l)
    have HF2 := Lib.hid (oneCell_flat l)
    generalize l.flatMap lenc = F at HF1 HF2 HC2 ⊢
    go_enter Tryd.func78, Tryd.ntmps78
    go_wp2_with (at_builtin; refine wpList_append_rd rfl (.tmp 5) (.tmp 6) _ rfl w.heap.size 69 i0 (.agg #[.string ⟨#[]⟩, .string ⟨#[]⟩]) 2 32 Tryd.underlying40 hi hz0 hz1 hz2 rfl (by decide) _ 0 [] rfl (owns_lit (heap_new _ _) (Nat.le_refl _)) _ _ _ F rfl ?e1 ?e2 ?e3 ?e4 ?e5 ?e6 ?e7 ?_)
    case e2 => exact HF1.out
    case e3 => exact HC2.out ad rfl
    case e4 => exact HF2.out
    case e5 => unfold maxLen; omega
    case e6 => omega
    intro v' w1 hown hgrow
    have HO := Lib.hid hown
    have HG := Lib.hid hgrow
    clear hown hgrow
    go_wp2_with fail
    go_ret
    exact ⟨_, rfl, by simpa using HO.out, hb0.grown HG.out (by simp) (fun j hj => by simp [Value.ownBlock] at hj; omega)⟩
end Go.Proofs.YtogjcaakfnfapaaDoor
namespace Go.Proofs.YtogjcaakfnfapaaDoor
open Go.Sort
set_option linter.unusedVariables false
set_option linter.unusedSimpArgs false

theorem not_lt_of {β : Type} {lt : β → β → Bool} {x y : β} (hS : SWO lt) (h : lt x y = true) : lt y x = false := by
  cases h2 : lt y x with
  | false => rfl
  | true => have := hS.trans _ _ _ h h2; rw [hS.irrefl] at this; cases this
section
variable {α : Type} [Inhabited α]
def swapFrom (a b n : Nat) : Nat → Array α → Array α
  | i, d => if h : i < n then swapFrom a b n (i + 1) (swp d (a + i) (b + i)) else d
termination_by i => n - i
theorem swapFrom_size (a b n : Nat) : ∀ (i : Nat) (d : Array α), (swapFrom a b n i d).size = d.size := by
  intro i d
  fun_induction swapFrom a b n i d with
  | case1 i d h ih => rw [ih, size_swp]
  | case2 i d h => rfl
theorem swapFrom_perm (a b n lo hi : Nat) (h1 : lo ≤ a) (h2 : a + n ≤ hi) (h3 : lo ≤ b) (h4 : b + n ≤ hi) : ∀ (i : Nat) (d : Array α), hi ≤ d.size → PermIn lo hi d (swapFrom a b n i d) := by
  intro i d
  fun_induction swapFrom a b n i d with
  | case1 i d h ih => exact fun hs => permIn_trans _ _ _ _ _ (swp_permIn d lo hi (a + i) (b + i) (by omega) (by omega) (by omega) (by omega) hs) (ih (by rw [size_swp]; exact hs))
  | case2 i d h => exact fun _ => permIn_refl _ _ _
theorem swapFrom_at (a b n : Nat) (hd : a + n ≤ b ∨ b + n ≤ a) : ∀ (i : Nat) (d : Array α), a + n ≤ d.size → b + n ≤ d.size → ∀ x, (swapFrom a b n i d)[x]! = if a + i ≤ x ∧ x < a + n then d[b + (x - a)]! else if b + i ≤ x ∧ x < b + n then d[a + (x - b)]! else d[x]! := by
  intro i d
  fun_induction swapFrom a b n i d with
  | case1 i d h ih =>
    intro h1 h2 x
    rw [ih (by rw [size_swp]; exact h1) (by rw [size_swp]; exact h2) x]
    by_cases c1 : a + (i + 1) ≤ x ∧ x < a + n
    · rw [if_pos c1, if_pos (by omega), swp_other _ _ _ _ (by omega) (by omega)]
    · rw [if_neg c1]
      by_cases c2 : b + (i + 1) ≤ x ∧ x < b + n
      · rw [if_pos c2, if_neg (by omega), if_pos (by omega), swp_other _ _ _ _ (by omega) (by omega)]
      · rw [if_neg c2]
        by_cases c3 : x = a + i
        · subst c3
          rw [if_pos (by omega), swp_left _ _ _ (by omega) (by omega)]
          congr 1; omega
        · by_cases c4 : x = b + i
          · subst c4
            rw [if_neg (by omega), if_pos (by omega), swp_right _ _ _ (by omega)]
            congr 1; omega
          · rw [swp_other _ _ _ _ c3 c4, if_neg (by omega), if_neg (by omega)]
  | case2 i d h =>
    intro h1 h2 x
    rw [if_neg (by omega), if_neg (by omega)]

/-- The row, its part from lo to hi turned at m. -/
def rot (lo m hi : Nat) (d : Array α) (x : Nat) : α := if lo ≤ x ∧ x < lo + (hi - m) then d[x - lo + m]! else if lo + (hi - m) ≤ x ∧ x < hi then d[x - (hi - m)]! else d[x]!
theorem rot_more (m i j : Nat) (d : Array α) (hi : i ≤ m) (hij : j < i) (hj : 0 < j) (hs : m + j ≤ d.size) (x : Nat) :
    rot (m - i) m (m + j) d x = rot (m - (i - j)) m (m + j) (swapFrom (m - i) m j 0 d) x := by
  have hat := swapFrom_at (m - i) m j (.inl (by omega)) 0 d (by omega) (by omega)
  simp only [rot, hat]
  repeat' split
  all_goals first | (exfalso; omega) | rfl | (congr 1; omega)
theorem rot_less (m i j : Nat) (d : Array α) (hi : i ≤ m) (hij : i < j) (h0 : 0 < i) (hs : m + j ≤ d.size) (x : Nat) :
    rot (m - i) m (m + j) d x = rot (m - i) m (m + (j - i)) (swapFrom (m - i) (m + j - i) i 0 d) x := by
  have hat := swapFrom_at (m - i) (m + j - i) i (.inl (by omega)) 0 d (by omega) (by omega)
  simp only [rot, hat]
  repeat' split
  all_goals first | (exfalso; omega) | rfl | (congr 1; omega)
theorem rot_end (m i : Nat) (d : Array α) (hi : i ≤ m) (hs : m + i ≤ d.size) (x : Nat) :
    (swapFrom (m - i) m i 0 d)[x]! = rot (m - i) m (m + i) d x := by
  have hat := swapFrom_at (m - i) m i (.inl (by omega)) 0 d (by omega) (by omega)
  rw [hat]
  simp only [rot]
  repeat' split
  all_goals first | (exfalso; omega) | rfl | (congr 1; omega)

variable {lt : α → α → Bool}
/-- Two sorted parts, each of the first before each of the second. -/
theorem sorted_join {a m b : Nat} {d : Array α} (h1 : SortedIn lt a m d) (h2 : SortedIn lt m b d) (h3 : ∀ i j, a ≤ i → i < m → m ≤ j → j < b → lt d[j]! d[i]! = false) : SortedIn lt a b d := by
  intro i j hi hij hj
  by_cases c1 : j < m
  · exact h1 i j hi hij c1
  · by_cases c2 : m ≤ i
    · exact h2 i j c2 hij hj
    · exact h3 i j hi (by omega) (by omega) hj
/-- A sorted part's later one, and an equal place: never less. -/
theorem sorted_le {a b : Nat} {d : Array α} (hS : SWO lt) (h : SortedIn lt a b d) {i j : Nat} (hi : a ≤ i) (hij : i ≤ j) (hj : j < b) : lt d[j]! d[i]! = false := by
  rcases Nat.lt_or_ge i j with c | c
  · exact h i j hi c hj
  · obtain rfl : i = j := by omega
    exact hS.irrefl _
/-- What the merge's one turn brings about: of two sorted parts, parted at 'start' and 'end', turned in the middle. -/
theorem merge_turn {a m b s e : Nat} {d d1 : Array α} (hS : SWO lt) (ham : a ≤ s) (hsm : s ≤ m) (hme : m ≤ e) (heb : e ≤ b) (h1 : SortedIn lt a m d) (h2 : SortedIn lt m b d)
    (hlo : s = a ∨ e = b ∨ lt d[e]! d[s - 1]! = false) (hhi : s = m ∨ e = m ∨ lt d[e - 1]! d[s]! = true) (hr : ∀ x, d1[x]! = rot s m e d x) :
    (∀ x, a ≤ x → x < s → d1[x]! = d[x]!) ∧ (∀ x, e ≤ x → x < b → d1[x]! = d[x]!) ∧ (∀ x, s ≤ x → x < s + (e - m) → d1[x]! = d[x - s + m]!) ∧ (∀ x, s + (e - m) ≤ x → x < e → d1[x]! = d[x - (e - m)]!) ∧
    SortedIn lt a s d1 ∧ SortedIn lt s (s + (e - m)) d1 ∧ SortedIn lt (s + (e - m)) e d1 ∧ SortedIn lt e b d1 ∧
    (∀ i j, a ≤ i → i < s + (e - m) → s + (e - m) ≤ j → j < b → lt d1[j]! d1[i]! = false) := by
  have e1 : ∀ x, x < s → d1[x]! = d[x]! := fun x hx => by rw [hr, rot, if_neg (by omega), if_neg (by omega)]
  have e2 : ∀ x, e ≤ x → d1[x]! = d[x]! := fun x hx => by rw [hr, rot, if_neg (by omega), if_neg (by omega)]
  have e3 : ∀ x, s ≤ x → x < s + (e - m) → d1[x]! = d[x - s + m]! := fun x h h' => by rw [hr, rot, if_pos ⟨h, h'⟩]
  have e4 : ∀ x, s + (e - m) ≤ x → x < e → d1[x]! = d[x - (e - m)]! := fun x h h' => by rw [hr, rot, if_neg (by omega), if_pos ⟨h, h'⟩]
  refine ⟨fun x _ h => e1 x h, fun x h _ => e2 x h, e3, e4, ?_, ?_, ?_, ?_, ?_⟩
  · intro i j hi hij hj
    rw [e1 i (by omega), e1 j hj]
    exact h1 i j hi hij (by omega)
  · intro i j hi hij hj
    rw [e3 i (by omega) (by omega), e3 j (by omega) hj]
    exact h2 _ _ (by omega) (by omega) (by omega)
  · intro i j hi hij hj
    rw [e4 i (by omega) (by omega), e4 j (by omega) hj]
    exact h1 _ _ (by omega) (by omega) (by omega)
  · intro i j hi hij hj
    rw [e2 i (by omega), e2 j (by omega)]
    exact h2 _ _ (by omega) hij hj
  · intro i j hi hij hj1 hj2
    by_cases ci : i < s
    · rw [e1 i ci]
      by_cases cj : j < e
      · rw [e4 j hj1 cj]
        exact sorted_le hS h1 hi (by omega) (by omega)
      · rw [e2 j (by omega)]
        rcases hlo with h | h | h
        · omega
        · omega
        · have a1 : lt d[s - 1]! d[i]! = false := sorted_le hS h1 hi (by omega) (by omega)
          have a2 : lt d[j]! d[e]! = false := sorted_le hS h2 hme (by omega) hj2
          exact hS.ntrans _ _ _ a2 (hS.ntrans _ _ _ h a1)
    · rw [e3 i (by omega) hij]
      by_cases cj : j < e
      · rw [e4 j hj1 cj]
        rcases hhi with h | h | h
        · omega
        · omega
        · have a1 : lt d[e - 1]! d[i - s + m]! = false := sorted_le hS h2 (by omega) (by omega) (by omega)
          have a2 : lt d[j - (e - m)]! d[s]! = false := sorted_le hS h1 ham (by omega) (by omega)
          have a3 : lt d[s]! d[e - 1]! = false := not_lt_of hS h
          exact hS.ntrans _ _ _ a2 (hS.ntrans _ _ _ a3 a1)
      · rw [e2 j (by omega)]
        exact sorted_le hS h2 (by omega) (by omega) hj2
/-- Each half sorted behind the turn: the whole. -/
theorem merge_halves {a mid b : Nat} {d1 d2 d3 : Array α} (hb : b ≤ d1.size) (ham : a ≤ mid) (hmb : mid ≤ b) (hx : ∀ i j, a ≤ i → i < mid → mid ≤ j → j < b → lt d1[j]! d1[i]! = false)
    (p1 : PermIn a mid d1 d2) (s1 : SortedIn lt a mid d2) (p2 : PermIn mid b d2 d3) (s2 : SortedIn lt mid b d3) : PermIn a b d1 d3 ∧ SortedIn lt a b d3 := by
  have hsz2 : d2.size = d1.size := p1.1
  refine ⟨permIn_trans _ _ _ _ _ (permIn_mono _ _ a mid a b (Nat.le_refl _) hmb hb p1) (permIn_mono _ _ mid b a b ham (Nat.le_refl _) (by omega) p2), ?_⟩
  have q1 : ∀ i j, a ≤ i → i < mid → mid ≤ j → j < b → lt d2[j]! d2[i]! = false := by
    intro i j hi hi2 hj hj2
    rw [p1.2.1 j (.inr hj)]
    exact permIn_all d1 d2 a mid (fun z => lt d1[j]! z = false) (by omega) p1 (fun i h h' => hx i j h h' hj hj2) i hi hi2
  have q2 : ∀ i j, a ≤ i → i < mid → mid ≤ j → j < b → lt d3[j]! d3[i]! = false := by
    intro i j hi hi2 hj hj2
    rw [p2.2.1 i (.inl hi2)]
    exact permIn_all d2 d3 mid b (fun z => lt z d2[i]! = false) (by omega) p2 (fun j h h' => q1 i j hi hi2 h h') j hj hj2
  refine sorted_join (m := mid) ?_ s2 q2
  intro i j hi hij hj
  rw [p2.2.1 i (.inl (by omega)), p2.2.1 j (.inl hj)]
  exact s1 i j hi hij hj
end
end Go.Proofs.YtogjcaakfnfapaaDoor
namespace Go.Proofs.YtogjcaakfnfapaaDoor
open Go.Shelf Go.RowKit Go.Lib Go.Sort
set_option linter.unusedVariables false
set_option linter.unusedSimpArgs false
section
variable {α : Type} [Inhabited α] {enc : α → List Value} {k : Nat}
theorem holdsK_own {w : World} {base g n cap : Nat} {e : TypeId} {l : List α} (hk : ∀ x, (enc x).length = k) (h0 : 0 < k) (h : w.ownsRow base e k (.slice (some ⟨g, 0, none⟩) n cap) n (l.flatMap enc)) : HoldsK enc k w g 0 l.toArray := by
  intro j hj
  rw [size_flatK] at hj
  have hj2 : j < l.length * k := by simpa using hj
  refine ⟨?_, h.frozenAt _⟩
  have hq : j / k < l.length := Nat.div_lt_of_lt_mul (by rw [Nat.mul_comm]; exact hj2)
  have hr : j % k < k := Nat.mod_lt _ h0
  have e1 := flat_get hk l (j / k) (j % k) hr hq
  rw [show j / k * k + j % k = j by rw [Nat.mul_comm]; exact Nat.div_add_mod j k] at e1
  rw [get_flatK enc k _ j hj]
  have e2 : l.toArray[j / k]! = l[j / k] := by simp [hq]
  rw [e2]
  have hr2 : j % k < (enc l[j / k]).length := by rw [hk]; exact hr
  rw [List.getElem?_eq_getElem hr2] at e1
  have e3 := h.cells (g := g) rfl j _ e1
  rw [Addr.add_lit, Nat.zero_add] at e3
  rw [Nat.zero_add]
  show w.cell? _ = some ((enc l[j / k])[j % k]!)
  rw [getElem!_pos (enc l[j / k]) (j % k) hr2]
  exact e3
theorem SWK.slice {w0 W : World} {g cap : Nat} {d0 d : Array α} (h : SWK enc k w0 g 0 d W) (hk : ∀ x, (enc x).length = k) (h0 : 0 < k) (hH : HoldsK enc k w0 g 0 d0) (hg : g < w0.heap.size) (hs : d.size = d0.size) (hc : d.size ≤ cap ∧ cap ≤ 9223372036854775807) : Sl enc W (.slice (some ⟨g, 0, none⟩) d.size cap) d.toList := by
  have hh := h.holds hg hH hs
  refine ⟨_, cap, by simp, by simpa using hc, (fun e => by cases e), fun _ => ⟨g, 0, rfl, fun j u hu => ?_⟩⟩
  have hj : j < d.size * k := by
    have := (List.getElem?_eq_some_iff.1 hu).1
    rw [flat_length hk] at this
    simpa using this
  have hq : j / k < d.size := Nat.div_lt_of_lt_mul (by rw [Nat.mul_comm]; exact hj)
  have hr : j % k < k := Nat.mod_lt _ h0
  have e1 := flat_get hk d.toList (j / k) (j % k) hr (by simpa using hq)
  rw [show j / k * k + j % k = j by rw [Nat.mul_comm]; exact Nat.div_add_mod j k, hu] at e1
  have hx : d[j / k]! = d.toList[j / k]'(by simpa using hq) := by simp [hq]
  have := HoldsK.cells hh hk hq (j % k) u (by rw [hx]; exact e1.symm)
  rw [Addr.add_lit, Nat.zero_add, show j / k * k + j % k = j by rw [Nat.mul_comm]; exact Nat.div_add_mod j k] at this
  rw [Nat.zero_add]; exact this
theorem SWK.grownBy {w0 W : World} {g : Nat} {d : Array α} (h : SWK enc k w0 g 0 d W) : w0.grownBy W (some g) := by
  obtain ⟨n, os, rfl⟩ := h
  unfold sortWorldK putRowK
  refine ⟨rfl, rfl, rfl, by simp, fun b hk hne => ?_⟩
  rw [heap_grow_old _ _ (by simpa using hk)]
  have : g ≠ b := fun e => hne (by rw [e])
  simp [putRow, mapBlock, Sort.ahead, Array.getElem?_modify, this]
end
end Go.Proofs.YtogjcaakfnfapaaDoor
namespace Go.Proofs.YtogjcaakfnfapaaDoor
open Go.RowKit
set_option linter.unusedVariables false
set_option linter.unusedSimpArgs false
set_option maxRecDepth 100000
def cmpN (x y : Lb) : Int := cmpS x.1 y.1
theorem swo_of {α : Type} {cf : α → α → Int} (neg : ∀ x y, cf y x = - cf x y) (tr : ∀ x y z, cf x y ≤ 0 → cf y z ≤ 0 → cf x z ≤ 0 ∧ (cf x y < 0 ∨ cf y z < 0 → cf x z < 0)) : Sort.SWO (ltOf cf) where
  irrefl x := by have := neg x x; exact decide_eq_false (by omega)
  trans x y z h1 h2 := by
    have h1 : cf x y < 0 := of_decide_eq_true h1
    have h2 : cf y z < 0 := of_decide_eq_true h2
    exact decide_eq_true ((tr x y z (by omega) (by omega)).2 (.inl h1))
  ntrans x y z h1 h2 := by
    have h1 : ¬ cf x y < 0 := of_decide_eq_false h1
    have h2 : ¬ cf y z < 0 := of_decide_eq_false h2
    have n1 := neg x y
    have n2 := neg y z
    have n3 := neg x z
    have := (tr z y x (by omega) (by omega)).1
    exact decide_eq_false (by omega)
theorem cmpN_swo : Sort.SWO (ltOf cmpN) := swo_of (fun x y => cmpS_neg x.1 y.1) (fun x y z h1 h2 => cmpS_trans h1 h2)
theorem cmpLays_of {g : Nat} {α : Type} [Inhabited α] {enc : α → List Value} {k : Nat} {cf : α → α → Int} {blk off size : Nat} {w0 : World} (h : ∀ x y w, Calls Tryd.prog g #[.agg (enc x).toArray, .agg (enc y).toArray] w fun e w' => e = .returned (.int .i64 (cf x y)) ∧ Grew w w') : CmpLays Tryd.prog g #[] enc k cf blk off size w0 := by
  intro m os dk hs x y
  refine (h x y _).mono ?_
  rintro e w' ⟨rfl, q, os', rfl⟩
  exact ⟨rfl, q, os', rfl⟩
end Go.Proofs.YtogjcaakfnfapaaDoor
namespace Go.Proofs.YtogjcaakfnfapaaDoor
open Go.RowKit
set_option linter.unusedVariables false
set_option linter.unusedSimpArgs false
set_option maxRecDepth 100000
theorem name_qs (s : ByteArray) (w : World) : Calls Tryd.prog 102 #[.string s] w fun e w' => e = .returned (.bool (nameB s)) ∧ w = w' := (name_any s w).mono fun _ _ h => ⟨h.1, h.2.symm⟩
def okFrom : Option ByteArray → List Lb → Bool
  | _, [] => true
  | p, x :: r => nameB x.1 && decide (x.2.size ≤ 256) && !(decide (p = some x.1)) && okFrom (some x.1) r
def keepL (l : List Lb) : List Lb := l.filter fun x => decide (0 < x.2.size)
def setOk (l : List Lb) : Bool := okFrom none l && decide ((keepL l).length ≤ 32)
def prevO (cs : List Lb) : Nat → Option ByteArray
  | 0 => none
  | k + 1 => some (lx cs k).1
theorem keep_snoc (l : List Lb) (k : Nat) (h : k < l.length) : keepL (l.take (k + 1)) = keepL (l.take k) ++ if 0 < (lx l k).2.size then [lx l k] else [] := by
  unfold keepL
  rw [lx_at h, List.take_succ_eq_append_getElem h, List.filter_append]
  congr 1
  by_cases h : 0 < l[k].2.size <;> simp [h]
theorem keep_take_len (l : List Lb) (k : Nat) : (keepL (l.take k)).length ≤ l.length := Nat.le_trans (List.length_filter_le _ _) (by simp; omega)
end Go.Proofs.YtogjcaakfnfapaaDoor
