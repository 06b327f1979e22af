/- Lists' order: the code's. -/
import Derived.Test.YtkflhfdpdgnbfaaLa4
namespace Go.Proofs.Ytkflhfdpdgnbfaa
open Go.RowKit
set_option linter.unusedVariables false
set_option linter.unusedSimpArgs false
set_option maxRecDepth 100000
set_option maxHeartbeats 2000000 in
theorem cmpfn_any (v1 v2 : Value) (xs ys : List Lb) (w : World) (h1 : Sl lenc w v1 xs) (h2 : Sl lenc w v2 ys) :
    Calls Try.prog 59 #[v1, v2, .func (.func 60) #[] #[]] w fun e w' => e = .returned (.int .i64 (cmpL xs ys)) ∧ Grew w w' := by
  obtain ⟨a, cap, rfl, hlen, -, hc⟩ := h1.split lenc_len
  obtain ⟨a2, cap2, rfl, hlen2, -, hc2⟩ := h2.split lenc_len
  have HC := Lib.hid hc
  have HC2 := Lib.hid hc2
  clear hc hc2 h1 h2
  go_enter Try.func59, Try.ntmps59
  go_wp2_with fail
  go_loopw [13] (fun i wr => ∃ k : Nat, k ≤ xs.length ∧ k ≤ ys.length ∧ i = .int .i64 k ∧ Hid (cmpL (xs.drop k) (ys.drop k) = cmpL xs ys) ∧ Hid (Grew w wr)) (fun i _ => xs.length - (intOf i).toNat)
  case atStart => exact ⟨0, Nat.zero_le _, Nat.zero_le _, rfl, rfl, Grew.refl _⟩
  case round =>
    obtain ⟨k, hk, hk2, rfl, HV, HG⟩ := hrel
    by_cases hlt : k < xs.length
    · have hltz : (k : Int) < (xs.length : Int) := by omega
      have h00 : (0 : Int) ≤ (k : Int) := by omega
      obtain ⟨b, off, rfl, hk0, hk1⟩ := lab_cells HC.out HG.out.below (Nat.le_refl _) hlt
      by_cases hlt2 : k < ys.length
      · have hltz2 : (k : Int) < (ys.length : Int) := by omega
        have hltz3 : ¬ (ys.length : Int) ≤ (k : Int) := by omega
        obtain ⟨b2, off2, rfl, hj0, hj1⟩ := lab_cells HC2.out HG.out.below (Nat.le_refl _) hlt2
        have HD := Lib.hid (show xs.drop k = lx xs k :: xs.drop (k + 1) by rw [List.drop_eq_getElem_cons hlt]; simp [lx, hlt])
        have HD2 := Lib.hid (show ys.drop k = lx ys k :: ys.drop (k + 1) by rw [List.drop_eq_getElem_cons hlt2]; simp [lx, hlt2])
        have hne : b2 ≠ wr.heap.size := by
          have := World.block_lt_of_cell? wr _ hj0
          have h2 : b2 < wr.heap.size := this
          omega
        have hlt3 : b2 < wr.heap.size := World.block_lt_of_cell? wr _ hj0
        go_wp2_with fail
        refine (cmp1_any (lx xs k) (lx ys k) _).mono ?_
        rintro e w1 ⟨rfl, hg⟩
        have HG1 : Hid (Grew w w1) := ((HG.out.alloc _).alloc _).trans hg
        clear hg
        obtain ⟨p, hp⟩ : ∃ p, p = cmpP (lx xs k) (lx ys k) := ⟨_, rfl⟩
        rw [← hp]
        have HPP := Lib.hid hp
        clear hp
        by_cases h0 : p = 0
        · have h0b : (p == 0) = true := by simpa using h0
          go_wp2_with fail
          go_roundw
          case rel => exact ⟨k + 1, by omega, by omega, by go_num, by show _ = _; rw [← HV.out, HD.out, HD2.out, cmpL, ← HPP.out, if_pos h0], HG1⟩
          case measure => simp [intOf]; omega
        · have h0b : (p == 0) = false := by simpa using h0
          go_wp2_with fail
          go_ret
          exact ⟨by rw [← HV.out, HD.out, HD2.out, cmpL, ← HPP.out, if_neg h0] <;> rfl, HG1.out⟩
      · have hltz2 : (ys.length : Int) ≤ (k : Int) := by omega
        have e2 : ys.drop k = [] := List.drop_eq_nil_of_le (by omega)
        have e1 : xs.drop k = lx xs k :: xs.drop (k + 1) := by rw [List.drop_eq_getElem_cons hlt]; simp [lx, hlt]
        have HE := Lib.hid (show cmpL xs ys = 1 by rw [← HV.out, e1, e2]; rfl)
        clear e1 e2
        go_wp2_with fail
        go_ret
        exact ⟨by rw [HE.out] <;> rfl, by first | exact HG.out.alloc _ | exact HG.out⟩
    · have hltz : ¬ (k : Int) < (xs.length : Int) := by omega
      have e1 : xs.drop k = [] := List.drop_eq_nil_of_le (by omega)
      by_cases hlt2 : k < ys.length
      · have e2 : ys.drop k = lx ys k :: ys.drop (k + 1) := by rw [List.drop_eq_getElem_cons hlt2]; simp [lx, hlt2]
        have hz1 : (xs.length : Int) < (ys.length : Int) := by omega
        have HE := Lib.hid (show cmpL xs ys = -1 by rw [← HV.out, e1, e2]; rfl)
        clear e1 e2
        go_wp2_with fail
        go_ret
        exact ⟨by rw [HE.out] <;> rfl, HG.out⟩
      · have e2 : ys.drop k = [] := List.drop_eq_nil_of_le (by omega)
        have hz1 : ¬ (xs.length : Int) < (ys.length : Int) := by omega
        have HE := Lib.hid (show cmpL xs ys = 0 by rw [← HV.out, e1, e2]; rfl)
        clear e1 e2
        go_wp2_with fail
        go_ret
        exact ⟨by rw [HE.out] <;> rfl, HG.out⟩
theorem compare_any (v1 v2 : Value) (xs ys : List Lb) (w : World) (h1 : Sl lenc w v1 xs) (h2 : Sl lenc w v2 ys) :
    Calls Try.prog 32 #[v1, v2] w fun e w' => e = .returned (.int .i64 (cmpL xs ys)) ∧ Grew w w' := by
  have HF := Lib.hid (cmpfn_any v1 v2 xs ys w h1 h2)
  clear h1 h2
  go_enter Try.func32, Try.ntmps32
  go_wp2_with fail
  refine HF.out.mono ?_
  rintro e w1 ⟨rfl, hg⟩
  go_wp2_with fail
  go_ret
  exact ⟨rfl, hg⟩
/-- Are two lists the same? -/
theorem rsame_any (v1 v2 : Value) (xs ys : List Lb) (w : World) (h1 : Sl lenc w v1 xs) (h2 : Sl lenc w v2 ys) :
    Calls Try.prog 63 #[v1, v2] w fun e w' => e = .returned (.bool (cmpL xs ys == 0)) ∧ ∃ n, w' = w.drewN n := by
  have HF := Lib.hid (rcompare_any v1 v2 xs ys w h1 h2)
  clear h1 h2
  go_enter Try.func63, Try.ntmps63
  go_wp2_with fail
  refine HF.out.mono ?_
  rintro e w1 ⟨rfl, n, rfl⟩
  go_wp2_with fail
  all_goals go_ret
  all_goals exact ⟨by first | rfl | simp_all, n, rfl⟩

/-! The order in plain words. -/
theorem cmpS_neg (a b : ByteArray) : cmpS b a = - cmpS a b := cb_neg _ _
theorem ba_eq {a b : ByteArray} (h : a.data.toList = b.data.toList) : a = b := by
  cases a; cases b
  simp only [Array.toList_inj] at h
  subst h; rfl
theorem cmpS_eq (a b : ByteArray) : cmpS a b = 0 ↔ a = b := by
  unfold cmpS
  rw [cb_eq]
  exact ⟨ba_eq, fun h => by rw [h]⟩
theorem cmpS_trans {a b c : ByteArray} (h1 : cmpS a b ≤ 0) (h2 : cmpS b c ≤ 0) : cmpS a c ≤ 0 ∧ (cmpS a b < 0 ∨ cmpS b c < 0 → cmpS a c < 0) := cb_trans _ _ _ h1 h2
theorem cmpP_neg (x y : Lb) : cmpP y x = - cmpP x y := by
  unfold cmpP
  rw [cmpS_neg x.1 y.1, cmpS_neg x.2 y.2]
  by_cases h : cmpS x.1 y.1 = 0
  · rw [if_pos h, if_pos (by omega)]
  · rw [if_neg h, if_neg (by omega)]
theorem cmpP_eq (x y : Lb) : cmpP x y = 0 ↔ x = y := by
  unfold cmpP
  by_cases h : cmpS x.1 y.1 = 0
  · rw [if_pos h, cmpS_eq]
    have := (cmpS_eq _ _).1 h
    exact ⟨fun h2 => Prod.ext this h2, fun h2 => by rw [h2]⟩
  · rw [if_neg h]
    exact ⟨fun h2 => absurd h2 h, fun h2 => absurd ((cmpS_eq _ _).2 (by rw [h2])) h⟩
theorem cmpP_trans {x y z : Lb} (h1 : cmpP x y ≤ 0) (h2 : cmpP y z ≤ 0) : cmpP x z ≤ 0 ∧ (cmpP x y < 0 ∨ cmpP y z < 0 → cmpP x z < 0) := by
  unfold cmpP at *
  by_cases a : cmpS x.1 y.1 = 0
  · by_cases b : cmpS y.1 z.1 = 0
    · have e1 := (cmpS_eq _ _).1 a
      have e2 := (cmpS_eq _ _).1 b
      rw [if_pos a] at h1 ⊢
      rw [if_pos b] at h2 ⊢
      rw [if_pos (by rw [e1]; exact b)]
      exact cmpS_trans h1 h2
    · have e1 := (cmpS_eq _ _).1 a
      rw [if_neg b] at h2 ⊢
      rw [e1, if_neg b]
      exact ⟨h2, fun _ => by omega⟩
  · rw [if_neg a] at h1 ⊢
    by_cases b : cmpS y.1 z.1 = 0
    · have e2 := (cmpS_eq _ _).1 b
      rw [← e2, if_neg a]
      exact ⟨h1, fun _ => by omega⟩
    · rw [if_neg b] at h2 ⊢
      have := (cmpS_trans h1 h2).2 (.inl (by omega))
      rw [if_neg (by omega)]
      exact ⟨by omega, fun _ => this⟩
theorem cmpL_neg : ∀ x y : List Lb, cmpL y x = - cmpL x y := by
  intro x
  induction x with
  | nil => intro y; cases y <;> simp [cmpL]
  | cons a x ih =>
    intro y
    cases y with
    | nil => simp [cmpL]
    | cons b y =>
      simp only [cmpL]
      rw [cmpP_neg a b]
      by_cases h : cmpP a b = 0
      · rw [if_pos h, if_pos (by omega)]; exact ih y
      · rw [if_neg h, if_neg (by omega)]
theorem cmpL_eq : ∀ x y : List Lb, cmpL x y = 0 ↔ x = y := by
  intro x
  induction x with
  | nil => intro y; cases y <;> simp [cmpL]
  | cons a x ih =>
    intro y
    cases y with
    | nil => simp [cmpL]
    | cons b y =>
      simp only [cmpL]
      by_cases h : cmpP a b = 0
      · rw [if_pos h, ih, (cmpP_eq _ _).1 h]; simp
      · rw [if_neg h]
        exact ⟨fun h2 => absurd h2 h, fun h2 => by injection h2 with h3; exact absurd ((cmpP_eq _ _).2 h3) h⟩
theorem cmpL_trans : ∀ x y z : List Lb, cmpL x y ≤ 0 → cmpL y z ≤ 0 → cmpL x z ≤ 0 ∧ (cmpL x y < 0 ∨ cmpL y z < 0 → cmpL x z < 0) := by
  intro x
  induction x with
  | nil => intro y z; cases y <;> cases z <;> simp [cmpL]
  | cons a x ih =>
    intro y z
    cases y with
    | nil => simp [cmpL]
    | cons b y =>
      cases z with
      | nil => intro h1 h2; simp [cmpL] at h2
      | cons c z =>
        simp only [cmpL]
        by_cases h1 : cmpP a b = 0
        · have e1 := (cmpP_eq _ _).1 h1
          subst e1
          rw [if_pos h1]
          by_cases h2 : cmpP a c = 0
          · simp only [if_pos h2]; exact ih y z
          · simp only [if_neg h2]; intro _ h; exact ⟨h, fun _ => by omega⟩
        · rw [if_neg h1]
          by_cases h2 : cmpP b c = 0
          · have e2 := (cmpP_eq _ _).1 h2
            subst e2
            simp only [if_neg h1, if_pos h2]
            intro h _; exact ⟨h, fun _ => by omega⟩
          · rw [if_neg h2]
            intro h3 h4
            have := (cmpP_trans h3 h4).2 (.inl (by omega))
            rw [if_neg (by omega)]
            exact ⟨by omega, fun _ => this⟩
end Go.Proofs.Ytkflhfdpdgnbfaa
