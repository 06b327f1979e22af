/- Sets of labels, in plain words: what a sorted list without its empty ones is; the document's insertion. -/
import Derived.Test.YtkflhfdpdgnbfaaLa12
namespace Go.Proofs.Ytkflhfdpdgnbfaa
open Go.RowKit
set_option linter.unusedVariables false
set_option linter.unusedSimpArgs false
def okX (x : Lb) : Prop := nameB x.1 = true ∧ x.2.size ≤ 256
def OkP (l : List Lb) : Prop := (∀ x ∈ l, okX x) ∧ l.Pairwise fun x y => x.1 ≠ y.1
def StrictL (l : List Lb) : Prop := l.Pairwise fun x y => cmpN x y < 0
theorem okP_perm {l l' : List Lb} (h : l'.Perm l) : OkP l' ↔ OkP l := by
  unfold OkP
  rw [h.pairwise_iff (fun hxy e => hxy e.symm)]
  constructor
  · rintro ⟨h1, h2⟩; exact ⟨fun x hx => h1 x (h.mem_iff.2 hx), h2⟩
  · rintro ⟨h1, h2⟩; exact ⟨fun x hx => h1 x (h.mem_iff.1 hx), h2⟩
theorem cmpN_ne {x y : Lb} (h : x.1 ≠ y.1) : cmpN x y ≠ 0 := fun e => h ((cmpS_eq _ _).1 e)
theorem cmpN_self (x : Lb) : cmpN x x = 0 := (cmpS_eq _ _).2 rfl
theorem okFrom_iff (l : List Lb) : ∀ (p : Option ByteArray), l.Pairwise (fun x y => cmpN x y ≤ 0) → (okFrom p l = true ↔ (∀ x ∈ l, okX x) ∧ (∀ x r, l = x :: r → p ≠ some x.1) ∧ l.Pairwise fun x y => x.1 ≠ y.1) := by
  induction l with
  | nil => intro p _; simp [okFrom]
  | cons x r ih =>
    intro p hs
    rw [List.pairwise_cons] at hs
    obtain ⟨hs1, hs2⟩ := hs
    rw [okFrom]
    simp only [Bool.and_eq_true, Bool.not_eq_true', decide_eq_true_eq, decide_eq_false_iff_not]
    rw [ih (some x.1) hs2, List.pairwise_cons]
    constructor
    · rintro ⟨⟨⟨h1, h2⟩, h3⟩, h4, h5, h6⟩
      refine ⟨?_, ?_, ?_, h6⟩
      · intro y hy
        rcases List.mem_cons.1 hy with rfl | hy
        · exact ⟨h1, h2⟩
        · exact h4 y hy
      · intro y t e; injection e with e1 e2; subst e1; exact h3
      · intro y hy e
        cases r with
        | nil => cases hy
        | cons z t =>
          have hne : x.1 ≠ z.1 := fun h => h5 z t rfl (by rw [h])
          have hxz : cmpN x z < 0 := by
            have h1 := hs1 z (by simp)
            have h2 := cmpN_ne hne
            omega
          rcases List.mem_cons.1 hy with rfl | hy
          · exact hne e
          · have hzy := (List.pairwise_cons.1 hs2).1 y hy
            unfold cmpN at hxz hzy
            have h3 := (cmpS_trans (a := x.1) (b := z.1) (c := y.1) (by omega) hzy).2 (.inl hxz)
            rw [e] at h3
            have := (cmpS_eq y.1 y.1).2 rfl
            omega
    · rintro ⟨h1, h2, h3, h4⟩
      exact ⟨⟨⟨(h1 x (by simp)).1, (h1 x (by simp)).2⟩, h2 x r rfl⟩, fun y hy => h1 y (by simp [hy]), fun y t e => by subst e; exact fun he => h3 y (by simp) (by injection he), h4⟩
theorem strict_of {l : List Lb} (h1 : l.Pairwise (fun x y => cmpN x y ≤ 0)) (h2 : l.Pairwise fun x y => x.1 ≠ y.1) : StrictL l := by
  unfold StrictL
  refine (h1.and h2).imp ?_
  rintro x y ⟨h3, h4⟩
  have := cmpN_ne h4
  omega
theorem strict_ne {l : List Lb} (h : StrictL l) : l.Pairwise fun x y => x.1 ≠ y.1 := by
  refine List.Pairwise.imp ?_ h
  intro x y h3 e
  have := (cmpS_eq x.1 y.1).2 e
  unfold cmpN at h3
  omega
theorem strict_unique : ∀ (a b : List Lb), StrictL a → StrictL b → a.Perm b → a = b := by
  intro a
  induction a with
  | nil => intro b _ _ h; exact (List.nil_perm.1 h).symm
  | cons x r ih =>
    intro b ha hb h
    cases b with
    | nil => exact absurd h.length_eq (by simp)
    | cons y t =>
      have hxy : x = y := by
        have h1 : x ∈ y :: t := h.mem_iff.1 (by simp)
        have h2 : y ∈ x :: r := h.mem_iff.2 (by simp)
        rcases List.mem_cons.1 h1 with h1 | h1
        · exact h1
        · rcases List.mem_cons.1 h2 with h2 | h2
          · exact h2.symm
          · have k1 := (List.pairwise_cons.1 hb).1 x h1
            have k2 := (List.pairwise_cons.1 ha).1 y h2
            have := cmpS_neg x.1 y.1
            unfold cmpN at k1 k2; omega
      subst hxy
      rw [ih t (List.pairwise_cons.1 ha).2 (List.pairwise_cons.1 hb).2 ((List.perm_cons _).1 h)]
/-- A label put into a list that rises. -/
def putL (x : Lb) : List Lb → List Lb
  | [] => [x]
  | y :: r => if cmpS y.1 x.1 < 0 then y :: putL x r else x :: y :: r
def insFrom (acc : List Lb) : List Lb → List Lb
  | [] => acc
  | x :: r => insFrom (putL x acc) r
def insL (l : List Lb) : List Lb := insFrom [] l
theorem put_perm (x : Lb) (l : List Lb) : (putL x l).Perm (x :: l) := by
  induction l with
  | nil => exact List.Perm.refl _
  | cons y r ih =>
    rw [putL]
    by_cases h : cmpS y.1 x.1 < 0
    · rw [if_pos h]; exact (ih.cons y).trans (List.Perm.swap x y r)
    · rw [if_neg h]
theorem put_length (x : Lb) (l : List Lb) : (putL x l).length = l.length + 1 := by rw [(put_perm x l).length_eq]; rfl
theorem put_strict {x : Lb} {l : List Lb} (hl : StrictL l) (hx : ∀ y ∈ l, y.1 ≠ x.1) : StrictL (putL x l) := by
  induction l with
  | nil => exact List.pairwise_singleton _ _
  | cons y r ih =>
    obtain ⟨h1, h2⟩ := List.pairwise_cons.1 hl
    rw [putL]
    by_cases h : cmpS y.1 x.1 < 0
    · rw [if_pos h]
      refine List.pairwise_cons.2 ⟨fun z hz => ?_, ih h2 (fun z hz => hx z (by simp [hz]))⟩
      rcases List.mem_cons.1 ((put_perm x r).mem_iff.1 hz) with rfl | hz
      · exact h
      · exact h1 z hz
    · rw [if_neg h]
      have hxy : cmpN x y < 0 := by
        have := cmpS_neg x.1 y.1
        have h3 : cmpS y.1 x.1 ≠ 0 := fun e => hx y (by simp) ((cmpS_eq _ _).1 e)
        unfold cmpN; omega
      refine List.pairwise_cons.2 ⟨fun z hz => ?_, hl⟩
      rcases List.mem_cons.1 hz with rfl | hz
      · exact hxy
      · have := h1 z hz
        unfold cmpN at *
        exact (cmpS_trans (a := x.1) (b := y.1) (c := z.1) (by omega) (by omega)).2 (.inl hxy)
theorem put_at (x : Lb) (l : List Lb) : ∀ i, i ≤ l.length → (∀ j, j < i → cmpS (lx l j).1 x.1 < 0) → (i < l.length → ¬ cmpS (lx l i).1 x.1 < 0) → putL x l = l.take i ++ x :: l.drop i := by
  induction l with
  | nil => intro i hi _ _; simp at hi; subst hi; rfl
  | cons y r ih =>
    intro i hi h1 h2
    cases i with
    | zero =>
      rw [putL, if_neg (by simpa [lx] using h2 (by simp))]; rfl
    | succ i =>
      rw [putL, if_pos (by simpa [lx] using h1 0 (by omega)), ih i (by simpa using hi) (fun j hj => by simpa [lx] using h1 (j + 1) (by omega)) (fun h => by simpa [lx] using h2 (by simpa using h))]
      rfl
theorem insFrom_perm (l : List Lb) : ∀ acc, (insFrom acc l).Perm (acc ++ l) := by
  induction l with
  | nil => intro acc; simp [insFrom]
  | cons x r ih =>
    intro acc
    rw [insFrom]
    refine (ih _).trans ?_
    refine ((put_perm x acc).append_right r).trans ?_
    exact (List.perm_middle).symm
theorem ins_perm (l : List Lb) : (insL l).Perm l := by
  have := insFrom_perm l []
  rw [List.nil_append] at this
  exact this
theorem ins_length (l : List Lb) : (insL l).length = l.length := (ins_perm l).length_eq
theorem insFrom_snoc (l : List Lb) : ∀ acc x, insFrom acc (l ++ [x]) = putL x (insFrom acc l) := by
  induction l with
  | nil => intro acc x; rfl
  | cons y r ih => intro acc x; exact ih _ x
theorem ins_snoc (l : List Lb) (x : Lb) : insL (l ++ [x]) = putL x (insL l) := insFrom_snoc l [] x
theorem insFrom_strict (l : List Lb) : ∀ acc, StrictL acc → (acc ++ l).Pairwise (fun x y => x.1 ≠ y.1) → StrictL (insFrom acc l) := by
  induction l with
  | nil => intro acc h _; exact h
  | cons x r ih =>
    intro acc h hp
    have hp1 := List.pairwise_append.1 hp
    refine ih _ (put_strict h fun y hy => hp1.2.2 y hy x (by simp)) ?_
    refine List.Perm.pairwise (R := fun x y : Lb => x.1 ≠ y.1) (l := acc ++ x :: r) ?_ hp (fun hxy e => hxy e.symm)
    exact List.perm_middle.trans ((put_perm x acc).symm.append_right r)
theorem ins_strict {l : List Lb} (h : l.Pairwise fun x y => x.1 ≠ y.1) : StrictL (insL l) := insFrom_strict l [] List.Pairwise.nil (by simpa using h)
theorem keep_perm {l l' : List Lb} (h : l'.Perm l) : (keepL l').Perm (keepL l) := h.filter _
theorem keep_pair {R : Lb → Lb → Prop} {l : List Lb} (h : l.Pairwise R) : (keepL l).Pairwise R := h.sublist List.filter_sublist
/-- What the code's Set makes is what the document's makes. -/
theorem set_same {l l' : List Lb} (hp : l'.Perm l) (hs : l'.Pairwise fun x y => cmpN x y ≤ 0) : (setOk l' = true ↔ OkP l ∧ (keepL l).length ≤ 32) ∧ (setOk l' = true → keepL l' = insL (keepL l)) := by
  have h1 : setOk l' = true ↔ OkP l ∧ (keepL l).length ≤ 32 := by
    unfold setOk
    rw [Bool.and_eq_true, decide_eq_true_eq, (keep_perm hp).length_eq, okFrom_iff l' none hs, ← okP_perm hp]
    unfold OkP
    constructor
    · rintro ⟨⟨a, _, b⟩, c⟩; exact ⟨⟨a, b⟩, c⟩
    · rintro ⟨⟨a, b⟩, c⟩; exact ⟨⟨a, (fun _ _ _ h => nomatch h), b⟩, c⟩
  refine ⟨h1, fun h => ?_⟩
  obtain ⟨ho, _⟩ := h1.1 h
  have ho' := (okP_perm hp).2 ho
  exact strict_unique _ _ (strict_of (keep_pair hs) (keep_pair ho'.2)) (ins_strict (keep_pair ho.2)) ((keep_perm hp).trans (ins_perm _).symm)
/-- What right is. -/
theorem rightFrom_iff (l : List Lb) : ∀ last, (rightFrom last l = true ↔ (∀ x ∈ l, labOk x = true) ∧ StrictL l ∧ ∀ x r, l = x :: r → cmpS last x.1 < 0) := by
  induction l with
  | nil => intro last; simp [rightFrom, StrictL]
  | cons x r ih =>
    intro last
    rw [rightFrom]
    simp only [Bool.and_eq_true, decide_eq_true_eq]
    rw [ih x.1]
    unfold StrictL
    rw [List.pairwise_cons]
    constructor
    · rintro ⟨⟨h1, h2⟩, h3, h4, h5⟩
      refine ⟨fun y hy => ?_, ⟨fun y hy => ?_, h4⟩, fun y t e => by injection e with e1 e2; subst e1; exact h1⟩
      · rcases List.mem_cons.1 hy with rfl | hy
        · exact h2
        · exact h3 y hy
      · cases r with
        | nil => cases hy
        | cons z t =>
          have hxz := h5 z t rfl
          rcases List.mem_cons.1 hy with rfl | hy
          · exact hxz
          · have := (List.pairwise_cons.1 h4).1 y hy
            unfold cmpN at *
            exact (cmpS_trans (a := x.1) (b := z.1) (c := y.1) (by omega) (by omega)).2 (.inl hxz)
    · rintro ⟨h1, ⟨h2, h3⟩, h4⟩
      exact ⟨⟨h4 x r rfl, h1 x (by simp)⟩, fun y hy => h1 y (by simp [hy]), h3, fun y t e => by subst e; exact h2 y (by simp)⟩
theorem right_iff (l : List Lb) : rightL l = true ↔ (∀ x ∈ l, labOk x = true) ∧ StrictL l ∧ l.length ≤ 32 := by
  unfold rightL
  rw [Bool.and_eq_true, decide_eq_true_eq, rightFrom_iff]
  constructor
  · rintro ⟨⟨h1, h2, _⟩, h3⟩; exact ⟨h1, h2, h3⟩
  · rintro ⟨h1, h2, h3⟩
    refine ⟨⟨h1, h2, fun x r e => ?_⟩, h3⟩
    have := h1 x (by rw [e]; simp)
    unfold labOk at this
    simp only [Bool.and_eq_true, decide_eq_true_eq] at this
    exact empty_less (name_size this.1.1)
theorem labOk_iff (x : Lb) : labOk x = true ↔ okX x ∧ 0 < x.2.size := by
  unfold labOk okX
  simp only [Bool.and_eq_true, decide_eq_true_eq]
  exact ⟨fun ⟨⟨a, b⟩, c⟩ => ⟨⟨a, c⟩, b⟩, fun ⟨⟨a, c⟩, b⟩ => ⟨⟨a, b⟩, c⟩⟩
theorem right_of_set {l : List Lb} (h : OkP l ∧ (keepL l).length ≤ 32) : rightL (insL (keepL l)) = true := by
  rw [right_iff]
  refine ⟨fun x hx => ?_, ins_strict (keep_pair h.1.2), by rw [ins_length]; exact h.2⟩
  have hx := (ins_perm _).mem_iff.1 hx
  unfold keepL at hx
  rw [List.mem_filter, decide_eq_true_eq] at hx
  exact (labOk_iff x).2 ⟨h.1.1 x hx.1, hx.2⟩
theorem okP_right {l : List Lb} (h : rightL l = true) : OkP l ∧ (keepL l).length ≤ 32 ∧ keepL l = l ∧ insL l = l := by
  obtain ⟨h1, h2, h3⟩ := (right_iff l).1 h
  have hk : keepL l = l := List.filter_eq_self.2 fun x hx => decide_eq_true ((labOk_iff x).1 (h1 x hx)).2
  exact ⟨⟨fun x hx => ((labOk_iff x).1 (h1 x hx)).1, strict_ne h2⟩, by rw [hk]; exact h3, hk, strict_unique _ _ (ins_strict (strict_ne h2)) h2 (ins_perm l)⟩
end Go.Proofs.Ytkflhfdpdgnbfaa
