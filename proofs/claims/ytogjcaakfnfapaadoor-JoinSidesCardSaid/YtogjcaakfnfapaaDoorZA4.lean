/- Sets of labels, in plain words: what a sorted list without its empty ones is; the document's insertion. The document's put: a label into a list that rises. The guards of chapter 3's laws: Few, names. Points: how a vector reads. Few points. Whether points are a vector: the document's walk. Whether two vectors are the same: the document's walk. Plain law: points in order. The library's stable sort at elements of k cells: swapRange, rotate. (Several texts in one file, by merge.py.) -/
import Derived.Test.YtogjcaakfnfapaaDoorZA3
import Derived.Deep.RegionHeld3
import Derived.Deep.AppendLies
import Derived.Deep.DrawnRows
import Derived.Outline
import Derived.Test.YtogjcaakfnfapaaDoorZA1
import Derived.Deep.LoopGhost
import Derived.BigRegion
import Derived.Deep.DeepCutAuto
namespace Go.Proofs.YtogjcaakfnfapaaDoor
open Go.RowKit
set_option linter.unusedVariables false
set_option linter.unusedSimpArgs false
def okX (x : Lb) : Prop := nameB x.1 = true ∧ x.2.size ≤ 256
def OkP (l : List Lb) : Prop := (∀ x ∈ l, okX x) ∧ l.Pairwise fun x y => x.1 ≠ y.1
def StrictL (l : List Lb) : Prop := l.Pairwise fun x y => cmpN x y < 0
theorem okP_perm {l l' : List Lb} (h : l'.Perm l) : OkP l' ↔ OkP l := by
  unfold OkP
  rw [h.pairwise_iff (fun hxy e => hxy e.symm)]
  constructor
  · rintro ⟨h1, h2⟩; exact ⟨fun x hx => h1 x (h.mem_iff.2 hx), h2⟩
  · rintro ⟨h1, h2⟩; exact ⟨fun x hx => h1 x (h.mem_iff.1 hx), h2⟩
theorem cmpN_ne {x y : Lb} (h : x.1 ≠ y.1) : cmpN x y ≠ 0 := fun e => h ((cmpS_eq _ _).1 e)
theorem cmpN_self (x : Lb) : cmpN x x = 0 := (cmpS_eq _ _).2 rfl
theorem okFrom_iff (l : List Lb) : ∀ (p : Option ByteArray), l.Pairwise (fun x y => cmpN x y ≤ 0) → (okFrom p l = true ↔ (∀ x ∈ l, okX x) ∧ (∀ x r, l = x :: r → p ≠ some x.1) ∧ l.Pairwise fun x y => x.1 ≠ y.1) := by
  induction l with
  | nil => intro p _; simp [okFrom]
  | cons x r ih =>
    intro p hs
    rw [List.pairwise_cons] at hs
    obtain ⟨hs1, hs2⟩ := hs
    rw [okFrom]
    simp only [Bool.and_eq_true, Bool.not_eq_true', decide_eq_true_eq, decide_eq_false_iff_not]
    rw [ih (some x.1) hs2, List.pairwise_cons]
    constructor
    · rintro ⟨⟨⟨h1, h2⟩, h3⟩, h4, h5, h6⟩
      refine ⟨?_, ?_, ?_, h6⟩
      · intro y hy
        rcases List.mem_cons.1 hy with rfl | hy
        · exact ⟨h1, h2⟩
        · exact h4 y hy
      · intro y t e; injection e with e1 e2; subst e1; exact h3
      · intro y hy e
        cases r with
        | nil => cases hy
        | cons z t =>
          have hne : x.1 ≠ z.1 := fun h => h5 z t rfl (by rw [h])
          have hxz : cmpN x z < 0 := by
            have h1 := hs1 z (by simp)
            have h2 := cmpN_ne hne
            omega
          rcases List.mem_cons.1 hy with rfl | hy
          · exact hne e
          · have hzy := (List.pairwise_cons.1 hs2).1 y hy
            unfold cmpN at hxz hzy
            have h3 := (cmpS_trans (a := x.1) (b := z.1) (c := y.1) (by omega) hzy).2 (.inl hxz)
            rw [e] at h3
            have := (cmpS_eq y.1 y.1).2 rfl
            omega
    · rintro ⟨h1, h2, h3, h4⟩
      exact ⟨⟨⟨(h1 x (by simp)).1, (h1 x (by simp)).2⟩, h2 x r rfl⟩, fun y hy => h1 y (by simp [hy]), fun y t e => by subst e; exact fun he => h3 y (by simp) (by injection he), h4⟩
theorem strict_of {l : List Lb} (h1 : l.Pairwise (fun x y => cmpN x y ≤ 0)) (h2 : l.Pairwise fun x y => x.1 ≠ y.1) : StrictL l := by
  unfold StrictL
  refine (h1.and h2).imp ?_
  rintro x y ⟨h3, h4⟩
  have := cmpN_ne h4
  omega
theorem strict_ne {l : List Lb} (h : StrictL l) : l.Pairwise fun x y => x.1 ≠ y.1 := by
  refine List.Pairwise.imp ?_ h
  intro x y h3 e
  have := (cmpS_eq x.1 y.1).2 e
  unfold cmpN at h3
  omega
theorem strict_unique : ∀ (a b : List Lb), StrictL a → StrictL b → a.Perm b → a = b := by
  intro a
  induction a with
  | nil => intro b _ _ h; exact (List.nil_perm.1 h).symm
  | cons x r ih =>
    intro b ha hb h
    cases b with
    | nil => exact absurd h.length_eq (by simp)
    | cons y t =>
      have hxy : x = y := by
        have h1 : x ∈ y :: t := h.mem_iff.1 (by simp)
        have h2 : y ∈ x :: r := h.mem_iff.2 (by simp)
        rcases List.mem_cons.1 h1 with h1 | h1
        · exact h1
        · rcases List.mem_cons.1 h2 with h2 | h2
          · exact h2.symm
          · have k1 := (List.pairwise_cons.1 hb).1 x h1
            have k2 := (List.pairwise_cons.1 ha).1 y h2
            have := cmpS_neg x.1 y.1
            unfold cmpN at k1 k2; omega
      subst hxy
      rw [ih t (List.pairwise_cons.1 ha).2 (List.pairwise_cons.1 hb).2 ((List.perm_cons _).1 h)]
/-- A label put into a list that rises. -/
def putL (x : Lb) : List Lb → List Lb
  | [] => [x]
  | y :: r => if cmpS y.1 x.1 < 0 then y :: putL x r else x :: y :: r
def insFrom (acc : List Lb) : List Lb → List Lb
  | [] => acc
  | x :: r => insFrom (putL x acc) r
def insL (l : List Lb) : List Lb := insFrom [] l
theorem put_perm (x : Lb) (l : List Lb) : (putL x l).Perm (x :: l) := by
  induction l with
  | nil => exact List.Perm.refl _
  | cons y r ih =>
    rw [putL]
    by_cases h : cmpS y.1 x.1 < 0
    · rw [if_pos h]; exact (ih.cons y).trans (List.Perm.swap x y r)
    · rw [if_neg h]
theorem put_length (x : Lb) (l : List Lb) : (putL x l).length = l.length + 1 := by rw [(put_perm x l).length_eq]; rfl
theorem put_strict {x : Lb} {l : List Lb} (hl : StrictL l) (hx : ∀ y ∈ l, y.1 ≠ x.1) : StrictL (putL x l) := by
  induction l with
  | nil => exact List.pairwise_singleton _ _
  | cons y r ih =>
    obtain ⟨h1, h2⟩ := List.pairwise_cons.1 hl
    rw [putL]
    by_cases h : cmpS y.1 x.1 < 0
    · rw [if_pos h]
      refine List.pairwise_cons.2 ⟨fun z hz => ?_, ih h2 (fun z hz => hx z (by simp [hz]))⟩
      rcases List.mem_cons.1 ((put_perm x r).mem_iff.1 hz) with rfl | hz
      · exact h
      · exact h1 z hz
    · rw [if_neg h]
      have hxy : cmpN x y < 0 := by
        have := cmpS_neg x.1 y.1
        have h3 : cmpS y.1 x.1 ≠ 0 := fun e => hx y (by simp) ((cmpS_eq _ _).1 e)
        unfold cmpN; omega
      refine List.pairwise_cons.2 ⟨fun z hz => ?_, hl⟩
      rcases List.mem_cons.1 hz with rfl | hz
      · exact hxy
      · have := h1 z hz
        unfold cmpN at *
        exact (cmpS_trans (a := x.1) (b := y.1) (c := z.1) (by omega) (by omega)).2 (.inl hxy)
theorem put_at (x : Lb) (l : List Lb) : ∀ i, i ≤ l.length → (∀ j, j < i → cmpS (lx l j).1 x.1 < 0) → (i < l.length → ¬ cmpS (lx l i).1 x.1 < 0) → putL x l = l.take i ++ x :: l.drop i := by
  induction l with
  | nil => intro i hi _ _; simp at hi; subst hi; rfl
  | cons y r ih =>
    intro i hi h1 h2
    cases i with
    | zero =>
      rw [putL, if_neg (by simpa [lx] using h2 (by simp))]; rfl
    | succ i =>
      rw [putL, if_pos (by simpa [lx] using h1 0 (by omega)), ih i (by simpa using hi) (fun j hj => by simpa [lx] using h1 (j + 1) (by omega)) (fun h => by simpa [lx] using h2 (by simpa using h))]
      rfl
theorem insFrom_perm (l : List Lb) : ∀ acc, (insFrom acc l).Perm (acc ++ l) := by
  induction l with
  | nil => intro acc; simp [insFrom]
  | cons x r ih =>
    intro acc
    rw [insFrom]
    refine (ih _).trans ?_
    refine ((put_perm x acc).append_right r).trans ?_
    exact (List.perm_middle).symm
theorem ins_perm (l : List Lb) : (insL l).Perm l := by
  have := insFrom_perm l []
  rw [List.nil_append] at this
  exact this
theorem ins_length (l : List Lb) : (insL l).length = l.length := (ins_perm l).length_eq
theorem insFrom_snoc (l : List Lb) : ∀ acc x, insFrom acc (l ++ [x]) = putL x (insFrom acc l) := by
  induction l with
  | nil => intro acc x; rfl
  | cons y r ih => intro acc x; exact ih _ x
theorem ins_snoc (l : List Lb) (x : Lb) : insL (l ++ [x]) = putL x (insL l) := insFrom_snoc l [] x
theorem insFrom_strict (l : List Lb) : ∀ acc, StrictL acc → (acc ++ l).Pairwise (fun x y => x.1 ≠ y.1) → StrictL (insFrom acc l) := by
  induction l with
  | nil => intro acc h _; exact h
  | cons x r ih =>
    intro acc h hp
    have hp1 := List.pairwise_append.1 hp
    refine ih _ (put_strict h fun y hy => hp1.2.2 y hy x (by simp)) ?_
    refine List.Perm.pairwise (R := fun x y : Lb => x.1 ≠ y.1) (l := acc ++ x :: r) ?_ hp (fun hxy e => hxy e.symm)
    exact List.perm_middle.trans ((put_perm x acc).symm.append_right r)
theorem ins_strict {l : List Lb} (h : l.Pairwise fun x y => x.1 ≠ y.1) : StrictL (insL l) := insFrom_strict l [] List.Pairwise.nil (by simpa using h)
theorem keep_perm {l l' : List Lb} (h : l'.Perm l) : (keepL l').Perm (keepL l) := h.filter _
theorem keep_pair {R : Lb → Lb → Prop} {l : List Lb} (h : l.Pairwise R) : (keepL l).Pairwise R := h.sublist List.filter_sublist
/-- What the code's Set makes is what the document's makes. -/
theorem set_same {l l' : List Lb} (hp : l'.Perm l) (hs : l'.Pairwise fun x y => cmpN x y ≤ 0) : (setOk l' = true ↔ OkP l ∧ (keepL l).length ≤ 32) ∧ (setOk l' = true → keepL l' = insL (keepL l)) := by
  have h1 : setOk l' = true ↔ OkP l ∧ (keepL l).length ≤ 32 := by
    unfold setOk
    rw [Bool.and_eq_true, decide_eq_true_eq, (keep_perm hp).length_eq, okFrom_iff l' none hs, ← okP_perm hp]
    unfold OkP
    constructor
    · rintro ⟨⟨a, _, b⟩, c⟩; exact ⟨⟨a, b⟩, c⟩
    · rintro ⟨⟨a, b⟩, c⟩; exact ⟨⟨a, (fun _ _ _ h => nomatch h), b⟩, c⟩
  refine ⟨h1, fun h => ?_⟩
  obtain ⟨ho, _⟩ := h1.1 h
  have ho' := (okP_perm hp).2 ho
  exact strict_unique _ _ (strict_of (keep_pair hs) (keep_pair ho'.2)) (ins_strict (keep_pair ho.2)) ((keep_perm hp).trans (ins_perm _).symm)
/-- What right is. -/
theorem rightFrom_iff (l : List Lb) : ∀ last, (rightFrom last l = true ↔ (∀ x ∈ l, labOk x = true) ∧ StrictL l ∧ ∀ x r, l = x :: r → cmpS last x.1 < 0) := by
  induction l with
  | nil => intro last; simp [rightFrom, StrictL]
  | cons x r ih =>
    intro last
    rw [rightFrom]
    simp only [Bool.and_eq_true, decide_eq_true_eq]
    rw [ih x.1]
    unfold StrictL
    rw [List.pairwise_cons]
    constructor
    · rintro ⟨⟨h1, h2⟩, h3, h4, h5⟩
      refine ⟨fun y hy => ?_, ⟨fun y hy => ?_, h4⟩, fun y t e => by injection e with e1 e2; subst e1; exact h1⟩
      · rcases List.mem_cons.1 hy with rfl | hy
        · exact h2
        · exact h3 y hy
      · cases r with
        | nil => cases hy
        | cons z t =>
          have hxz := h5 z t rfl
          rcases List.mem_cons.1 hy with rfl | hy
          · exact hxz
          · have := (List.pairwise_cons.1 h4).1 y hy
            unfold cmpN at *
            exact (cmpS_trans (a := x.1) (b := z.1) (c := y.1) (by omega) (by omega)).2 (.inl hxz)
    · rintro ⟨h1, ⟨h2, h3⟩, h4⟩
      exact ⟨⟨h4 x r rfl, h1 x (by simp)⟩, fun y hy => h1 y (by simp [hy]), h3, fun y t e => by subst e; exact h2 y (by simp)⟩
theorem right_iff (l : List Lb) : rightL l = true ↔ (∀ x ∈ l, labOk x = true) ∧ StrictL l ∧ l.length ≤ 32 := by
  unfold rightL
  rw [Bool.and_eq_true, decide_eq_true_eq, rightFrom_iff]
  constructor
  · rintro ⟨⟨h1, h2, _⟩, h3⟩; exact ⟨h1, h2, h3⟩
  · rintro ⟨h1, h2, h3⟩
    refine ⟨⟨h1, h2, fun x r e => ?_⟩, h3⟩
    have := h1 x (by rw [e]; simp)
    unfold labOk at this
    simp only [Bool.and_eq_true, decide_eq_true_eq] at this
    exact empty_less (name_size this.1.1)
theorem labOk_iff (x : Lb) : labOk x = true ↔ okX x ∧ 0 < x.2.size := by
  unfold labOk okX
  simp only [Bool.and_eq_true, decide_eq_true_eq]
  exact ⟨fun ⟨⟨a, b⟩, c⟩ => ⟨⟨a, c⟩, b⟩, fun ⟨⟨a, c⟩, b⟩ => ⟨⟨a, b⟩, c⟩⟩
theorem right_of_set {l : List Lb} (h : OkP l ∧ (keepL l).length ≤ 32) : rightL (insL (keepL l)) = true := by
  rw [right_iff]
  refine ⟨fun x hx => ?_, ins_strict (keep_pair h.1.2), by rw [ins_length]; exact h.2⟩
  have hx := (ins_perm _).mem_iff.1 hx
  unfold keepL at hx
  rw [List.mem_filter, decide_eq_true_eq] at hx
  exact (labOk_iff x).2 ⟨h.1.1 x hx.1, hx.2⟩
theorem okP_right {l : List Lb} (h : rightL l = true) : OkP l ∧ (keepL l).length ≤ 32 ∧ keepL l = l ∧ insL l = l := by
  obtain ⟨h1, h2, h3⟩ := (right_iff l).1 h
  have hk : keepL l = l := List.filter_eq_self.2 fun x hx => decide_eq_true ((labOk_iff x).1 (h1 x hx)).2
  exact ⟨⟨fun x hx => ((labOk_iff x).1 (h1 x hx)).1, strict_ne h2⟩, by rw [hk]; exact h3, hk, strict_unique _ _ (ins_strict (strict_ne h2)) h2 (ins_perm l)⟩
end Go.Proofs.YtogjcaakfnfapaaDoor
namespace Go.Proofs.YtogjcaakfnfapaaDoor
open Go.RowKit
set_option linter.unusedVariables false
set_option linter.unusedSimpArgs false
set_option maxRecDepth 100000
section
variable {α : Type} {enc : α → List Value} {sz : Nat}
theorem flatMap_take (hsz : ∀ x, (enc x).length = sz) (xs : List α) : ∀ k, (xs.take k).flatMap enc = (xs.flatMap enc).take (k * sz) := by
  induction xs with
  | nil => intro k; simp
  | cons x xs ih =>
    intro k
    cases k with
    | zero => simp
    | succ k =>
      have h1 : (enc x).take ((k + 1) * sz) = enc x := List.take_of_length_le (by rw [hsz, Nat.succ_mul]; omega)
      have h2 : (k + 1) * sz - (enc x).length = k * sz := by rw [hsz, Nat.succ_mul]; omega
      rw [List.take_succ_cons, List.flatMap_cons, List.flatMap_cons, List.take_append, h1, h2, ih k]
theorem flatMap_drop (hsz : ∀ x, (enc x).length = sz) (xs : List α) : ∀ k, (xs.drop k).flatMap enc = (xs.flatMap enc).drop (k * sz) := by
  induction xs with
  | nil => intro k; simp
  | cons x xs ih =>
    intro k
    cases k with
    | zero => simp
    | succ k =>
      rw [List.drop_succ_cons, List.flatMap_cons, ih k, Nat.succ_mul, Nat.add_comm, ← List.drop_drop]
      congr 1
      rw [← hsz x, List.drop_left]
/-- A slice's head. -/
theorem Sl.head {P : Program} {T : TypeId} (hT : P.underlying T = some (.slice (P.elem T))) (hS : ∀ w : World, (sizeOf (P.elem T)).run P w = .ok sz w) (hsz : ∀ x, (enc x).length = sz)
    {w : World} {a : Option Addr} {n cap : Nat} {xs : List α} (h : Sl enc w (.slice a n cap) xs) {k : Nat} (hk : k ≤ xs.length) :
    ∃ a1 c1, (∀ w : World, (Instr.slice T (.slice a n cap) none (some (.int .i64 (k : Int))) none).run P w = .ok (.slice a1 k c1) w) ∧ Sl enc w (.slice a1 k c1) (xs.take k) := by
  obtain ⟨a0, cap0, e, hm, hn, hc⟩ := h
  injection e with e1 e2 e3
  subst e1 e2 e3
  refine ⟨if cap = 0 then a else a.map (·.add (0 * sz)), cap, fun w => ?_, ?_⟩
  · rw [run_slice_h w T a xs.length cap hT .i64 k (by omega) (by omega), hS]
    simp only [Result.andThen, sliced, Int.toNat_natCast, Nat.sub_zero]
  · refine ⟨_, cap, by rw [List.length_take, Nat.min_eq_left hk], by rw [List.length_take, Nat.min_eq_left hk]; omega, fun e => ?_, fun hx => ?_⟩
    · have ha : a = none := by
        split at e
        · exact e
        · simpa using e
      obtain ⟨h1, h2⟩ := hn ha
      exact ⟨h1, by rw [h2]; simp⟩
    · have hx2 : xs ≠ [] := fun e => hx (by rw [e]; simp)
      obtain ⟨b, off, rfl, hd⟩ := hc hx2
      refine ⟨b, off, by split <;> simp [Addr.add_lit], fun j u hu => hd j u ?_⟩
      rw [flatMap_take hsz, List.getElem?_take] at hu
      split at hu
      · exact hu
      · cases hu
/-- A slice's tail. -/
theorem Sl.tail {P : Program} {T : TypeId} (hT : P.underlying T = some (.slice (P.elem T))) (hS : ∀ w : World, (sizeOf (P.elem T)).run P w = .ok sz w) (hsz : ∀ x, (enc x).length = sz)
    {w : World} {a : Option Addr} {n cap : Nat} {xs : List α} (h : Sl enc w (.slice a n cap) xs) {k : Nat} (hk : k ≤ xs.length) :
    ∃ a1 c1, (∀ w : World, (Instr.slice T (.slice a n cap) (some (.int .i64 (k : Int))) none none).run P w = .ok (.slice a1 (xs.length - k) c1) w) ∧ Sl enc w (.slice a1 (xs.length - k) c1) (xs.drop k) := by
  obtain ⟨a0, cap0, e, hm, hn, hc⟩ := h
  injection e with e1 e2 e3
  subst e1 e2 e3
  refine ⟨if cap = k then a else a.map (·.add (k * sz)), cap - k, fun w => ?_, ?_⟩
  · rw [run_slice_l w T a xs.length cap hT .i64 k (by omega) (by omega), hS]
    simp only [Result.andThen, sliced, Int.toNat_natCast, Nat.sub_zero]
  · refine ⟨_, cap - k, by rw [List.length_drop], by rw [List.length_drop]; omega, fun e => ?_, fun hx => ?_⟩
    · have ha : a = none := by
        split at e
        · exact e
        · simpa using e
      obtain ⟨h1, h2⟩ := hn ha
      exact ⟨by omega, by rw [h2]; simp⟩
    · have hx2 : xs ≠ [] := fun e => hx (by rw [e]; simp)
      have hk2 : k < xs.length := by
        by_cases h : k < xs.length
        · exact h
        · exact absurd (List.drop_eq_nil_of_le (by omega)) hx
      obtain ⟨b, off, rfl, hd⟩ := hc hx2
      refine ⟨b, off + k * sz, by rw [if_neg (by omega)]; simp [Addr.add_lit], fun j u hu => ?_⟩
      rw [flatMap_drop hsz, List.getElem?_drop] at hu
      have := hd _ u hu
      rw [← Nat.add_assoc] at this
      exact this
theorem Sl.src (h0 : ∀ x, 0 < (enc x).length) {w : World} {a : Option Addr} {n c : Nat} {xs : List α} (h : Sl enc w (.slice a n c) xs) : n = xs.length ∧ (a = none → n = 0 ∧ c = 0 ∧ xs.flatMap enc = []) ∧ (∀ ad, a = some ad → ∀ j u, (xs.flatMap enc)[j]? = some u → w.cell? (ad.add j) = some u) := by
  obtain ⟨a1, c1, e, -, h1, h2⟩ := h.len h0
  injection e with e1 e2 e3
  subst e1 e2 e3
  refine ⟨rfl, fun e => ?_, h2⟩
  obtain ⟨e1, e2⟩ := h1 e
  exact ⟨by rw [e2]; rfl, e1, by rw [e2]; rfl⟩
end
theorem lenc_pos (x : Lb) : 0 < (lenc x).length := Nat.zero_lt_succ _
theorem Tryd.elemLbs : Tryd.prog.underlying 40 = some (.slice (Tryd.prog.elem 40)) := by kernel_rfl
theorem Tryd.sizeLb (w : World) : (sizeOf (Tryd.prog.elem 40)).run Tryd.prog w = .ok 2 w := by rfl
theorem put_loop_snoc {l : List Lb} {x : Lb} {k : Nat} (h : ∀ j, j < k → cmpS (lx l j).1 x.1 < 0) (hk : cmpS (lx l k).1 x.1 < 0) : ∀ j, j < k + 1 → cmpS (lx l j).1 x.1 < 0 := by
  intro j hj
  by_cases e : j = k
  · subst e; exact hk
  · exact h j (by omega)
theorem S_keep2 {w3 w' : World} {a : Nat} {x0 x1 : Value} (p0 : w3.cell? ⟨a, 0, none⟩ = some x0) (p1 : w3.cell? ⟨a, 1, none⟩ = some x1) (h : Below w3.heap.size w3 w') :
    Below w3.heap.size w3 w' ∧ w'.cell? ⟨a, 0, none⟩ = some x0 ∧ w'.cell? ⟨a, 1, none⟩ = some x1 := ⟨h, cell_below h (Nat.le_refl _) p0, cell_below h (Nat.le_refl _) p1⟩
theorem lenc_one (l : List Lb) : ∀ u ∈ l.flatMap lenc, u.oneCell' = true := oneCell_flat l
end Go.Proofs.YtogjcaakfnfapaaDoor
namespace Go.Proofs.YtogjcaakfnfapaaDoor
open Go.RowKit
set_option linter.unusedVariables false
set_option linter.unusedSimpArgs false
set_option maxRecDepth 100000
def fewL (cs : List Lb) : Bool := decide (cs.length ≤ 80) && cs.all fun x => decide (x.1.size ≤ 400) && decide (x.2.size ≤ 2000)
theorem few_no {cs : List Lb} {k : Nat} (h : k < cs.length) (h2 : 400 < (lx cs k).1.size ∨ 2000 < (lx cs k).2.size) : fewL cs = false := by
  have : (cs.all fun x => decide (x.1.size ≤ 400) && decide (x.2.size ≤ 2000)) = false := by
    rw [List.all_eq_false]
    refine ⟨cs[k], List.getElem_mem h, ?_⟩
    rw [lx_at h] at h2
    simp
    omega
  rw [fewL, this, Bool.and_false]
theorem few_len {cs : List Lb} (h : fewL cs = true) : cs.length ≤ 80 := by
  unfold fewL at h
  rw [Bool.and_eq_true] at h
  exact of_decide_eq_true h.1
theorem few_yes {cs : List Lb} (h : cs.length ≤ 80) (h2 : ∀ j, j < cs.length → (lx cs j).1.size ≤ 400 ∧ (lx cs j).2.size ≤ 2000) : fewL cs = true := by
  unfold fewL
  rw [Bool.and_eq_true]
  refine ⟨decide_eq_true h, ?_⟩
  rw [List.all_eq_true]
  intro x hx
  obtain ⟨j, hj, rfl⟩ := List.getElem_of_mem hx
  have := h2 j hj
  rw [lx_at hj] at this
  simp [this]
set_option maxHeartbeats 2000000 in
theorem few_any (v : Value) (cs : List Lb) (w : World) (h : Sl lenc w v cs) :
    Calls Tryd.prog 32 #[v] w fun e w' => e = .returned (.bool (fewL cs)) ∧ w' = w := by
  obtain ⟨a, cap, rfl, hlen, -, hc⟩ := h.split lenc_len
  have HC := Lib.hid hc
  clear hc h
  by_cases hb : 80 < cs.length
  · have hbz : (80 : Int) < (cs.length : Int) := by omega
    have HF := Lib.hid (show fewL cs = false by unfold fewL; rw [show decide (cs.length ≤ 80) = false from decide_eq_false (by omega)]; rfl)
    go_enter Tryd.func32, Tryd.ntmps32
    go_wp2_with fail
    go_ret
    exact ⟨by rw [HF.out] <;> rfl, rfl⟩
  · have hbz : ¬ (80 : Int) < (cs.length : Int) := by omega
    go_enter Tryd.func32, Tryd.ntmps32
    go_wp2_with fail
    go_loopw [3] (fun i wr => ∃ (k : Nat), k ≤ cs.length ∧ i = .int .i64 k ∧ Hid (∀ j, j < k → (lx cs j).1.size ≤ 400 ∧ (lx cs j).2.size ≤ 2000) ∧ wr = w) (fun i _ => cs.length - (intOf i).toNat)
    case atStart => exact ⟨0, Nat.zero_le _, rfl, fun j hj => absurd hj (Nat.not_lt_zero _), rfl⟩
    case round =>
      obtain ⟨k, hk, rfl, HV, rfl⟩ := hrel
      by_cases hlt : k < cs.length
      · have hltz : (k : Int) < (cs.length : Int) := by omega
        have h00 : (0 : Int) ≤ (k : Int) := by omega
        obtain ⟨b, off, rfl, k0, k1⟩ := lab_cells HC.out (Below.refl _ _) (Nat.le_refl _) hlt
        by_cases h1 : 400 < (lx cs k).1.size
        · have HF := Lib.hid (few_no hlt (.inl h1))
          have h1z : (400 : Int) < ((lx cs k).1.size : Int) := by omega
          have h1b : decide ((400 : Int) < ((lx cs k).1.size : Int)) = true := decide_eq_true h1z
          go_wp2_with fail
          go_ret
          exact ⟨by rw [HF.out] <;> rfl, rfl⟩
        · have h1z : ¬ (400 : Int) < ((lx cs k).1.size : Int) := by omega
          have h1b : decide ((400 : Int) < ((lx cs k).1.size : Int)) = false := decide_eq_false h1z
          by_cases h2 : 2000 < (lx cs k).2.size
          · have HF := Lib.hid (few_no hlt (.inr h2))
            have h2z : (2000 : Int) < ((lx cs k).2.size : Int) := by omega
            have h2b : decide ((2000 : Int) < ((lx cs k).2.size : Int)) = true := decide_eq_true h2z
            go_wp2_with fail
            go_ret
            exact ⟨by rw [HF.out] <;> rfl, rfl⟩
          · have h2z : ¬ (2000 : Int) < ((lx cs k).2.size : Int) := by omega
            have h2b : decide ((2000 : Int) < ((lx cs k).2.size : Int)) = false := decide_eq_false h2z
            go_wp2_with fail
            go_roundw
            case rel => exact ⟨k + 1, by omega, by go_num, (fun j hj => by
              by_cases hjk : j = k
              · subst hjk; omega
              · exact HV.out j (by omega)), by trivial⟩
            case measure => simp [intOf]; omega
      · have hltz : ¬ (k : Int) < (cs.length : Int) := by omega
        have HF := Lib.hid (few_yes (by omega) (fun j hj => HV.out j (by omega)))
        go_wp2_with fail
        go_ret
        exact ⟨by rw [HF.out] <;> rfl, rfl⟩
end Go.Proofs.YtogjcaakfnfapaaDoor
namespace Go.Proofs.YtogjcaakfnfapaaDoor
open Go Go.RowKit
set_option linter.unusedVariables false
set_option linter.unusedSimpArgs false
set_option maxRecDepth 100000
/-- A point as it lies: its labels' slice, its value's bits. -/
abbrev RPt := Value × Nat
def penc (p : RPt) : List Value := [p.1, .float .f64 p.2]
theorem penc_len (p : RPt) : (penc p).length = 2 := rfl
/-- A point as it reads. -/
abbrev Pt := List Lb × Nat
/-- A vector: raw points, and what each reads as. -/
def VS (w : World) (v : Value) (ps : List Pt) : Prop := ∃ raw : List RPt, Sl penc w v raw ∧ raw.length = ps.length ∧ ∀ k (h : k < raw.length) (h2 : k < ps.length), Sl lenc w raw[k].1 ps[k].1 ∧ raw[k].2 = ps[k].2
theorem VS.below {w w' : World} {B : Nat} {v : Value} {ps : List Pt} (h : VS w v ps) (hb : Below B w w') (hB : w.heap.size ≤ B) : VS w' v ps := by
  obtain ⟨raw, h1, h2, h3⟩ := h
  exact ⟨raw, h1.below hb hB, h2, fun k a b => ⟨(h3 k a b).1.below hb hB, (h3 k a b).2⟩⟩
theorem VS.nil (w : World) : VS w (.slice none 0 0) [] := ⟨[], Sl.nil _, rfl, fun k h => absurd h (Nat.not_lt_zero _)⟩
theorem VS.split {w : World} {v : Value} {ps : List Pt} (h : VS w v ps) :
    ∃ a cap, v = .slice a ps.length cap ∧ (ps.length ≤ cap ∧ cap ≤ 9223372036854775807) ∧
      ∀ k (hk : k < ps.length), ∃ b off lv, a = some ⟨b, off, none⟩ ∧ w.cell? ⟨b, off + k * 2, none⟩ = some lv ∧ w.cell? ⟨b, off + k * 2 + 1, none⟩ = some (.float .f64 ps[k].2) ∧ Sl lenc w lv ps[k].1 := by
  obtain ⟨raw, h1, h2, h3⟩ := h
  obtain ⟨a, cap, rfl, hm, -, hc⟩ := h1.split penc_len
  rw [h2] at hm ⊢
  refine ⟨a, cap, rfl, hm, fun k hk => ?_⟩
  obtain ⟨b, off, rfl, hd⟩ := hc k (by omega)
  obtain ⟨h4, h5⟩ := h3 k (by omega) hk
  exact ⟨b, off, _, rfl, hd 0 _ rfl, by rw [← h5]; exact hd 1 _ rfl, h4⟩
end Go.Proofs.YtogjcaakfnfapaaDoor
namespace Go.Proofs.YtogjcaakfnfapaaDoor
open Go Go.RowKit
set_option linter.unusedVariables false
set_option linter.unusedSimpArgs false
set_option maxRecDepth 100000
def vfewL (ps : List Pt) : Bool := decide (ps.length ≤ 60) && ps.all fun p => fewL p.1
theorem vfew_no {ps : List Pt} {k : Nat} (h : k < ps.length) (h2 : fewL ps[k].1 = false) : vfewL ps = false := by
  have : (ps.all fun p => fewL p.1) = false := by
    rw [List.all_eq_false]
    exact ⟨_, List.getElem_mem h, by simpa using h2⟩
  unfold vfewL
  rw [this]
  simp
set_option maxHeartbeats 2000000 in
theorem vfew_any (v : Value) (ps : List Pt) (w : World) (h : VS w v ps) :
    Calls Tryd.prog 46 #[v] w fun e w' => e = .returned (.bool (vfewL ps)) ∧ w' = w := by
  obtain ⟨a, cap, rfl, hlen, hc⟩ := h.split
  have HC := Lib.hid hc
  clear hc h
  by_cases hb : 60 < ps.length
  · have hbz : (60 : Int) < (ps.length : Int) := by omega
    have HF := Lib.hid (show vfewL ps = false by unfold vfewL; rw [show decide (ps.length ≤ 60) = false from decide_eq_false (by omega)]; rfl)
    go_enter Tryd.func46, Tryd.ntmps46
    go_wp2_with fail
    go_ret
    exact ⟨by rw [HF.out] <;> rfl, rfl⟩
  · have hbz : ¬ (60 : Int) < (ps.length : Int) := by omega
    go_enter Tryd.func46, Tryd.ntmps46
    go_wp2_with fail
    go_loopw [3] (fun i wr => ∃ (k : Nat), k ≤ ps.length ∧ i = .int .i64 k ∧ Hid (∀ j (hj : j < ps.length), j < k → fewL ps[j].1 = true) ∧ wr = w) (fun i _ => ps.length - (intOf i).toNat)
    case atStart => exact ⟨0, Nat.zero_le _, rfl, fun j _ hj => absurd hj (Nat.not_lt_zero _), rfl⟩
    case round =>
      obtain ⟨k, hk, rfl, HV, rfl⟩ := hrel
      by_cases hlt : k < ps.length
      · have hltz : (k : Int) < (ps.length : Int) := by omega
        have h00 : (0 : Int) ≤ (k : Int) := by omega
        obtain ⟨b, off, lv, rfl, k0, k1, hsl⟩ := HC.out k hlt
        have HFW := Lib.hid (few_any lv ps[k].1 _ hsl)
        clear hsl
        go_wp2_with fail
        refine HFW.out.mono ?_
        by_cases hf : fewL ps[k].1 = true
        · rw [hf]
          rintro e w1 ⟨rfl, rfl⟩
          have HFF := Lib.hid hf
          clear hf HFW
          go_wp2_with fail
          go_roundw
          case rel => exact ⟨k + 1, by omega, by go_num, (fun j hj hjk => by
            by_cases hjk2 : j = k
            · subst hjk2; exact HFF.out
            · exact HV.out j hj (by omega)), by trivial⟩
          case measure => simp [intOf]; omega
        · have hf2 : fewL ps[k].1 = false := by simpa using hf
          have HF := Lib.hid (vfew_no hlt hf2)
          rw [hf2]
          rintro e w1 ⟨rfl, rfl⟩
          clear hf hf2 HFW
          go_wp2_with fail
          go_ret
          exact ⟨by rw [HF.out] <;> rfl, rfl⟩
      · have hltz : ¬ (k : Int) < (ps.length : Int) := by omega
        have HF := Lib.hid (show vfewL ps = true by
          unfold vfewL
          rw [Bool.and_eq_true, List.all_eq_true]
          refine ⟨decide_eq_true (by omega), fun p hp => ?_⟩
          obtain ⟨j, hj, rfl⟩ := List.mem_iff_getElem.1 hp
          exact HV.out j hj (by omega))
        go_wp2_with fail
        go_ret
        exact ⟨by rw [HF.out] <;> rfl, rfl⟩
end Go.Proofs.YtogjcaakfnfapaaDoor
namespace Go.Proofs.YtogjcaakfnfapaaDoor
open Go Go.RowKit
set_option linter.unusedVariables false
set_option linter.unusedSimpArgs false
set_option maxRecDepth 100000
def VRight (ps : List Pt) : Prop := ∀ k (h : k < ps.length), rightL ps[k].1 = true ∧ (0 < k → cmpL (ps[k - 1]'(by omega)).1 ps[k].1 < 0)
noncomputable def vrightL (ps : List Pt) : Bool := @decide (VRight ps) (Classical.propDecidable _)
theorem vright_no {ps : List Pt} {k : Nat} (h : k < ps.length) (h2 : rightL ps[k].1 = false ∨ (0 < k ∧ ¬ cmpL (ps[k - 1]'(by omega)).1 ps[k].1 < 0)) : vrightL ps = false := by
  unfold vrightL
  refine @decide_eq_false _ (Classical.propDecidable _) fun hv => ?_
  obtain ⟨a, b⟩ := hv k h
  rcases h2 with h2 | ⟨h2, h3⟩
  · rw [a] at h2; cases h2
  · exact h3 (b h2)
theorem vright_yes {ps : List Pt} (h : VRight ps) : vrightL ps = true := @decide_eq_true _ (Classical.propDecidable _) h
set_option maxHeartbeats 4000000 in
theorem rvright_any (v : Value) (ps : List Pt) (w : World) (h : VS w v ps) :
    Calls Tryd.prog 47 #[v] w fun e w' => e = .returned (.bool (vrightL ps)) ∧ ∃ n, w' = w.drewN n := by
  obtain ⟨a, cap, rfl, hlen, hc⟩ := h.split
  have HC := Lib.hid hc
  clear hc h
  go_enter Tryd.func47, Tryd.ntmps47
  go_wp2_with fail
  go_loopw [3] (fun i wr => ∃ (k n : Nat), k ≤ ps.length ∧ i = .int .i64 k ∧ Hid (∀ j (hj : j < ps.length), j < k → rightL ps[j].1 = true ∧ (0 < j → cmpL (ps[j - 1]'(by omega)).1 ps[j].1 < 0)) ∧ wr = w.drewN n) (fun i _ => ps.length - (intOf i).toNat)
  case atStart => exact ⟨0, 0, Nat.zero_le _, rfl, fun j _ hj => absurd hj (Nat.not_lt_zero _), rfl⟩
  case round =>
    obtain ⟨k, n, hk, rfl, HV, rfl⟩ := hrel
    have h00 : (0 : Int) ≤ (k : Int) := by omega
    by_cases hlt : k < ps.length
    · have hltz : (k : Int) < (ps.length : Int) := by omega
      obtain ⟨b, off, lv, rfl, k0, k1, hsl⟩ := HC.out k hlt
      have HFR := Lib.hid (fun m => rright_any lv ps[k].1 (w.drewN m) (hsl.below (below_drewN (Below.refl _ _) m) (Nat.le_refl _)))
      obtain ⟨rk, hrk⟩ : ∃ r, r = rightL ps[k].1 := ⟨_, rfl⟩
      rw [← hrk] at HFR
      have HSL := Lib.hid hsl
      clear hsl
      cases rk with
      | false =>
        have HF := Lib.hid (vright_no hlt (.inl hrk.symm))
        clear hrk
        go_wp2_with fail
        go_quiet ((go_at_call 33; refine qd (HFR.out _)))
        go_wp2_with fail
        go_ret
        exact ⟨by rw [HF.out] <;> rfl, _, World.drewN_drewN _ _ _⟩
      | true =>
        have HRK := Lib.hid hrk.symm
        clear hrk
        by_cases hk0 : k = 0
        · have HK0 := Lib.hid hk0
          have hkz : ¬ (0 : Int) < (k : Int) := by omega
          clear hk0
          go_wp2_with fail
          have hk0 := HK0.out
          have hkb : decide ((0 : Int) < (k : Int)) = false := decide_eq_false (by omega)
          have hkn : decide (0 < k) = false := decide_eq_false (by omega)
          clear hkz hk0
          go_quiet ((go_at_call 33; refine qd (HFR.out _)))
          go_wp2_with fail
          go_roundw
          case rel => exact ⟨k + 1, _, by omega, by go_num, (fun j hj hj1 => by
            by_cases hjk : j = k
            · subst hjk; exact ⟨HRK.out, fun h => absurd h (by have := HK0.out; omega)⟩
            · exact HV.out j hj (by omega)), rfl⟩
          case measure => simp [intOf]; omega
        · have hkz : (0 : Int) < (k : Int) := by omega
          have hkb : decide ((0 : Int) < (k : Int)) = true := decide_eq_true hkz
          have hkn : decide (0 < k) = true := decide_eq_true (by omega)
          obtain ⟨m, hmk⟩ : ∃ m, k = m + 1 := ⟨k - 1, by omega⟩
          have hm1 : m < ps.length := by omega
          obtain ⟨b', off', lv', hbb, k0', k1', hsl'⟩ := HC.out m hm1
          injection hbb with hbb
          injection hbb with hbb1 hbb2
          subst hbb1 hbb2
          obtain ⟨cc, hcc⟩ : ∃ c, c = cmpL ps[m].1 ps[k].1 := ⟨_, rfl⟩
          have HCP := Lib.hid (fun q => rcompare_any lv' lv ps[m].1 ps[k].1 (w.drewN q) (hsl'.below (below_drewN (Below.refl _ _) q) (Nat.le_refl _)) (HSL.out.below (below_drewN (Below.refl _ _) q) (Nat.le_refl _)))
          rw [← hcc] at HCP
          have hmz0 : (0 : Int) ≤ (m : Int) := by omega
          have hmz : (m : Int) < (ps.length : Int) := by omega
          have hw : IntKind.i64.wrap ((k : Int) - 1) = (m : Int) := by rw [IntKind.wrap_i64] <;> omega
          have HCC := Lib.hid hcc
          have HMK := Lib.hid hmk
          clear hcc hmk hk0 hsl'
          by_cases hneg : cc < 0
          · have HN := Lib.hid hneg
            go_wp2_with fail
            have hcb : decide ((0 : Int) ≤ cc) = false := decide_eq_false (by have := HN.out; omega)
            clear hneg
            go_quiet ((first | (go_at_call 33; refine qd (HFR.out _)) | (go_at_call 60; refine qd (HCP.out _))))
            go_wp2_with fail
            go_roundw
            case rel => exact ⟨k + 1, _, by omega, by go_num, (fun j hj hj1 => by
              by_cases hjk : j = k
              · subst hjk
                refine ⟨HRK.out, fun _ => ?_⟩
                have h1 := HN.out
                rw [HCC.out] at h1
                have h2 := HMK.out
                subst h2
                exact h1
              · exact HV.out j hj (by omega)), rfl⟩
            case measure => simp [intOf]; omega
          · have HF := Lib.hid (show vrightL ps = false from vright_no hlt (.inr ⟨by omega, by
              rw [HCC.out] at hneg
              have h2 := HMK.out
              subst h2
              exact hneg⟩))
            go_wp2_with fail
            have hcb : decide ((0 : Int) ≤ cc) = true := decide_eq_true (by omega)
            clear hneg
            go_quiet ((first | (go_at_call 33; refine qd (HFR.out _)) | (go_at_call 60; refine qd (HCP.out _))))
            go_wp2_with fail
            go_ret
            exact ⟨by rw [HF.out] <;> rfl, _, World.drewN_drewN _ _ _⟩
    · have hltz : ¬ (k : Int) < (ps.length : Int) := by omega
      have HF := Lib.hid (show vrightL ps = true from vright_yes fun j hj => HV.out j hj (by omega))
      go_wp2_with fail
      go_ret
      exact ⟨by rw [HF.out] <;> rfl, n, rfl⟩
end Go.Proofs.YtogjcaakfnfapaaDoor
namespace Go.Proofs.YtogjcaakfnfapaaDoor
open Go Go.RowKit
set_option linter.unusedVariables false
set_option linter.unusedSimpArgs false
set_option maxRecDepth 100000
def VSame (ps qs : List Pt) : Prop := ps.length = qs.length ∧ ∀ k (h : k < ps.length) (h2 : k < qs.length), cmpL ps[k].1 qs[k].1 = 0 ∧ fsame ps[k].2 qs[k].2 = true
noncomputable def vsameL (ps qs : List Pt) : Bool := @decide (VSame ps qs) (Classical.propDecidable _)
theorem vsame_no {ps qs : List Pt} (h : ¬ VSame ps qs) : vsameL ps qs = false := @decide_eq_false _ (Classical.propDecidable _) h
theorem vsame_yes {ps qs : List Pt} (h : VSame ps qs) : vsameL ps qs = true := @decide_eq_true _ (Classical.propDecidable _) h
set_option maxHeartbeats 4000000 in
theorem rvsame_any (v u : Value) (ps qs : List Pt) (w : World) (h : VS w v ps) (h' : VS w u qs) :
    Calls Tryd.prog 15 #[v, u] w fun e w' => e = .returned (.bool (vsameL ps qs)) ∧ ∃ n, w' = w.drewN n := by
  obtain ⟨a, cap, rfl, hlen, hc⟩ := h.split
  obtain ⟨a2, cap2, rfl, hlen2, hc2⟩ := h'.split
  have HC := Lib.hid hc
  have HC2 := Lib.hid hc2
  clear hc hc2 h h'
  by_cases hl : ps.length = qs.length
  · have HL := Lib.hid hl
    obtain ⟨N, hN⟩ : ∃ N, N = ps.length := ⟨_, rfl⟩
    have hN2 : N = qs.length := hN.trans hl
    have HN := Lib.hid hN
    have HN2 := Lib.hid hN2
    rw [← hN] at hlen ⊢
    rw [← hN2] at hlen2 ⊢
    clear hl hN hN2
    go_enter Tryd.func15, Tryd.ntmps15
    go_wp2_with fail
    go_loopw [5] (fun i wr => ∃ (k n : Nat), k ≤ N ∧ i = .int .i64 k ∧ Hid (∀ j (hj : j < ps.length) (hj2 : j < qs.length), j < k → cmpL ps[j].1 qs[j].1 = 0 ∧ fsame ps[j].2 qs[j].2 = true) ∧ wr = w.drewN n) (fun i _ => N - (intOf i).toNat)
    case atStart => exact ⟨0, 0, Nat.zero_le _, rfl, fun j _ _ hj => absurd hj (Nat.not_lt_zero _), rfl⟩
    case round =>
      obtain ⟨k, n, hk, rfl, HV, rfl⟩ := hrel
      have h00 : (0 : Int) ≤ (k : Int) := by omega
      by_cases hlt : k < N
      · have hltz : (k : Int) < (N : Int) := by omega
        have hp : k < ps.length := by rw [← HN.out]; exact hlt
        have hq : k < qs.length := by rw [← HN2.out]; exact hlt
        obtain ⟨b, off, lv, rfl, k0, k1, hsl⟩ := HC.out k hp
        obtain ⟨b2, off2, lv2, rfl, k2, k3, hsl2⟩ := HC2.out k hq
        have HFS := Lib.hid (fun m => rsame_any lv lv2 ps[k].1 qs[k].1 (w.drewN m) (hsl.below (below_drewN (Below.refl _ _) m) (Nat.le_refl _)) (hsl2.below (below_drewN (Below.refl _ _) m) (Nat.le_refl _)))
        have HFF := Lib.hid (fun m => rfsame_any ps[k].2 qs[k].2 (w.drewN m))
        clear hsl hsl2
        obtain ⟨c, hc⟩ : ∃ c, c = (cmpL ps[k].1 qs[k].1 == 0) := ⟨_, rfl⟩
        obtain ⟨f, hf⟩ : ∃ f, f = fsame ps[k].2 qs[k].2 := ⟨_, rfl⟩
        rw [← hc] at HFS
        rw [← hf] at HFF
        have HCC := Lib.hid hc
        have HCF := Lib.hid hf
        clear hc hf
        cases c with
        | false =>
          have HF := Lib.hid (vsame_no (ps := ps) (qs := qs) fun h => by
            have h1 := (h.2 k hp hq).1
            have h2 := HCC.out
            rw [h1] at h2
            cases h2)
          go_wp2_with fail
          go_quiet ((first | (go_at_call 18; refine qd (HFS.out _)) | (go_at_call 56; first | refine qs (HFF.out _) | refine quiet_same (HFF.out _) | exact (HFF.out _).mono fun _ _ ⟨he, hw⟩ => ⟨he, by rw [← hw]; exact ⟨_, rfl⟩⟩)))
          go_wp2_with fail
          go_ret
          exact ⟨by rw [HF.out] <;> rfl, _, World.drewN_drewN _ _ _⟩
        | true =>
          cases f with
          | false =>
            have HF := Lib.hid (vsame_no (ps := ps) (qs := qs) fun h => by
              have h1 := (h.2 k hp hq).2
              have h2 := HCF.out
              rw [h1] at h2
              cases h2)
            go_wp2_with fail
            go_quiet ((first | (go_at_call 18; refine qd (HFS.out _)) | (go_at_call 56; first | refine qs (HFF.out _) | refine quiet_same (HFF.out _) | exact (HFF.out _).mono fun _ _ ⟨he, hw⟩ => ⟨he, by rw [← hw]; exact ⟨_, rfl⟩⟩)))
            go_wp2_with fail
            go_ret
            exact ⟨by rw [HF.out] <;> rfl, _, World.drewN_drewN _ _ _⟩
          | true =>
            go_wp2_with fail
            go_quiet ((first | (go_at_call 18; refine qd (HFS.out _)) | (go_at_call 56; first | refine qs (HFF.out _) | refine quiet_same (HFF.out _) | exact (HFF.out _).mono fun _ _ ⟨he, hw⟩ => ⟨he, by rw [← hw]; exact ⟨_, rfl⟩⟩)))
            go_wp2_with fail
            go_roundw
            case rel => exact ⟨k + 1, _, by omega, by go_num, (fun j hj hj2 hj1 => by
              by_cases hjk : j = k
              · subst hjk
                exact ⟨by simpa using HCC.out.symm, HCF.out.symm⟩
              · exact HV.out j hj hj2 (by omega)), rfl⟩
            case measure => simp [intOf]; omega
      · have hltz : ¬ (k : Int) < (N : Int) := by omega
        have HF := Lib.hid (show vsameL ps qs = true from vsame_yes ⟨HL.out, fun j hj hj2 => HV.out j hj hj2 (by have := HN.out; omega)⟩)
        go_wp2_with fail
        go_ret
        exact ⟨by rw [HF.out] <;> rfl, n, rfl⟩
  · have HF := Lib.hid (vsame_no (ps := ps) (qs := qs) fun h => hl h.1)
    have hz : ¬ (ps.length : Int) = (qs.length : Int) := by omega
    have hzb : ((ps.length : Int) == (qs.length : Int)) = false := by simpa using hz
    have hzc : ((ps.length : Int) != (qs.length : Int)) = true := by simpa using hz
    go_enter Tryd.func15, Tryd.ntmps15
    go_wp2_with fail
    go_ret
    exact ⟨by rw [HF.out] <;> rfl, 0, rfl⟩
end Go.Proofs.YtogjcaakfnfapaaDoor
namespace Go.Proofs.YtogjcaakfnfapaaDoor
open Go Go.RowKit
set_option linter.unusedVariables false
set_option linter.unusedSimpArgs false
def canonP (p : Pt) : Pt := (p.1, canon p.2)
/-- In order, each labels' list once. -/
def Strict (q : List Pt) : Prop := q.Pairwise fun a b => cmpL a.1 b.1 < 0
def Weak (q : List Pt) : Prop := q.Pairwise fun a b => cmpL a.1 b.1 ≤ 0
theorem cmpL_refl (x : List Lb) : cmpL x x = 0 := (cmpL_eq x x).2 rfl
theorem strict_nodup {q : List Pt} (h : Strict q) : (q.map (·.1)).Nodup := by
  rw [List.Nodup, List.pairwise_map]
  refine h.imp ?_
  intro a b hab he
  rw [he, cmpL_refl] at hab
  exact absurd hab (by omega)
theorem weak_strict {q : List Pt} (h : Weak q) (hn : (q.map (·.1)).Nodup) : Strict q := by
  rw [List.Nodup, List.pairwise_map] at hn
  refine (List.Pairwise.and h hn).imp ?_
  rintro a b ⟨h1, h2⟩
  have : cmpL a.1 b.1 ≠ 0 := fun e => h2 ((cmpL_eq _ _).1 e)
  omega
theorem no_strict {q r : List Pt} (h : ¬ (q.map (·.1)).Nodup) (hp : q.Perm r) : ∀ t : List Pt, t.Perm r → ¬ Strict t := by
  intro t ht hs
  exact h (((hp.trans ht.symm).map _).nodup_iff.2 (strict_nodup hs))
theorem strictp_unique : ∀ {q r : List Pt}, q.Perm r → Strict q → Strict r → q = r := by
  intro q
  induction q with
  | nil => intro r hp _ _; exact hp.nil_eq
  | cons a q ih =>
    intro r hp hq hr
    cases r with
    | nil => exact absurd hp.length_eq (by simp)
    | cons b r =>
      have hab : a = b := by
        have h1 : a ∈ b :: r := hp.subset (by simp)
        have h2 : b ∈ a :: q := hp.symm.subset (by simp)
        rcases List.mem_cons.1 h1 with h1 | h1
        · exact h1
        · rcases List.mem_cons.1 h2 with h2 | h2
          · exact h2.symm
          · have e1 := (List.pairwise_cons.1 hq).1 b h2
            have e2 := (List.pairwise_cons.1 hr).1 a h1
            have e3 := cmpL_neg a.1 b.1
            omega
      subst hab
      rw [ih ((List.perm_cons a).1 hp) (List.pairwise_cons.1 hq).2 (List.pairwise_cons.1 hr).2]
theorem weak_adj {q : List Pt} (h : Weak q) (ha : ∀ k (h0 : k + 1 < q.length), cmpL q[k].1 q[k + 1].1 ≠ 0) : Strict q := by
  unfold Strict
  rw [List.pairwise_iff_getElem]
  intro i j hi hj hij
  have hw := List.pairwise_iff_getElem.1 h
  have h1 := hw i (i + 1) hi (by omega) (by omega)
  have h2 := ha i (by omega)
  rcases Nat.lt_or_ge (i + 1) j with h3 | h3
  · have h4 := hw (i + 1) j (by omega) hj h3
    exact (cmpL_trans _ _ _ h1 h4).2 (.inl (by omega))
  · obtain rfl : j = i + 1 := by omega
    omega
theorem adj_dup {q : List Pt} {k : Nat} (h : k + 1 < q.length) (he : cmpL q[k].1 q[k + 1].1 = 0) : ¬ (q.map (·.1)).Nodup := by
  intro hn
  rw [List.Nodup, List.pairwise_map, List.pairwise_iff_getElem] at hn
  exact hn k (k + 1) (by omega) h (by omega) ((cmpL_eq _ _).1 he)
/-- What a call that puts points in order answers. -/
def NR (ps : List Pt) (e : Ending) (w' : World) : Prop :=
  ((∃ p ∈ ps, rightL p.1 = false) ∧ e = .returned (.tuple #[.slice none 0 0, .int .i64 1])) ∨
  ((∀ p ∈ ps, rightL p.1 = true) ∧ (∀ t : List Pt, t.Perm (ps.map canonP) → ¬ Strict t) ∧ e = .returned (.tuple #[.slice none 0 0, .int .i64 4])) ∨
  ((∀ p ∈ ps, rightL p.1 = true) ∧ ∃ q v', q.Perm (ps.map canonP) ∧ Strict q ∧ e = .returned (.tuple #[v', .int .i64 0]) ∧ VS w' v' q)
end Go.Proofs.YtogjcaakfnfapaaDoor
namespace Go.Proofs.YtogjcaakfnfapaaDoor
open Go.Shelf Go.RowKit Go.Lib Go.Sort
set_option linter.unusedVariables false
set_option linter.unusedSimpArgs false
set_option maxRecDepth 100000

section
variable {α : Type} [Inhabited α] {enc : α → List Value}
set_option maxHeartbeats 4000000 in
theorem swapRange_P (k : Nat) (zE : ∀ w, (Go.sizeOf 42).run Tryd.prog w = .ok k w) (blk off cap a b n : Nat) (d0 d : Array α) (w0 w : World) (fv : Value)
    (R : RowK enc k w0 blk off d0) (hs : d0.size = d.size) (S : SWK enc k w0 blk off d w) (ha : a + n ≤ d.size) (hb : b + n ≤ d.size) (hsz : d.size < 4611686018427387904) :
    Calls Tryd.prog 141 #[.slice (some ⟨blk, off, none⟩) d.size cap, .int .i64 a, .int .i64 b, .int .i64 n, fv] w fun e w' => e = .returned (.tuple #[]) ∧ SWK enc k w0 blk off (swapFrom a b n 0 d) w' := by
  have S0 : Aside (SWK enc k w0 blk off d w) := S
  have mixed : Tryd.prog.follows .mixedOrders = true := by kernel_rfl
  clear S
  go_enter Tryd.func141, Tryd.ntmps141
  go_wp2_with fail
  go_loopg [10] n (fun g1 iv wr => ∃ (i : Nat) (dk : Array α), iv = .int .i64 i ∧ i ≤ n ∧ n - i ≤ g1 ∧ dk.size = d.size ∧ Aside (SWK enc k w0 blk off dk wr) ∧ Hid (swapFrom a b n i dk = swapFrom a b n 0 d))
  case atStart => exact ⟨0, d, rfl, by omega, by omega, rfl, S0, rfl⟩
  case round =>
    clear S0
    obtain ⟨i, dk, rfl, hi, hg, hds, S1, HE⟩ := hrel
    by_cases hlt : i < n
    · have hltz : (i : Int) < (n : Int) := by omega
      have ea : ((a : Int) + (i : Int)).toNat = a + i := by omega
      have pa : (0 : Int) ≤ (a : Int) + (i : Int) := by omega
      have ba : (a : Int) + (i : Int) < (d.size : Int) := by omega
      have ra : IntKind.i64.wrap ((a : Int) + (i : Int)) = (a : Int) + (i : Int) := by rw [IntKind.wrap_i64]; omega
      have ec : ((b : Int) + (i : Int)).toNat = b + i := by omega
      have pc : (0 : Int) ≤ (b : Int) + (i : Int) := by omega
      have bc : (b : Int) + (i : Int) < (d.size : Int) := by omega
      have rc : IntKind.i64.wrap ((b : Int) + (i : Int)) = (b : Int) + (i : Int) := by rw [IntKind.wrap_i64]; omega
      have S2 : Aside (SWK enc k w0 blk off (swp dk (a + i) (b + i)) ((wr.drew.setCells blk (off + (a + i) * k) (enc dk[b + i]!)).setCells blk (off + (b + i) * k) (enc dk[a + i]!))) := S1.out.swapped R (a + i) (b + i) (by omega) (by omega)
      have l1 := S1.out.ld1 R (by omega) Tryd.prog (a + i) (by omega)
      have l2 := S1.out.ld1 R (by omega) Tryd.prog (b + i) (by omega)
      have s1 := S1.out.st1 R (by omega) Tryd.prog (a + i) (by omega) dk[b + i]!
      have s2 := S1.out.st2 R (by omega) Tryd.prog (a + i) (b + i) (by omega) (by omega) dk[b + i]! dk[a + i]!
      have n1 : (enc dk[a + i]!).length = k := R.hk _
      have n2 : (enc dk[b + i]!).length = k := R.hk _
      generalize enc dk[a + i]! = cI at S2 l1 s2 n1
      generalize enc dk[b + i]! = cJ at S2 l2 s1 s2 n2
      clear S1
      go_wp2_with fail
      go_big_region_o
      clear l1 l2 s1 s2
      generalize (wr.drew.setCells blk (off + (a + i) * k) cJ).setCells blk (off + (b + i) * k) cI = w2 at S2 ⊢
      go_wp2_with fail
      go_roundg (n - (i + 1))
      case measure => omega
      case rel =>
        have he := HE.out
        rw [swapFrom, dif_pos hlt] at he
        exact ⟨i + 1, swp dk (a + i) (b + i), by simp, by omega, Nat.le_refl _, by rw [size_swp]; exact hds, S2, he⟩
    · obtain rfl : i = n := by omega
      go_wp2_with fail
      go_end0
      refine ⟨rfl, ?_⟩
      have he := HE.out
      rw [swapFrom, dif_neg (by omega)] at he
      rw [← he]
      exact S1.out

/-- A row of the sort's, its part from a to b turned at m. -/
def Turned (enc : α → List Value) (k : Nat) (w0 : World) (blk off a m b : Nat) (d : Array α) (w : World) : Prop := ∃ d', SWK enc k w0 blk off d' w ∧ d'.size = d.size ∧ PermIn a b d d' ∧ ∀ x, d'[x]! = rot a m b d x
def RotRel (enc : α → List Value) (k : Nat) (w0 : World) (blk off a m b : Nat) (d : Array α) (iv jv : Value) (wr : World) : Prop := ∃ (i j : Nat) (dk : Array α), iv = .int .i64 i ∧ jv = .int .i64 j ∧ 0 < i ∧ 0 < j ∧ a + i ≤ m ∧ m + j ≤ b ∧ dk.size = d.size ∧ SWK enc k w0 blk off dk wr ∧ PermIn a b d dk ∧ ∀ x, rot (m - i) m (m + j) dk x = rot a m b d x
set_option maxHeartbeats 4000000 in
theorem rotate_P (k : Nat) (zE : ∀ w, (Go.sizeOf 42).run Tryd.prog w = .ok k w) (blk off cap a m b : Nat) (d0 d : Array α) (w0 w : World) (fv : Value)
    (R : RowK enc k w0 blk off d0) (hs : d0.size = d.size) (S : SWK enc k w0 blk off d w) (ham : a < m) (hmb : m < b) (hb : b ≤ d.size) (hsz : d.size < 4611686018427387904) :
    Calls Tryd.prog 134 #[.slice (some ⟨blk, off, none⟩) d.size cap, .int .i64 a, .int .i64 m, .int .i64 b, fv] w fun e w' => e = .returned (.tuple #[]) ∧ Turned enc k w0 blk off a m b d w' := by
  have S0 : Aside (SWK enc k w0 blk off d w) := S
  have hsw := fun (x y n : Nat) (dk : Array α) (wk : World) (h : d0.size = dk.size) (hS : SWK enc k w0 blk off dk wk) (h1 : x + n ≤ dk.size) (h2 : y + n ≤ dk.size) (h3 : dk.size < 4611686018427387904) => swapRange_P k zE blk off cap x y n d0 dk w0 wk fv R h hS h1 h2 h3
  have HSW := Lib.hid hsw
  have HS := Lib.hid hs
  clear S hsw hs
  go_enter Tryd.func134, Tryd.ntmps134
  go_wp2_with fail
  go_loopw [10, 11] (fun iv jv wr => RotRel enc k w0 blk off a m b d iv jv wr) (fun iv jv _ => (intOf iv).toNat + (intOf jv).toNat)
  case atStart => exact ⟨m - a, b - m, d, by go_num, by go_num, by omega, by omega, by omega, by omega, rfl, S0.out, permIn_refl _ _ _, fun x => by rw [show m - (m - a) = a by omega, show m + (b - m) = b by omega]⟩
  case round =>
    clear S0
    obtain ⟨i, j, dk, rfl, rfl, hi, hj, hai, hjb, hds, hS, hP, hR⟩ := hrel
    have HSS := Lib.hid hS
    have HP := Lib.hid hP
    have HR := Lib.hid hR
    have HDS := Lib.hid hds
    have hmi : m - i + i = m := by omega
    have hm0 : (i : Int) ≤ (m : Int) := by omega
    have hb0 : (m : Int) + (j : Int) ≤ (d.size : Int) := by omega
    clear hS hP hR hds hmi
    by_cases h1 : j < i
    · have n1 : ((i : Int) == (j : Int)) = false := by simp; omega
      have n2 : (j : Int) < (i : Int) := by omega
      have HC := Lib.hid (show Calls Tryd.prog 141 #[.slice (some ⟨blk, off, none⟩) d.size cap, .int .i64 ((m : Int) - (i : Int)), .int .i64 m, .int .i64 j, fv] wr fun e w' => e = .returned (.tuple #[]) ∧ SWK enc k w0 blk off (swapFrom (m - i) m j 0 dk) w' by
        have h := HSW.out (m - i) m j dk wr (by rw [HDS.out]; exact HS.out) HSS.out (by have := HDS.out; omega) (by have := HDS.out; omega) (by have := HDS.out; omega)
        rw [show ((m - i : Nat) : Int) = (m : Int) - (i : Int) by omega, HDS.out] at h
        exact h)
      have hne : (i : Int) ≠ (j : Int) := by omega
      go_wp2_with fail
      refine HC.out.mono ?_
      rintro e w2 ⟨rfl, hs2⟩
      have HS2 := Lib.hid hs2
      clear hs2
      go_wp2_with fail
      go_roundw
      case rel =>
        exact ⟨i - j, j, swapFrom (m - i) m j 0 dk, by congr 1; omega, rfl, by omega, hj, by omega, hjb, by rw [swapFrom_size]; exact HDS.out, HS2.out,
          permIn_trans _ _ _ _ _ HP.out (swapFrom_perm (m - i) m j a b (by omega) (by omega) (by omega) (by omega) 0 dk (by have := HDS.out; omega)),
          fun x => (rot_more m i j dk (by omega) h1 hj (by have := HDS.out; omega) x).symm.trans (HR.out x)⟩
      case measure => simp [intOf]; omega
    · by_cases h2 : i < j
      · have n1 : ((i : Int) == (j : Int)) = false := by simp; omega
        have n2 : ¬ (j : Int) < (i : Int) := by omega
        have n3 : (i : Int) ≤ (j : Int) := by omega
        have HC := Lib.hid (show Calls Tryd.prog 141 #[.slice (some ⟨blk, off, none⟩) d.size cap, .int .i64 ((m : Int) - (i : Int)), .int .i64 ((m : Int) + (j : Int) - (i : Int)), .int .i64 i, fv] wr fun e w' => e = .returned (.tuple #[]) ∧ SWK enc k w0 blk off (swapFrom (m - i) (m + j - i) i 0 dk) w' by
          have h := HSW.out (m - i) (m + j - i) i dk wr (by rw [HDS.out]; exact HS.out) HSS.out (by have := HDS.out; omega) (by have := HDS.out; omega) (by have := HDS.out; omega)
          rw [show ((m - i : Nat) : Int) = (m : Int) - (i : Int) by omega, show ((m + j - i : Nat) : Int) = (m : Int) + (j : Int) - (i : Int) by omega, HDS.out] at h
          exact h)
        have hne : (i : Int) ≠ (j : Int) := by omega
        go_wp2_with fail
        refine HC.out.mono ?_
        rintro e w2 ⟨rfl, hs2⟩
        have HS2 := Lib.hid hs2
        clear hs2
        go_wp2_with fail
        go_roundw
        case rel =>
          exact ⟨i, j - i, swapFrom (m - i) (m + j - i) i 0 dk, rfl, by congr 1; omega, hi, by omega, hai, by omega, by rw [swapFrom_size]; exact HDS.out, HS2.out,
            permIn_trans _ _ _ _ _ HP.out (swapFrom_perm (m - i) (m + j - i) i a b (by omega) (by omega) (by omega) (by omega) 0 dk (by have := HDS.out; omega)),
            fun x => (rot_less m i j dk (by omega) h2 hi (by have := HDS.out; omega) x).symm.trans (HR.out x)⟩
        case measure => simp [intOf]; omega
      · obtain rfl : i = j := by omega
        have HC := Lib.hid (show Calls Tryd.prog 141 #[.slice (some ⟨blk, off, none⟩) d.size cap, .int .i64 ((m : Int) - (i : Int)), .int .i64 m, .int .i64 i, fv] wr fun e w' => e = .returned (.tuple #[]) ∧ SWK enc k w0 blk off (swapFrom (m - i) m i 0 dk) w' by
          have h := HSW.out (m - i) m i dk wr (by rw [HDS.out]; exact HS.out) HSS.out (by have := HDS.out; omega) (by have := HDS.out; omega) (by have := HDS.out; omega)
          rw [show ((m - i : Nat) : Int) = (m : Int) - (i : Int) by omega, HDS.out] at h
          exact h)
        clear h1 h2
        go_wp2_with fail
        refine HC.out.mono ?_
        rintro e w2 ⟨rfl, hs2⟩
        have HS2 := Lib.hid hs2
        clear hs2
        go_wp2_with fail
        go_end0
        exact ⟨rfl, swapFrom (m - i) m i 0 dk, HS2.out, by rw [swapFrom_size]; exact HDS.out,
          permIn_trans _ _ _ _ _ HP.out (swapFrom_perm (m - i) m i a b (by omega) (by omega) (by omega) (by omega) 0 dk (by have := HDS.out; omega)),
          fun x => (rot_end m i dk (by omega) (by have := HDS.out; omega) x).trans (HR.out x)⟩
end
end Go.Proofs.YtogjcaakfnfapaaDoor
