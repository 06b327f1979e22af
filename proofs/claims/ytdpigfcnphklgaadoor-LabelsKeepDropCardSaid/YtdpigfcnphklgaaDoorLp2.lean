/- Plain law of kept, dropped and inserted labels. -/
import Derived.Test.YtdpigfcnphklgaaDoorLw1
namespace Go.Proofs.YtdpigfcnphklgaaDoor
open Go.RowKit
set_option linter.unusedVariables false
set_option linter.unusedSimpArgs false
theorem right_filter {l : List Lb} (p : Lb → Bool) (h : rightL l = true) : rightL (l.filter p) = true := by
  obtain ⟨h1, h2, h3⟩ := (right_iff l).1 h
  exact (right_iff _).2 ⟨fun x hx => h1 x (List.mem_filter.1 hx).1, h2.sublist List.filter_sublist, Nat.le_trans (List.length_filter_le _ _) h3⟩
theorem right_pick {l : List Lb} (ns : List ByteArray) (b : Bool) (h : rightL l = true) : rightL (pickL ns b l) = true := right_filter _ h
theorem pick_parts (ns : List ByteArray) (l : List Lb) : (pickL ns true l ++ pickL ns false l).Perm l := by
  unfold pickL
  have e : (fun x : Lb => hasL ns x.1 == false) = fun x => !(hasL ns x.1 == true) := by
    funext x; cases hasL ns x.1 <;> rfl
  rw [e]
  exact List.filter_append_perm _ _
theorem set_parts {l : List Lb} (ns : List ByteArray) (h : rightL l = true) : OkP (pickL ns true l ++ pickL ns false l) ∧ (keepL (pickL ns true l ++ pickL ns false l)).length ≤ 32 ∧ insL (keepL (pickL ns true l ++ pickL ns false l)) = l := by
  have hp := pick_parts ns l
  obtain ⟨h1, h2, h3, h4⟩ := okP_right h
  have ho := (okP_perm hp).2 h1
  have hk := keep_perm hp
  refine ⟨ho, by rw [hk.length_eq]; exact h2, ?_⟩
  refine strict_unique _ _ (ins_strict (keep_pair ho.2)) ((right_iff l).1 h).2.1 ?_
  exact (ins_perm _).trans (hk.trans (by rw [h3]))
theorem with_right (l : List Lb) (name value : ByteArray) (h : rightL l = true) : rightL (withL l name value) = true := by
  unfold withL
  split
  · assumption
  · exact h
theorem drop_none {l : List Lb} {name : ByteArray} : ∀ y ∈ pickL [name] false l, y.1 ≠ name := by
  intro y hy e
  unfold pickL at hy
  have := (List.mem_filter.1 hy).2
  rw [e] at this
  simp [hasL] at this
theorem drop_self {d : List Lb} {name : ByteArray} (h : ∀ y ∈ d, y.1 ≠ name) : pickL [name] false d = d := by
  unfold pickL
  refine List.filter_eq_self.2 fun x hx => ?_
  have hne := h x hx
  have : (name.toList == x.1.toList) = false := by
    rw [beq_cmp]
    exact decide_eq_false fun e => hne ((cmpS_eq _ _).1 e).symm
  simp [hasL, this]
theorem drop_put (x : Lb) (d : List Lb) (h : ∀ y ∈ d, y.1 ≠ x.1) : pickL [x.1] false (putL x d) = d := by
  induction d with
  | nil => simp [putL, pickL, hasL]
  | cons y r ih =>
    have hy : (x.1.toList == y.1.toList) = false := by
      rw [beq_cmp]
      exact decide_eq_false fun e => h y (by simp) ((cmpS_eq _ _).1 e).symm
    rw [putL]
    split
    · have := ih (fun z hz => h z (by simp [hz]))
      unfold pickL at this ⊢
      rw [List.filter_cons, this]
      simp [hasL, hy]
    · have := drop_self (d := y :: r) (name := x.1) h
      unfold pickL at this ⊢
      rw [List.filter_cons, this]
      simp [hasL]
theorem get_put (x : Lb) (d : List Lb) (h : ∀ y ∈ d, y.1 ≠ x.1) : getL x.1 (putL x d) = x.2 := by
  induction d with
  | nil => simp [putL, getL]
  | cons y r ih =>
    have hy : (y.1.toList == x.1.toList) = false := by
      rw [beq_cmp]
      exact decide_eq_false fun e => h y (by simp) ((cmpS_eq _ _).1 e)
    rw [putL]
    split
    · rw [getL, hy]
      exact ih (fun z hz => h z (by simp [hz]))
    · simp [getL]
/-- A label put in, and taken out again. -/
theorem with_back {l : List Lb} {name value : ByteArray} (h : rightL l = true) (hl : l.length < 32) (hn : nameB name = true) (hv : 0 < value.size) (hv2 : value.size ≤ 256) :
    getL name (withL l name value) = value ∧ withL (withL l name value) name ⟨#[]⟩ = pickL [name] false l := by
  obtain ⟨h1, h2, h3⟩ := (right_iff l).1 h
  have hd := right_pick [name] false h
  obtain ⟨d1, d2, d3⟩ := (right_iff _).1 hd
  have hD : withD l name value = putL (name, value) (pickL [name] false l) := by rw [withD, if_pos hv]
  have hne : ∀ y ∈ pickL [name] false l, y.1 ≠ name := drop_none
  have hR : rightL (withD l name value) = true := by
    rw [hD]
    refine (right_iff _).2 ⟨fun x hx => ?_, put_strict d2 hne, ?_⟩
    · rcases List.mem_cons.1 ((put_perm _ _).mem_iff.1 hx) with rfl | hx
      · exact (labOk_iff _).2 ⟨⟨hn, hv2⟩, hv⟩
      · exact d1 x hx
    · rw [put_length]
      have := pick_len [name] false l
      omega
  have hW : withL l name value = putL (name, value) (pickL [name] false l) := by rw [withL, if_pos hR, hD]
  have hg := get_put (name, value) _ hne
  have hp := drop_put (name, value) _ hne
  refine ⟨by rw [hW]; exact hg, ?_⟩
  have hD2 : withD (withL l name value) name ⟨#[]⟩ = pickL [name] false l := by
    rw [withD, if_neg (by decide), hW]
    exact hp
  rw [withL, hD2, if_pos hd]
end Go.Proofs.YtdpigfcnphklgaaDoor
