/- Plain law: a point put into points that are in order. -/
import Derived.Test.YtkflhfdpdgnbfaaVp1
namespace Go.Proofs.Ytkflhfdpdgnbfaa
open Go Go.RowKit
set_option linter.unusedVariables false
set_option linter.unusedSimpArgs false
def putAt (q : List Pt) (j : Nat) (p : Pt) : List Pt := q.take j ++ p :: q.drop j
theorem putAt_perm (q : List Pt) (j : Nat) (p : Pt) : (putAt q j p).Perm (q ++ [p]) := by
  refine List.perm_middle.trans ?_
  rw [List.take_append_drop]
  exact (List.perm_append_singleton p q).symm
theorem low_take {q : List Pt} {p : Pt} {j : Nat} (h1 : ∀ m (hm : m < q.length), m < j → cmpL q[m].1 p.1 < 0) : ∀ a ∈ q.take j, cmpL a.1 p.1 < 0 := by
  intro a ha
  obtain ⟨m, hm, rfl⟩ := List.mem_iff_getElem.1 ha
  rw [List.length_take] at hm
  rw [List.getElem_take]
  exact h1 m (by omega) (by omega)
theorem high_drop {q : List Pt} {p : Pt} {j : Nat} (h : Weak q) (h2 : ∀ hj : j < q.length, 0 ≤ cmpL q[j].1 p.1) : ∀ b ∈ q.drop j, cmpL p.1 b.1 ≤ 0 := by
  intro b hb
  obtain ⟨m, hm, rfl⟩ := List.mem_iff_getElem.1 hb
  rw [List.length_drop] at hm
  rw [List.getElem_drop]
  have hj : j < q.length := by omega
  have e1 := h2 hj
  have e2 := cmpL_neg q[j].1 p.1
  cases m with
  | zero => simp only [Nat.add_zero]; omega
  | succ m =>
    have e3 := List.pairwise_iff_getElem.1 h j (j + (m + 1)) hj (by omega) (by omega)
    exact (cmpL_trans _ _ _ (by omega) e3).1
theorem high_drop' {q : List Pt} {p : Pt} {j : Nat} (h : Weak q) (h2 : ∀ hj : j < q.length, 0 < cmpL q[j].1 p.1) : ∀ b ∈ q.drop j, cmpL p.1 b.1 < 0 := by
  intro b hb
  obtain ⟨m, hm, rfl⟩ := List.mem_iff_getElem.1 hb
  rw [List.length_drop] at hm
  rw [List.getElem_drop]
  have hj : j < q.length := by omega
  have e1 := h2 hj
  have e2 := cmpL_neg q[j].1 p.1
  cases m with
  | zero => simp only [Nat.add_zero]; omega
  | succ m =>
    have e3 := List.pairwise_iff_getElem.1 h j (j + (m + 1)) hj (by omega) (by omega)
    exact (cmpL_trans _ _ _ (by omega) e3).2 (.inl (by omega))
theorem putAt_weak {q : List Pt} {p : Pt} {j : Nat} (h : Weak q) (h1 : ∀ m (hm : m < q.length), m < j → cmpL q[m].1 p.1 < 0) (h2 : ∀ hj : j < q.length, 0 ≤ cmpL q[j].1 p.1) : Weak (putAt q j p) := by
  have hl := low_take h1
  have hh := high_drop h h2
  unfold Weak putAt
  rw [List.pairwise_append, List.pairwise_cons]
  refine ⟨h.sublist (List.take_sublist _ _), ⟨hh, h.sublist (List.drop_sublist _ _)⟩, fun a ha b hb => ?_⟩
  rcases List.mem_cons.1 hb with rfl | hb
  · have := hl a ha; omega
  · have := hl a ha
    exact (cmpL_trans _ _ _ (by omega) (hh b hb)).1
theorem putAt_strict {q : List Pt} {p : Pt} {j : Nat} (h : Strict q) (h1 : ∀ m (hm : m < q.length), m < j → cmpL q[m].1 p.1 < 0) (h2 : ∀ hj : j < q.length, 0 < cmpL q[j].1 p.1) : Strict (putAt q j p) := by
  have hw : Weak q := h.imp fun h => by omega
  have hl := low_take h1
  have hh := high_drop' hw h2
  unfold Strict putAt
  rw [List.pairwise_append, List.pairwise_cons]
  refine ⟨h.sublist (List.take_sublist _ _), ⟨hh, h.sublist (List.drop_sublist _ _)⟩, fun a ha b hb => ?_⟩
  rcases List.mem_cons.1 hb with rfl | hb
  · exact hl a ha
  · have e1 := hl a ha
    have e2 := hh b hb
    exact (cmpL_trans _ _ _ (by omega) (by omega)).2 (.inl e1)
theorem putAt_dup {q : List Pt} {p : Pt} {j : Nat} (hj : j < q.length) (he : cmpL q[j].1 p.1 = 0) : ¬ ((putAt q j p).map (·.1)).Nodup := by
  intro hn
  have h1 := ((putAt_perm q j p).map (·.1)).nodup_iff.1 hn
  rw [List.map_append, List.nodup_append] at h1
  exact h1.2.2 q[j].1 (List.mem_map.2 ⟨_, List.getElem_mem hj, rfl⟩) p.1 (by simp) ((cmpL_eq _ _).1 he)
theorem putAt_dup' {q : List Pt} {p : Pt} {j : Nat} (h : ¬ (q.map (·.1)).Nodup) : ¬ ((putAt q j p).map (·.1)).Nodup := by
  intro hn
  have h1 := ((putAt_perm q j p).map (·.1)).nodup_iff.1 hn
  rw [List.map_append, List.nodup_append] at h1
  exact h h1.1
end Go.Proofs.Ytkflhfdpdgnbfaa
