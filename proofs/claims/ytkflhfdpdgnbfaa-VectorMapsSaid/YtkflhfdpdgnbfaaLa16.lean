/- The document's Set. -/
import Derived.Test.YtkflhfdpdgnbfaaLa15
namespace Go.Proofs.Ytkflhfdpdgnbfaa
open Go.RowKit
set_option linter.unusedVariables false
set_option linter.unusedSimpArgs false
set_option maxRecDepth 100000
theorem lx_mem {l : List Lb} {k : Nat} (h : k < l.length) : lx l k ∈ l := by rw [lx_at h]; exact List.getElem_mem h
theorem okP_no_name {l : List Lb} {k : Nat} (hk : k < l.length) (h : nameB (lx l k).1 = false ∨ 256 < (lx l k).2.size) : ¬ OkP l := by
  intro ho
  obtain ⟨h1, h2⟩ := ho.1 _ (lx_mem hk)
  rcases h with h | h
  · rw [h] at h1; cases h1
  · omega
theorem okP_no_dup {l : List Lb} {j k : Nat} (hj : j < k) (hk : k < l.length) (h : (lx l j).1 = (lx l k).1) : ¬ OkP l := by
  intro ho
  have := List.pairwise_iff_getElem.1 ho.2 j k (by omega) hk hj
  rw [lx_at hk, lx_at (by omega)] at h
  exact this h
theorem okP_snoc {l : List Lb} {k : Nat} (hk : k < l.length) (h : OkP (l.take k)) (h1 : nameB (lx l k).1 = true) (h2 : (lx l k).2.size ≤ 256) (h3 : ∀ j, j < k → (lx l j).1 ≠ (lx l k).1) : OkP (l.take (k + 1)) := by
  rw [List.take_succ_eq_append_getElem hk, ← lx_at hk]
  refine ⟨fun x hx => ?_, ?_⟩
  · rcases List.mem_append.1 hx with hx | hx
    · exact h.1 x hx
    · simp at hx; subst hx; exact ⟨h1, h2⟩
  · refine List.pairwise_append.2 ⟨h.2, List.pairwise_singleton _ _, fun x hx y hy => ?_⟩
    simp at hy; subst hy
    obtain ⟨j, hj, rfl⟩ := List.getElem_of_mem hx
    have hj' : j < k := by simp at hj; omega
    have := h3 j hj'
    rw [lx_at (by omega)] at this
    simpa using this
def RSet (l : List Lb) (w : World) (e : Ending) (w' : World) : Prop :=
  Below w.heap.size w w' ∧ ((OkP l ∧ (keepL l).length ≤ 32 ∧ ∃ v', e = .returned (.tuple #[v', .int .i64 0]) ∧ Sl lenc w' v' (insL (keepL l))) ∨ (¬ (OkP l ∧ (keepL l).length ≤ 32) ∧ e = .returned (.tuple #[.slice none 0 0, .int .i64 1])))
end Go.Proofs.Ytkflhfdpdgnbfaa
