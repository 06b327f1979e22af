/- Plain law: points in order. -/
import Derived.Test.YtkflhfdpdgnbfaaVn4
namespace Go.Proofs.Ytkflhfdpdgnbfaa
open Go Go.RowKit
set_option linter.unusedVariables false
set_option linter.unusedSimpArgs false
def canonP (p : Pt) : Pt := (p.1, canon p.2)
/-- In order, each labels' list once. -/
def Strict (q : List Pt) : Prop := q.Pairwise fun a b => cmpL a.1 b.1 < 0
def Weak (q : List Pt) : Prop := q.Pairwise fun a b => cmpL a.1 b.1 ≤ 0
theorem cmpL_refl (x : List Lb) : cmpL x x = 0 := (cmpL_eq x x).2 rfl
theorem strict_nodup {q : List Pt} (h : Strict q) : (q.map (·.1)).Nodup := by
  rw [List.Nodup, List.pairwise_map]
  refine h.imp ?_
  intro a b hab he
  rw [he, cmpL_refl] at hab
  exact absurd hab (by omega)
theorem weak_strict {q : List Pt} (h : Weak q) (hn : (q.map (·.1)).Nodup) : Strict q := by
  rw [List.Nodup, List.pairwise_map] at hn
  refine (List.Pairwise.and h hn).imp ?_
  rintro a b ⟨h1, h2⟩
  have : cmpL a.1 b.1 ≠ 0 := fun e => h2 ((cmpL_eq _ _).1 e)
  omega
theorem no_strict {q r : List Pt} (h : ¬ (q.map (·.1)).Nodup) (hp : q.Perm r) : ∀ t : List Pt, t.Perm r → ¬ Strict t := by
  intro t ht hs
  exact h (((hp.trans ht.symm).map _).nodup_iff.2 (strict_nodup hs))
theorem strictp_unique : ∀ {q r : List Pt}, q.Perm r → Strict q → Strict r → q = r := by
  intro q
  induction q with
  | nil => intro r hp _ _; exact hp.nil_eq
  | cons a q ih =>
    intro r hp hq hr
    cases r with
    | nil => exact absurd hp.length_eq (by simp)
    | cons b r =>
      have hab : a = b := by
        have h1 : a ∈ b :: r := hp.subset (by simp)
        have h2 : b ∈ a :: q := hp.symm.subset (by simp)
        rcases List.mem_cons.1 h1 with h1 | h1
        · exact h1
        · rcases List.mem_cons.1 h2 with h2 | h2
          · exact h2.symm
          · have e1 := (List.pairwise_cons.1 hq).1 b h2
            have e2 := (List.pairwise_cons.1 hr).1 a h1
            have e3 := cmpL_neg a.1 b.1
            omega
      subst hab
      rw [ih ((List.perm_cons a).1 hp) (List.pairwise_cons.1 hq).2 (List.pairwise_cons.1 hr).2]
theorem weak_adj {q : List Pt} (h : Weak q) (ha : ∀ k (h0 : k + 1 < q.length), cmpL q[k].1 q[k + 1].1 ≠ 0) : Strict q := by
  unfold Strict
  rw [List.pairwise_iff_getElem]
  intro i j hi hj hij
  have hw := List.pairwise_iff_getElem.1 h
  have h1 := hw i (i + 1) hi (by omega) (by omega)
  have h2 := ha i (by omega)
  rcases Nat.lt_or_ge (i + 1) j with h3 | h3
  · have h4 := hw (i + 1) j (by omega) hj h3
    exact (cmpL_trans _ _ _ h1 h4).2 (.inl (by omega))
  · obtain rfl : j = i + 1 := by omega
    omega
theorem adj_dup {q : List Pt} {k : Nat} (h : k + 1 < q.length) (he : cmpL q[k].1 q[k + 1].1 = 0) : ¬ (q.map (·.1)).Nodup := by
  intro hn
  rw [List.Nodup, List.pairwise_map, List.pairwise_iff_getElem] at hn
  exact hn k (k + 1) (by omega) h (by omega) ((cmpL_eq _ _).1 he)
/-- What a call that puts points in order answers. -/
def NR (ps : List Pt) (e : Ending) (w' : World) : Prop :=
  ((∃ p ∈ ps, rightL p.1 = false) ∧ e = .returned (.tuple #[.slice none 0 0, .int .i64 1])) ∨
  ((∀ p ∈ ps, rightL p.1 = true) ∧ (∀ t : List Pt, t.Perm (ps.map canonP) → ¬ Strict t) ∧ e = .returned (.tuple #[.slice none 0 0, .int .i64 4])) ∨
  ((∀ p ∈ ps, rightL p.1 = true) ∧ ∃ q v', q.Perm (ps.map canonP) ∧ Strict q ∧ e = .returned (.tuple #[v', .int .i64 0]) ∧ VS w' v' q)
end Go.Proofs.Ytkflhfdpdgnbfaa
