/- Plain law: what a comparison leaves and what its opposite leaves. -/
import Derived.Test.YtkflhfdpdgnbfaaVo8
namespace Go.Proofs.Ytkflhfdpdgnbfaa
open Go Go.RowKit
set_option linter.unusedVariables false
set_option linter.unusedSimpArgs false
theorem order_some {a b : Nat} (ha : fnan a = false) (hb : fnan b = false) : ∃ o, FloatKind.f64.format.order a b = some o := by
  have h1 := read_number ha
  have h2 := read_number hb
  show ∃ o, Ieee.Datum.order (Ieee.double.read a) (Ieee.double.read b) = some o
  cases hr : Ieee.double.read a with
  | nan n q => exact absurd hr (h1 n q)
  | infinity s =>
    cases hs : Ieee.double.read b with
    | nan n q => exact absurd hs (h2 n q)
    | infinity t => exact ⟨_, rfl⟩
    | number t m i => exact ⟨_, rfl⟩
  | number s m i =>
    cases hs : Ieee.double.read b with
    | nan n q => exact absurd hs (h2 n q)
    | infinity t => exact ⟨_, rfl⟩
    | number t m' i' => exact ⟨_, rfl⟩
/-- A comparison's opposite. -/
def notOp (op : Int) : Int := if op = 5 then 6 else if op = 6 then 5 else if op = 7 then 10 else if op = 8 then 9 else if op = 9 then 8 else 7
theorem holds_not {op : Int} (h5 : 5 ≤ op) (h10 : op ≤ 10) {a b : Nat} (ha : fnan a = false) (hb : fnan b = false) : holdsF (notOp op) a b = !holdsF op a b := by
  obtain ⟨o, ho⟩ := order_some ha hb
  rcases (by omega : op = 5 ∨ op = 6 ∨ op = 7 ∨ op = 8 ∨ op = 9 ∨ op = 10) with rfl | rfl | rfl | rfl | rfl | rfl <;>
    (simp only [holdsF, notOp, ho]; cases o <;> decide)
theorem side_nan {x y : Nat} {left : Bool} (hx : fnan x = false) (hy : fnan y = false) : fnan (sideF left x y).1 = false ∧ fnan (sideF left x y).2 = false := by
  unfold sideF
  cases left
  · exact ⟨hy, hx⟩
  · exact ⟨hx, hy⟩
theorem filterF_eq (op : Int) (x : Nat) (left : Bool) (ps : List Pt) : ps.filterMap (filterF op x left) = ps.filter fun p => holdsF op (sideF left x p.2).1 (sideF left x p.2).2 := by
  induction ps with
  | nil => rfl
  | cons p ps ih =>
    by_cases h : holdsF op (sideF left x p.2).1 (sideF left x p.2).2 = true
    · rw [List.filterMap_cons_some (show filterF op x left p = some p by unfold filterF; rw [if_pos h]), List.filter_cons_of_pos (p := fun p : Pt => holdsF op (sideF left x p.2).1 (sideF left x p.2).2) h, ih]
    · rw [List.filterMap_cons_none (show filterF op x left p = none by unfold filterF; rw [if_neg h]), List.filter_cons_of_neg (p := fun p : Pt => holdsF op (sideF left x p.2).1 (sideF left x p.2).2) h, ih]
theorem parts_perm {α : Type} (f g : α → Bool) (l : List α) (h : ∀ a ∈ l, g a = !f a) : (l.filter f ++ l.filter g).Perm l := by
  induction l with
  | nil => exact List.Perm.refl _
  | cons a l ih =>
    have h1 := ih fun b hb => h b (by simp [hb])
    have h2 := h a (by simp)
    by_cases hf : f a = true
    · have hg : ¬ g a = true := by rw [h2, hf]; decide
      rw [List.filter_cons_of_pos hf, List.filter_cons_of_neg hg, List.cons_append]
      exact h1.cons a
    · have hg : g a = true := by rw [h2]; simpa using hf
      rw [List.filter_cons_of_neg hf, List.filter_cons_of_pos hg]
      exact List.perm_middle.trans (h1.cons a)
theorem vright_parts {ps : List Pt} (h : vrightL ps = true) : Strict ps ∧ ∀ p ∈ ps, rightL p.1 = true := by
  have hv : VRight ps := by
    unfold vrightL at h
    exact @of_decide_eq_true _ (Classical.propDecidable _) h
  refine ⟨?_, fun p hp => ?_⟩
  · have hadj : ∀ k (h0 : k + 1 < ps.length), cmpL ps[k].1 ps[k + 1].1 < 0 := fun k h0 => (hv (k + 1) h0).2 (by omega)
    unfold Strict
    rw [List.pairwise_iff_getElem]
    intro i j hi hj hij
    induction j with
    | zero => omega
    | succ j ih =>
      by_cases hj2 : i = j
      · subst hj2; exact hadj i hj
      · have h1 := ih (by omega) (by omega)
        exact (cmpL_trans _ _ _ (by omega) (by have := hadj j hj; omega)).2 (.inl h1)
  · obtain ⟨k, hk, rfl⟩ := List.mem_iff_getElem.1 hp
    exact (hv k hk).1
/-- An answer of Normal to points that can be put in order. -/
theorem nr_of {l t : List Pt} {e : Ending} {w : World} (hr : ∀ p ∈ l, rightL p.1 = true) (ht : Strict t) (hp : t.Perm (l.map canonP)) (h : NR l e w) : ∃ v, e = .returned (.tuple #[v, .int .i64 0]) ∧ VS w v t := by
  rcases h with ⟨⟨p, hpp, h1⟩, -⟩ | ⟨-, h1, -⟩ | ⟨-, q, v', h1, h2, h3, h4⟩
  · rw [hr p hpp] at h1; cases h1
  · exact absurd ht (h1 _ hp)
  · have : q = t := strictp_unique (h1.trans hp.symm) h2 ht
    subst this
    exact ⟨v', h3, h4⟩
theorem canon_all {l : List Pt} (h : ∀ p ∈ l, fnan p.2 = false) : l.map canonP = l := by
  have : ∀ p ∈ l, canonP p = p := fun p hp => by unfold canonP; rw [canon_num (h p hp)]
  exact (List.map_congr_left this).trans (List.map_id' l)
/-- What a filter leaves of a vector of numbers. -/
theorem nr_filter {ps : List Pt} {e : Ending} {w : World} {op : Int} {x : Nat} {left : Bool} (hs : Strict ps) (hr : ∀ p ∈ ps, rightL p.1 = true) (hn : ∀ p ∈ ps, fnan p.2 = false) (h : NR (ps.filterMap (filterF op x left)) e w) :
    ∃ v, e = .returned (.tuple #[v, .int .i64 0]) ∧ VS w v (ps.filter fun p => holdsF op (sideF left x p.2).1 (sideF left x p.2).2) := by
  rw [filterF_eq] at h
  refine nr_of (fun p hp => hr p ((List.mem_filter.1 hp).1)) (hs.sublist List.filter_sublist) ?_ h
  rw [canon_all fun p hp => hn p ((List.mem_filter.1 hp).1)]
/-- Both parts, put together. -/
theorem nr_joined {ps : List Pt} {e : Ending} {w : World} {op : Int} {x : Nat} {left : Bool} (h5 : 5 ≤ op) (h10 : op ≤ 10) (hx : fnan x = false) (hs : Strict ps) (hr : ∀ p ∈ ps, rightL p.1 = true) (hn : ∀ p ∈ ps, fnan p.2 = false)
    (h : NR ((ps.filter fun p => holdsF op (sideF left x p.2).1 (sideF left x p.2).2) ++ (ps.filter fun p => holdsF (notOp op) (sideF left x p.2).1 (sideF left x p.2).2)) e w) :
    ∃ v, e = .returned (.tuple #[v, .int .i64 0]) ∧ VS w v ps := by
  have hp := parts_perm (fun p : Pt => holdsF op (sideF left x p.2).1 (sideF left x p.2).2) (fun p : Pt => holdsF (notOp op) (sideF left x p.2).1 (sideF left x p.2).2) ps (fun p hp => holds_not h5 h10 (side_nan hx (hn p hp)).1 (side_nan hx (hn p hp)).2)
  refine nr_of (fun p hq => hr p (hp.subset hq)) hs ?_ h
  rw [canon_all fun p hq => hn p (hp.subset hq)]
  exact hp.symm
theorem parts_len {ps : List Pt} {op : Int} {x : Nat} {left : Bool} (h5 : 5 ≤ op) (h10 : op ≤ 10) (hx : fnan x = false) (hn : ∀ p ∈ ps, fnan p.2 = false) :
    (ps.filter fun p => holdsF op (sideF left x p.2).1 (sideF left x p.2).2).length + (ps.filter fun p => holdsF (notOp op) (sideF left x p.2).1 (sideF left x p.2).2).length = ps.length := by
  have hp := parts_perm (fun p : Pt => holdsF op (sideF left x p.2).1 (sideF left x p.2).2) (fun p : Pt => holdsF (notOp op) (sideF left x p.2).1 (sideF left x p.2).2) ps (fun p hp => holds_not h5 h10 (side_nan hx (hn p hp)).1 (side_nan hx (hn p hp)).2)
  have := hp.length_eq
  rwa [List.length_append] at this
end Go.Proofs.Ytkflhfdpdgnbfaa
