/- How slices of whatever elements, and structs by value, are opened. -/
import Derived.Test.YtidmbjgnkodiiaaSl
import Derived.Test.YtidmbjgnkodiiaaOpen
import Derived.ChangeArms
import Derived.Lib.SmallJoins
namespace Go.Proofs.Ytidmbjgnkodiiaa
open Go.RowKit Go.ChangeShapes Go.WideShapes
set_option linter.unusedVariables false
set_option linter.unusedSimpArgs false

section
variable {H : Type} {enc : TypeId × Value → H} {P : Program} {w : World} {base : Nat} {spare : Nat → Bool} {held : Bool}

theorem cells_get {base n : Nat} {a : Addr} {cs : List Value} (h : w.cells? base a n = some cs) (hs : a.spot = none) : cs.length = n ∧ ∀ i u, cs[i]? = some u → w.cell? ⟨a.block, a.off + i, none⟩ = some u := by
  unfold World.cells? at h
  split at h
  · have hl : cs.length = n := by simpa using mapM_some_length h
    refine ⟨hl, fun i u hu => ?_⟩
    have hi : i < n := by have := (List.getElem?_eq_some_iff.1 hu).1; omega
    have := mapM_some_get h i i (by simp [hi])
    obtain ⟨b, off, sp⟩ := a
    simp only at hs
    subst hs
    rw [Addr.add_lit] at this
    rw [this]; exact hu
  · cases h

theorem cells_first {base n : Nat} {a : Addr} {cs : List Value} (h : w.cells? base a n = some cs) (h0 : 0 < n) : ∃ u, w.cell? a = some u := by
  unfold World.cells? at h
  split at h
  · have hl : cs.length = n := by simpa using mapM_some_length h
    have h3 := mapM_some_get h 0 0 (by simp [h0])
    exact ⟨cs[0], h3.trans (List.getElem?_eq_getElem (by omega))⟩
  · cases h
theorem pick_list {α : Type} {R : Nat → α → Prop} {len : Nat} (one : ∀ i, i < len → ∃ y, R i y) : ∃ xs : List α, xs.length = len ∧ ∀ i (hi : i < xs.length), R i xs[i] := by
  induction len with
  | zero => exact ⟨[], rfl, fun i hi => by simp at hi⟩
  | succ m ih =>
    obtain ⟨xs, hx, hh⟩ := ih (fun i hi => one i (by omega))
    obtain ⟨y, hy⟩ := one m (by omega)
    refine ⟨xs ++ [y], by simp [hx], fun i hi => ?_⟩
    by_cases h' : i < xs.length
    · rw [List.getElem_append_left h']; exact hh i h'
    · have : i = xs.length := by simp at hi; omega
      subst this
      rw [List.getElem_append_right (Nat.le_refl _)]
      simp only [Nat.sub_self, List.getElem_cons_zero]
      rw [hx]; exact hy

theorem open_sl_cs {α : Type} {encd : α → List Value} {sz : Nat} {t e : TypeId} {fuel : Nat} {cs : List Value} {x : DataW H × List MemPlace} {Good : α → Prop} (ht : P.underlying t = some (.slice e)) (hc : P.cellsOf e = sz) (h0 : 0 < sz) (hsz : ∀ x, (encd x).length = sz)
    (elem : ∀ n cs x, DataW.trod enc P w base spare held n e cs = some x → ∃ a : α, cs = encd a ∧ Good a)
    (h : DataW.trod enc P w base spare held fuel t cs = some x) : ∃ v xs, cs = [v] ∧ Sl encd w v xs ∧ ∀ a ∈ xs, Good a := by
  rcases DataW.trod_slice ht h with ⟨rfl, _⟩ | ⟨a, len, cap, elems, rest, n, _, rfl, _, hb, hl, hm, hlen, hel, _⟩
  · exact ⟨_, [], rfl, Sl.nil w, by simp⟩
  · rw [hc] at hel
    have one : ∀ i, i < len → ∃ y : α, Good y ∧ w.cells? base (a.add (i * sz)) sz = some (encd y) := by
      intro i hi
      have h1 := hel i hi
      have h2 : elems[i]? = some elems[i] := List.getElem?_eq_getElem (by omega)
      rw [h2] at h1
      obtain ⟨cs', h3, h4⟩ := Option.bind_eq_some_iff.1 h1
      obtain ⟨y, rfl, hg⟩ := elem _ _ _ h4
      exact ⟨y, hg, h3⟩
    obtain ⟨xs, hx, hh⟩ := pick_list (R := fun i y => Good y ∧ w.cells? base (a.add (i * sz)) sz = some (encd y)) one
    refine ⟨_, xs, rfl, ⟨some a, cap, by rw [hx], ⟨by omega, by unfold maxLen at hm; omega⟩, (fun e => by cases e), fun hne => ?_⟩, fun y hy => ?_⟩
    · have hpos : 0 < xs.length := List.length_pos_iff.2 hne
      have h1 := (hh 0 hpos).2
      have hsp : a.spot = none := by
        rw [Nat.zero_mul] at h1
        have h2 : (a.add 0) = a := rfl
        rw [h2] at h1
        obtain ⟨u, hu⟩ := cells_first h1 h0
        exact World.cell?_spot hu
      obtain ⟨b, off, sp⟩ := a
      simp only at hsp
      subst hsp
      refine ⟨b, off, rfl, fun j u hu => ?_⟩
      have hj : j < xs.length * sz := by rw [← flat_length hsz]; exact (List.getElem?_eq_some_iff.1 hu).1
      have hk : j / sz < xs.length := Nat.div_lt_of_lt_mul (by rw [Nat.mul_comm]; exact hj)
      have hjj : j = j / sz * sz + j % sz := by rw [Nat.mul_comm]; exact (Nat.div_add_mod j sz).symm
      rw [hjj, flat_get hsz xs _ _ (Nat.mod_lt _ h0) hk] at hu
      have h2 := (hh _ hk).2
      rw [Addr.add_lit] at h2
      have h3 := (cells_get h2 rfl).2 _ _ hu
      rw [hjj, ← Nat.add_assoc]
      exact h3
    · obtain ⟨i, hi, rfl⟩ := List.getElem_of_mem hy
      exact (hh i hi).1
theorem open_sl {α : Type} {encd : α → List Value} {sz b0 : Nat} {t e : TypeId} {r : Reach} {v : Value} {d : DataW H} {ps : List MemPlace} {Good : α → Prop} (ht : P.underlying t = some (.slice e)) (hc : P.cellsOf e = sz) (h0 : 0 < sz) (hsz : ∀ x, (encd x).length = sz)
    (elem : ∀ n cs x, DataW.trod enc P w base spare held n e cs = some x → ∃ a : α, cs = encd a ∧ Good a)
    (hval : Value.okWide P w r b0 t v) (h : DataW.Trod enc P w base spare held t v d ps) : ∃ xs, Sl encd w v xs ∧ ∀ a ∈ xs, Good a := by
  obtain ⟨a, len, cap, rfl⟩ := okWide_slice ht hval
  obtain ⟨fuel, hf⟩ := h
  obtain ⟨v', xs, hv, hs, hg⟩ := open_sl_cs ht hc h0 hsz elem hf
  simp [Value.cells] at hv
  subst hv
  exact ⟨xs, hs, hg⟩
end
end Go.Proofs.Ytidmbjgnkodiiaa
