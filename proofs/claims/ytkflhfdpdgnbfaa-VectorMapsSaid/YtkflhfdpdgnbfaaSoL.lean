/- The library's stable sort, in plain words: what exchanges of ranges, rotations and merges make of a row. -/
import Derived.Test.YtkflhfdpdgnbfaaBase
import Derived.Shelf.SlSortCmp.KitK
import Derived.Sort.LotA
import Derived.Sort.LotD2
namespace Go.Proofs.Ytkflhfdpdgnbfaa
open Go.Sort
set_option linter.unusedVariables false
set_option linter.unusedSimpArgs false

theorem not_lt_of {β : Type} {lt : β → β → Bool} {x y : β} (hS : SWO lt) (h : lt x y = true) : lt y x = false := by
  cases h2 : lt y x with
  | false => rfl
  | true => have := hS.trans _ _ _ h h2; rw [hS.irrefl] at this; cases this
section
variable {α : Type} [Inhabited α]
def swapFrom (a b n : Nat) : Nat → Array α → Array α
  | i, d => if h : i < n then swapFrom a b n (i + 1) (swp d (a + i) (b + i)) else d
termination_by i => n - i
theorem swapFrom_size (a b n : Nat) : ∀ (i : Nat) (d : Array α), (swapFrom a b n i d).size = d.size := by
  intro i d
  fun_induction swapFrom a b n i d with
  | case1 i d h ih => rw [ih, size_swp]
  | case2 i d h => rfl
theorem swapFrom_perm (a b n lo hi : Nat) (h1 : lo ≤ a) (h2 : a + n ≤ hi) (h3 : lo ≤ b) (h4 : b + n ≤ hi) : ∀ (i : Nat) (d : Array α), hi ≤ d.size → PermIn lo hi d (swapFrom a b n i d) := by
  intro i d
  fun_induction swapFrom a b n i d with
  | case1 i d h ih => exact fun hs => permIn_trans _ _ _ _ _ (swp_permIn d lo hi (a + i) (b + i) (by omega) (by omega) (by omega) (by omega) hs) (ih (by rw [size_swp]; exact hs))
  | case2 i d h => exact fun _ => permIn_refl _ _ _
theorem swapFrom_at (a b n : Nat) (hd : a + n ≤ b ∨ b + n ≤ a) : ∀ (i : Nat) (d : Array α), a + n ≤ d.size → b + n ≤ d.size → ∀ x, (swapFrom a b n i d)[x]! = if a + i ≤ x ∧ x < a + n then d[b + (x - a)]! else if b + i ≤ x ∧ x < b + n then d[a + (x - b)]! else d[x]! := by
  intro i d
  fun_induction swapFrom a b n i d with
  | case1 i d h ih =>
    intro h1 h2 x
    rw [ih (by rw [size_swp]; exact h1) (by rw [size_swp]; exact h2) x]
    by_cases c1 : a + (i + 1) ≤ x ∧ x < a + n
    · rw [if_pos c1, if_pos (by omega), swp_other _ _ _ _ (by omega) (by omega)]
    · rw [if_neg c1]
      by_cases c2 : b + (i + 1) ≤ x ∧ x < b + n
      · rw [if_pos c2, if_neg (by omega), if_pos (by omega), swp_other _ _ _ _ (by omega) (by omega)]
      · rw [if_neg c2]
        by_cases c3 : x = a + i
        · subst c3
          rw [if_pos (by omega), swp_left _ _ _ (by omega) (by omega)]
          congr 1; omega
        · by_cases c4 : x = b + i
          · subst c4
            rw [if_neg (by omega), if_pos (by omega), swp_right _ _ _ (by omega)]
            congr 1; omega
          · rw [swp_other _ _ _ _ c3 c4, if_neg (by omega), if_neg (by omega)]
  | case2 i d h =>
    intro h1 h2 x
    rw [if_neg (by omega), if_neg (by omega)]

/-- The row, its part from lo to hi turned at m. -/
def rot (lo m hi : Nat) (d : Array α) (x : Nat) : α := if lo ≤ x ∧ x < lo + (hi - m) then d[x - lo + m]! else if lo + (hi - m) ≤ x ∧ x < hi then d[x - (hi - m)]! else d[x]!
theorem rot_more (m i j : Nat) (d : Array α) (hi : i ≤ m) (hij : j < i) (hj : 0 < j) (hs : m + j ≤ d.size) (x : Nat) :
    rot (m - i) m (m + j) d x = rot (m - (i - j)) m (m + j) (swapFrom (m - i) m j 0 d) x := by
  have hat := swapFrom_at (m - i) m j (.inl (by omega)) 0 d (by omega) (by omega)
  simp only [rot, hat]
  repeat' split
  all_goals first | (exfalso; omega) | rfl | (congr 1; omega)
theorem rot_less (m i j : Nat) (d : Array α) (hi : i ≤ m) (hij : i < j) (h0 : 0 < i) (hs : m + j ≤ d.size) (x : Nat) :
    rot (m - i) m (m + j) d x = rot (m - i) m (m + (j - i)) (swapFrom (m - i) (m + j - i) i 0 d) x := by
  have hat := swapFrom_at (m - i) (m + j - i) i (.inl (by omega)) 0 d (by omega) (by omega)
  simp only [rot, hat]
  repeat' split
  all_goals first | (exfalso; omega) | rfl | (congr 1; omega)
theorem rot_end (m i : Nat) (d : Array α) (hi : i ≤ m) (hs : m + i ≤ d.size) (x : Nat) :
    (swapFrom (m - i) m i 0 d)[x]! = rot (m - i) m (m + i) d x := by
  have hat := swapFrom_at (m - i) m i (.inl (by omega)) 0 d (by omega) (by omega)
  rw [hat]
  simp only [rot]
  repeat' split
  all_goals first | (exfalso; omega) | rfl | (congr 1; omega)

variable {lt : α → α → Bool}
/-- Two sorted parts, each of the first before each of the second. -/
theorem sorted_join {a m b : Nat} {d : Array α} (h1 : SortedIn lt a m d) (h2 : SortedIn lt m b d) (h3 : ∀ i j, a ≤ i → i < m → m ≤ j → j < b → lt d[j]! d[i]! = false) : SortedIn lt a b d := by
  intro i j hi hij hj
  by_cases c1 : j < m
  · exact h1 i j hi hij c1
  · by_cases c2 : m ≤ i
    · exact h2 i j c2 hij hj
    · exact h3 i j hi (by omega) (by omega) hj
/-- A sorted part's later one, and an equal place: never less. -/
theorem sorted_le {a b : Nat} {d : Array α} (hS : SWO lt) (h : SortedIn lt a b d) {i j : Nat} (hi : a ≤ i) (hij : i ≤ j) (hj : j < b) : lt d[j]! d[i]! = false := by
  rcases Nat.lt_or_ge i j with c | c
  · exact h i j hi c hj
  · obtain rfl : i = j := by omega
    exact hS.irrefl _
/-- What the merge's one turn brings about: of two sorted parts, parted at 'start' and 'end', turned in the middle. -/
theorem merge_turn {a m b s e : Nat} {d d1 : Array α} (hS : SWO lt) (ham : a ≤ s) (hsm : s ≤ m) (hme : m ≤ e) (heb : e ≤ b) (h1 : SortedIn lt a m d) (h2 : SortedIn lt m b d)
    (hlo : s = a ∨ e = b ∨ lt d[e]! d[s - 1]! = false) (hhi : s = m ∨ e = m ∨ lt d[e - 1]! d[s]! = true) (hr : ∀ x, d1[x]! = rot s m e d x) :
    (∀ x, a ≤ x → x < s → d1[x]! = d[x]!) ∧ (∀ x, e ≤ x → x < b → d1[x]! = d[x]!) ∧ (∀ x, s ≤ x → x < s + (e - m) → d1[x]! = d[x - s + m]!) ∧ (∀ x, s + (e - m) ≤ x → x < e → d1[x]! = d[x - (e - m)]!) ∧
    SortedIn lt a s d1 ∧ SortedIn lt s (s + (e - m)) d1 ∧ SortedIn lt (s + (e - m)) e d1 ∧ SortedIn lt e b d1 ∧
    (∀ i j, a ≤ i → i < s + (e - m) → s + (e - m) ≤ j → j < b → lt d1[j]! d1[i]! = false) := by
  have e1 : ∀ x, x < s → d1[x]! = d[x]! := fun x hx => by rw [hr, rot, if_neg (by omega), if_neg (by omega)]
  have e2 : ∀ x, e ≤ x → d1[x]! = d[x]! := fun x hx => by rw [hr, rot, if_neg (by omega), if_neg (by omega)]
  have e3 : ∀ x, s ≤ x → x < s + (e - m) → d1[x]! = d[x - s + m]! := fun x h h' => by rw [hr, rot, if_pos ⟨h, h'⟩]
  have e4 : ∀ x, s + (e - m) ≤ x → x < e → d1[x]! = d[x - (e - m)]! := fun x h h' => by rw [hr, rot, if_neg (by omega), if_pos ⟨h, h'⟩]
  refine ⟨fun x _ h => e1 x h, fun x h _ => e2 x h, e3, e4, ?_, ?_, ?_, ?_, ?_⟩
  · intro i j hi hij hj
    rw [e1 i (by omega), e1 j hj]
    exact h1 i j hi hij (by omega)
  · intro i j hi hij hj
    rw [e3 i (by omega) (by omega), e3 j (by omega) hj]
    exact h2 _ _ (by omega) (by omega) (by omega)
  · intro i j hi hij hj
    rw [e4 i (by omega) (by omega), e4 j (by omega) hj]
    exact h1 _ _ (by omega) (by omega) (by omega)
  · intro i j hi hij hj
    rw [e2 i (by omega), e2 j (by omega)]
    exact h2 _ _ (by omega) hij hj
  · intro i j hi hij hj1 hj2
    by_cases ci : i < s
    · rw [e1 i ci]
      by_cases cj : j < e
      · rw [e4 j hj1 cj]
        exact sorted_le hS h1 hi (by omega) (by omega)
      · rw [e2 j (by omega)]
        rcases hlo with h | h | h
        · omega
        · omega
        · have a1 : lt d[s - 1]! d[i]! = false := sorted_le hS h1 hi (by omega) (by omega)
          have a2 : lt d[j]! d[e]! = false := sorted_le hS h2 hme (by omega) hj2
          exact hS.ntrans _ _ _ a2 (hS.ntrans _ _ _ h a1)
    · rw [e3 i (by omega) hij]
      by_cases cj : j < e
      · rw [e4 j hj1 cj]
        rcases hhi with h | h | h
        · omega
        · omega
        · have a1 : lt d[e - 1]! d[i - s + m]! = false := sorted_le hS h2 (by omega) (by omega) (by omega)
          have a2 : lt d[j - (e - m)]! d[s]! = false := sorted_le hS h1 ham (by omega) (by omega)
          have a3 : lt d[s]! d[e - 1]! = false := not_lt_of hS h
          exact hS.ntrans _ _ _ a2 (hS.ntrans _ _ _ a3 a1)
      · rw [e2 j (by omega)]
        exact sorted_le hS h2 (by omega) (by omega) hj2
/-- Each half sorted behind the turn: the whole. -/
theorem merge_halves {a mid b : Nat} {d1 d2 d3 : Array α} (hb : b ≤ d1.size) (ham : a ≤ mid) (hmb : mid ≤ b) (hx : ∀ i j, a ≤ i → i < mid → mid ≤ j → j < b → lt d1[j]! d1[i]! = false)
    (p1 : PermIn a mid d1 d2) (s1 : SortedIn lt a mid d2) (p2 : PermIn mid b d2 d3) (s2 : SortedIn lt mid b d3) : PermIn a b d1 d3 ∧ SortedIn lt a b d3 := by
  have hsz2 : d2.size = d1.size := p1.1
  refine ⟨permIn_trans _ _ _ _ _ (permIn_mono _ _ a mid a b (Nat.le_refl _) hmb hb p1) (permIn_mono _ _ mid b a b ham (Nat.le_refl _) (by omega) p2), ?_⟩
  have q1 : ∀ i j, a ≤ i → i < mid → mid ≤ j → j < b → lt d2[j]! d2[i]! = false := by
    intro i j hi hi2 hj hj2
    rw [p1.2.1 j (.inr hj)]
    exact permIn_all d1 d2 a mid (fun z => lt d1[j]! z = false) (by omega) p1 (fun i h h' => hx i j h h' hj hj2) i hi hi2
  have q2 : ∀ i j, a ≤ i → i < mid → mid ≤ j → j < b → lt d3[j]! d3[i]! = false := by
    intro i j hi hi2 hj hj2
    rw [p2.2.1 i (.inl hi2)]
    exact permIn_all d2 d3 mid b (fun z => lt z d2[i]! = false) (by omega) p2 (fun j h h' => q1 i j hi hi2 h h') j hj hj2
  refine sorted_join (m := mid) ?_ s2 q2
  intro i j hi hij hj
  rw [p2.2.1 i (.inl (by omega)), p2.2.1 j (.inl hj)]
  exact s1 i j hi hij hj
end
end Go.Proofs.Ytkflhfdpdgnbfaa
