/- A node's pattern is read by chapter 4 as the node's tree, plain. What is read of a text as a glob's node can be written down; how long it is, plain. Chapter 4's nodes in memory; steps of walks at whole nodes; the reader. Chapter 4's reader in the small language: among, more, fail, escaped, item. (Several texts in one file, by merge.py.) -/
import Derived.Test.YtnnfhcbopchodaaDoorZN12
import Derived.Test.YtnnfhcbopchodaaDoorZN11
import Derived.Test.YtnnfhcbopchodaaDoorZN4
namespace Go.Proofs.YtnnfhcbopchodaaDoor
open Go Go.RowKit
set_option linter.unusedVariables false
set_option linter.unusedSimpArgs false
theorem isG_ne {c k : UInt8} (h : isG c = true) (hk : isG k = false) : c ≠ k := by rintro rfl; rw [h] at hk; cases hk
/-- What a list begins with is no suffix. -/
def HdOk (l : List UInt8) : Prop := ∀ c, l.head? = some c → c ≠ 42 ∧ c ≠ 43 ∧ c ≠ 63
theorem suf_id {l : List UInt8} (h : HdOk l) (a : RT) : sufL a l = (a, l) := by
  unfold sufL
  rw [if_neg (fun e => (h _ e).1 rfl), if_neg (fun e => (h _ e).2.1 rfl), if_neg (fun e => (h _ e).2.2 rfl)]
theorem hd_cons {c : UInt8} (h : c ≠ 42 ∧ c ≠ 43 ∧ c ≠ 63) (r : List UInt8) : HdOk (c :: r) := fun d e => by
  injection e with e
  rw [← e]; exact h
theorem hd_nil : HdOk [] := fun d e => by cases e
theorem hd_isG {c : UInt8} (h : isG c = true) (r : List UInt8) : HdOk (c :: r) := hd_cons ⟨isG_ne h (by decide), isG_ne h (by decide), isG_ne h (by decide)⟩ r
theorem atom_byte {c : UInt8} (h : isG c = true) (f d : Nat) (r : List UInt8) : atomL (f + 1) d (c :: r) = some (byteT c, r) := by
  unfold atomL
  simp only
  rw [if_neg (isG_ne h (by decide)), if_neg (isG_ne h (by decide)), if_neg (isG_ne h (by decide)), if_neg (isG_ne h (by decide))]
  rfl
theorem atom_paren (f d : Nat) (r : List UInt8) : atomL (f + 1) d (40 :: r) = if d = 40 then none else match altsL f (d + 1) r with
    | none => none
    | some (t, l1) => if l1.head? = some 41 then some (t, l1.drop 1) else none := by unfold atomL; rfl
theorem atom_class (f d : Nat) (r : List UInt8) : atomL (f + 1) d (91 :: r) = (classL r).map fun p => (.node 3 [] p.1, p.2) := by unfold atomL; rfl
theorem piece_step {c : UInt8} {r l1 : List UInt8} {f d : Nat} {a : RT} (acc : List RT) (h1 : c ≠ 124) (h2 : c ≠ 41) (h3 : c ≠ 42 ∧ c ≠ 43 ∧ c ≠ 63) (h4 : c ≠ 93) (ha : atomL f d (c :: r) = some (a, l1)) :
    piecesL (f + 1) d acc (c :: r) = piecesL f d (acc ++ [(sufL a l1).1]) (sufL a l1).2 := by
  rw [piecesL]
  rw [if_neg (by rintro (h | h); exact h1 h; exact h2 h), if_neg (by rintro (h | h | h | h); exact h3.1 h; exact h3.2.1 h; exact h3.2.2 h; exact h4 h), ha]
theorem word_read : ∀ (w : List UInt8) (f d : Nat) (acc : List RT) (c : UInt8) (rest : List UInt8), (∀ x ∈ w, isG x = true) → (c = 124 ∨ c = 41) → w.length + 1 ≤ f → piecesL f d acc (w ++ c :: rest) = some (.node 1 (acc ++ w.map byteT) noS, c :: rest)
  | [], f, d, acc, c, rest, hw, hc, hf => by
    obtain ⟨f, rfl⟩ : ∃ g, f = g + 1 := ⟨f - 1, by simp at hf; omega⟩
    rw [List.nil_append, piecesL]
    rw [if_pos hc, List.map_nil, List.append_nil]
  | a :: r, f, d, acc, c, rest, hw, hc, hf => by
    rw [List.length_cons] at hf
    obtain ⟨f, rfl⟩ : ∃ g, f = g + 1 + 1 := ⟨f - 2, by omega⟩
    have ha := hw a (by simp)
    have hhd : HdOk (r ++ c :: rest) := by
      cases r with
      | nil =>
        refine hd_cons ?_ _
        rcases hc with rfl | rfl <;> decide
      | cons b r => exact hd_isG (hw b (by simp)) _
    rw [List.cons_append, piece_step acc (isG_ne ha (by decide)) (isG_ne ha (by decide)) ⟨isG_ne ha (by decide), isG_ne ha (by decide), isG_ne ha (by decide)⟩ (isG_ne ha (by decide)) (atom_byte ha f d _), suf_id hhd]
    rw [word_read r (f + 1) d (acc ++ [byteT a]) c rest (fun x hx => hw x (by simp [hx])) hc (by omega)]
    simp
theorem more_read : ∀ (ws : List (List UInt8)) (f d : Nat) (acc : List RT) (rest : List UInt8), (∀ w ∈ ws, ∀ x ∈ w, isG x = true) → (Lib.joinTail [124] ws).length + 2 ≤ f → moreL f d acc (Lib.joinTail [124] ws ++ 41 :: rest) = some (.node 2 (acc ++ ws.map wordT) noS, 41 :: rest)
  | [], f, d, acc, rest, hw, hf => by
    obtain ⟨f, rfl⟩ : ∃ g, f = g + 1 := ⟨f - 1, by omega⟩
    rw [moreL]
    simp [Lib.joinTail]
  | w :: ws, f, d, acc, rest, hw, hf => by
    have e : Lib.joinTail [124] (w :: ws) = 124 :: (w ++ Lib.joinTail [124] ws) := by simp [Lib.joinTail]
    rw [e, List.length_cons, List.length_append] at hf
    obtain ⟨f, rfl⟩ : ∃ g, f = g + 1 := ⟨f - 1, by omega⟩
    rw [e, moreL]
    simp only [List.cons_append, List.head?_cons, if_true, List.drop_succ_cons, List.drop_zero]
    have hp : piecesL f d [] (w ++ Lib.joinTail [124] ws ++ 41 :: rest) = some (wordT w, Lib.joinTail [124] ws ++ 41 :: rest) := by
      cases ws with
      | nil =>
        have e0 : Lib.joinTail [124] [] = [] := rfl
        rw [e0, List.append_nil, List.nil_append]
        exact word_read w f d [] 41 rest (hw w (by simp)) (.inr rfl) (by omega)
      | cons v ws =>
        have e2 : Lib.joinTail [124] (v :: ws) = 124 :: (v ++ Lib.joinTail [124] ws) := by simp [Lib.joinTail]
        rw [e2, List.append_assoc, List.cons_append]
        exact word_read w f d [] 124 _ (hw w (by simp)) (.inl rfl) (by omega)
    rw [hp]
    simp only
    rw [more_read ws f d (acc ++ [wordT w]) rest (fun v hv => hw v (by simp [hv])) (by omega)]
    simp
theorem alts_read {w : List UInt8} {ws : List (List UInt8)} {f d : Nat} (rest : List UInt8) (hw : ∀ v ∈ w :: ws, ∀ x ∈ v, isG x = true) (hf : (Lib.join (w :: ws) [124]).length + 3 ≤ f) : altsL f d (Lib.join (w :: ws) [124] ++ 41 :: rest) = some (.node 2 ((w :: ws).map wordT) noS, 41 :: rest) := by
  rw [Lib.join_cons] at hf ⊢
  rw [List.length_append] at hf
  obtain ⟨f, rfl⟩ : ∃ g, f = g + 1 := ⟨f - 1, by omega⟩
  rw [altsL]
  have hp : piecesL f d [] (w ++ Lib.joinTail [124] ws ++ 41 :: rest) = some (wordT w, Lib.joinTail [124] ws ++ 41 :: rest) := by
    cases ws with
    | nil =>
      have e0 : Lib.joinTail [124] [] = [] := rfl
      rw [e0, List.append_nil, List.nil_append]
      exact word_read w f d [] 41 rest (hw w (by simp)) (.inr rfl) (by omega)
    | cons v ws =>
      have e2 : Lib.joinTail [124] (v :: ws) = 124 :: (v ++ Lib.joinTail [124] ws) := by simp [Lib.joinTail]
      rw [e2, List.append_assoc, List.cons_append]
      exact word_read w f d [] 124 _ (hw w (by simp)) (.inl rfl) (by omega)
  rw [hp]
  simp only
  rw [more_read ws f d [wordT w] rest (fun v hv => hw v (by simp [hv])) (by omega)]
  rfl
/-- The bytes of a class, some of them. -/
def memS (ks : List Nat) (g S : UInt8 → Bool) : UInt8 → Bool := fun y => S y || ks.any fun i => g (UInt8.ofNat i) && y == UInt8.ofNat i
theorem fill_one (S : UInt8 → Bool) (a : UInt8) : fillS S a a = fun y => S y || y == a := by
  funext y
  unfold fillS
  congr 1
  rw [Bool.eq_iff_iff, Bool.and_eq_true, decide_eq_true_eq, decide_eq_true_eq, beq_iff_eq]
  constructor
  · rintro ⟨h1, h2⟩; exact UInt8.le_antisymm h2 h1
  · rintro rfl; exact ⟨UInt8.le_refl _, UInt8.le_refl _⟩
theorem cls_item {c : UInt8} (h : isG c = true) (l : List UInt8) : itemL ((if c = 45 then [92] else []) ++ c :: l) = some (c, l) := by
  by_cases h45 : c = 45
  · subst h45
    rfl
  · rw [if_neg h45, List.nil_append]
    unfold itemL
    simp only
    rw [if_neg (isG_ne h (by decide)), if_neg]
    rintro (h2 | h2 | h2)
    · exact isG_ne h (by decide) h2
    · exact h45 h2
    · exact isG_ne h (by decide) h2
theorem classC_of {g : UInt8 → Bool} {i : Nat} (h : g (UInt8.ofNat i) = true) (hi : i < 256) : classC g i = (if UInt8.ofNat i = 45 then [92] else []) ++ [UInt8.ofNat i] := by
  unfold classC
  rw [if_pos h]
  congr 1
  by_cases h2 : i = 45
  · subst h2; rfl
  · rw [if_neg h2, if_neg]
    intro e
    have := congrArg UInt8.toNat e
    rw [UInt8.toNat_ofNat', Nat.mod_eq_of_lt hi] at this
    exact h2 this
theorem cls_head (g : UInt8 → Bool) (hg : ∀ y, g y = true → isG y = true) (rest : List UInt8) : ∀ ks : List Nat, (∀ i ∈ ks, i < 256) → ∀ c, (ks.flatMap (classC g) ++ 93 :: rest).head? = some c → c ≠ 45 ∧ c ≠ 94 ∧ (c = 93 → ∀ i ∈ ks, g (UInt8.ofNat i) = false)
  | [], hk, c, h => by
    have h : some (93 : UInt8) = some c := h
    injection h with h
    subst h
    exact ⟨by decide, by decide, fun _ i hi => by cases hi⟩
  | i :: ks, hk, c, h => by
    rw [List.flatMap_cons, List.append_assoc] at h
    by_cases hi : g (UInt8.ofNat i) = true
    · rw [classC_of hi (hk i (by simp))] at h
      have hc := hg _ hi
      by_cases h45 : UInt8.ofNat i = 45
      · rw [if_pos h45] at h
        have h : some (92 : UInt8) = some c := h
        injection h with h
        subst h
        exact ⟨by decide, by decide, fun e => by cases e⟩
      · rw [if_neg h45] at h
        have h : some (UInt8.ofNat i) = some c := h
        injection h with h
        rw [← h]
        exact ⟨h45, isG_ne hc (by decide), fun e => absurd e (isG_ne hc (by decide))⟩
    · have e : classC g i = [] := by unfold classC; rw [if_neg hi]
      rw [e, List.nil_append] at h
      obtain ⟨h1, h2, h3⟩ := cls_head g hg rest ks (fun j hj => hk j (by simp [hj])) c h
      refine ⟨h1, h2, fun e j hj => ?_⟩
      rcases List.mem_cons.1 hj with rfl | hj
      · simpa using hi
      · exact h3 e j hj
theorem cls_read (g : UInt8 → Bool) (hg : ∀ y, g y = true → isG y = true) (rest : List UInt8) : ∀ (ks : List Nat), (∀ i ∈ ks, i < 256) → ∀ (f : Nat) (first : Bool) (S : UInt8 → Bool), (first = false ∨ ∃ i ∈ ks, g (UInt8.ofNat i) = true) → (ks.flatMap (classC g)).length + 1 ≤ f →
    clsL f first S (ks.flatMap (classC g) ++ 93 :: rest) = some (memS ks g S, rest)
  | [], hk, f, first, S, h1, hf => by
    obtain ⟨f, rfl⟩ : ∃ k, f = k + 1 := ⟨f - 1, by omega⟩
    have h1 : first = false := by
      rcases h1 with h | ⟨i, hi, -⟩
      · exact h
      · cases hi
    subst h1
    have e : memS [] g S = S := by funext y; simp [memS]
    rw [clsL, if_pos ⟨rfl, rfl⟩, e]
    rfl
  | i :: ks, hk, f, first, S, h1, hf => by
    by_cases hi : g (UInt8.ofNat i) = true
    · obtain ⟨c, hc⟩ : ∃ c, UInt8.ofNat i = c := ⟨_, rfl⟩
      have e := classC_of hi (hk i (by simp))
      rw [hc] at e
      have hm : memS (i :: ks) g S = memS ks g (fillS S c c) := by
        rw [fill_one]
        funext y
        unfold memS
        rw [List.any_cons, hi, hc, Bool.true_and, Bool.or_assoc]
      rw [hc] at hi
      have hcG := hg _ hi
      rw [List.flatMap_cons, e, List.length_append, List.length_append] at hf
      simp only [List.length_singleton] at hf
      obtain ⟨f, rfl⟩ : ∃ k, f = k + 1 := ⟨f - 1, by omega⟩
      have ih := cls_read g hg rest ks (fun j hj => hk j (by simp [hj])) f false (fillS S c c) (.inl rfl) (by omega)
      have hit := cls_item hcG (ks.flatMap (classC g) ++ 93 :: rest)
      have hh := cls_head g hg rest ks (fun j hj => hk j (by simp [hj]))
      rw [List.flatMap_cons, e, hm]
      have el : (if c = 45 then [92] else []) ++ [c] ++ ks.flatMap (classC g) ++ 93 :: rest = (if c = 45 then [92] else []) ++ c :: (ks.flatMap (classC g) ++ 93 :: rest) := by simp
      rw [el, clsL, if_neg, hit]
      · simp only
        rw [if_neg (fun e => (hh 45 e).1 rfl)]
        exact ih
      · rintro ⟨-, h⟩
        by_cases h45 : c = 45
        · rw [if_pos h45] at h
          cases h
        · rw [if_neg h45] at h
          have h : some c = some 93 := h
          injection h with h
          exact isG_ne hcG (by decide) h
    · have hi2 : g (UInt8.ofNat i) = false := by simpa using hi
      have e : classC g i = [] := by unfold classC; rw [if_neg hi]
      have hm : memS (i :: ks) g S = memS ks g S := by
        funext y
        unfold memS
        rw [List.any_cons, hi2, Bool.false_and, Bool.false_or]
      rw [List.flatMap_cons, e, List.nil_append] at hf
      rw [List.flatMap_cons, e, List.nil_append, hm]
      refine cls_read g hg rest ks (fun j hj => hk j (by simp [hj])) f first S ?_ hf
      rcases h1 with h | ⟨j, hj, h⟩
      · exact .inl h
      · rcases List.mem_cons.1 hj with rfl | hj
        · exact absurd h hi
        · exact .inr ⟨j, hj, h⟩
theorem mem_all (g : UInt8 → Bool) : memS (List.range 256) g noS = g := by
  funext y
  unfold memS noS
  rw [Bool.false_or, Bool.eq_iff_iff, List.any_eq_true]
  constructor
  · rintro ⟨i, -, h⟩
    rw [Bool.and_eq_true, beq_iff_eq] at h
    rw [h.2]; exact h.1
  · intro h
    refine ⟨y.toNat, by rw [List.mem_range]; exact y.toNat_lt, ?_⟩
    simp [h]
theorem class_read (g : UInt8 → Bool) (hg : ∀ y, g y = true → isG y = true) (hne : ∃ y, g y = true) (rest : List UInt8) : classL (classB g 256 ++ 93 :: rest) = some (g, rest) := by
  have hk : ∀ i ∈ List.range 256, i < 256 := fun i hi => List.mem_range.1 hi
  have hh := cls_head g hg rest (List.range 256) hk
  unfold classL
  unfold classB
  rw [if_neg (fun e => (hh 94 e).2.1 rfl), cls_read g hg rest (List.range 256) hk _ true noS (.inr ?_) (by rw [List.length_append]; omega), mem_all]
  obtain ⟨y, hy⟩ := hne
  exact ⟨y.toNat, by rw [List.mem_range]; exact y.toNat_lt, by simpa using hy⟩
/-- A piece that can be written down. -/
structure PcW (p : Pc) : Prop where
  kind : p.kind ≤ 4
  text : p.kind = 0 → isG p.text = true
  set : p.kind = 1 → (∀ y, p.set y = true → isG y = true) ∧ ∃ y, p.set y = true
  words : p.kind = 4 → p.words ≠ [] ∧ ∀ w ∈ p.words, ∀ c ∈ w, isG c = true
theorem patP_ne {p : Pc} (h : PcW p) : ∃ c r, patP p = c :: r ∧ c ≠ 124 ∧ c ≠ 41 ∧ (c ≠ 42 ∧ c ≠ 43 ∧ c ≠ 63) ∧ c ≠ 93 := by
  unfold patP
  split
  · rename_i h0
    have := h.text h0
    exact ⟨_, _, rfl, isG_ne this (by decide), isG_ne this (by decide), ⟨isG_ne this (by decide), isG_ne this (by decide), isG_ne this (by decide)⟩, isG_ne this (by decide)⟩
  split
  · exact ⟨_, _, rfl, by decide, by decide, by decide, by decide⟩
  split
  · exact ⟨_, _, rfl, by decide, by decide, by decide, by decide⟩
  split
  · exact ⟨_, _, rfl, by decide, by decide, by decide, by decide⟩
  · exact ⟨_, _, rfl, by decide, by decide, by decide, by decide⟩
theorem patN_hd {ps : List Pc} (h : ∀ p ∈ ps, PcW p) : HdOk (patN ps) := by
  cases ps with
  | nil => exact hd_nil
  | cons p r =>
    obtain ⟨c, t, e, h1, h2, h3, h4⟩ := patP_ne (h p (by simp))
    unfold patN
    rw [List.flatMap_cons, e, List.cons_append]
    exact hd_cons h3 _
/-- A piece's pattern is read as the piece's tree. -/
theorem piece_read {p : Pc} (h : PcW p) {rest : List UInt8} (hr : HdOk rest) (f : Nat) (hf : (patP p).length + 2 ≤ f) (acc : List RT) : piecesL (f + 1) 0 acc (patP p ++ rest) = piecesL f 0 (acc ++ [treeP p]) rest := by
  obtain ⟨f, rfl⟩ : ∃ g, f = g + 1 := ⟨f - 1, by omega⟩
  unfold patP at hf ⊢
  unfold treeP
  by_cases h0 : p.kind = 0
  · have hg := h.text h0
    simp only [if_pos h0]
    rw [List.singleton_append, piece_step acc (isG_ne hg (by decide)) (isG_ne hg (by decide)) ⟨isG_ne hg (by decide), isG_ne hg (by decide), isG_ne hg (by decide)⟩ (isG_ne hg (by decide)) (atom_byte hg f 0 _), suf_id hr]
  simp only [if_neg h0] at hf ⊢
  by_cases h2 : p.kind = 2
  · simp only [if_pos h2]
    have ha : atomL (f + 1) 0 (46 :: rest) = some (allT, rest) := by unfold atomL; rfl
    rw [List.singleton_append, piece_step acc (by decide) (by decide) (by decide) (by decide) ha, suf_id hr]
  simp only [if_neg h2] at hf ⊢
  by_cases h3 : p.kind = 3
  · simp only [if_pos h3]
    have ha : atomL (f + 1) 0 (46 :: 42 :: rest) = some (allT, 42 :: rest) := by unfold atomL; rfl
    rw [List.cons_append, List.singleton_append, piece_step acc (by decide) (by decide) (by decide) (by decide) ha]
    rfl
  simp only [if_neg h3] at hf ⊢
  by_cases h4 : p.kind = 4
  · simp only [if_pos h4] at hf ⊢
    obtain ⟨hne, hw⟩ := h.words h4
    cases hws : p.words with
    | nil => exact absurd hws hne
    | cons w ws =>
      rw [hws] at hw hf
      rw [List.length_cons, List.length_append, List.length_singleton] at hf
      have hal := alts_read (f := f) (d := 1) rest hw (by omega)
      have ha : atomL (f + 1) 0 (40 :: (Lib.join (w :: ws) [124] ++ 41 :: rest)) = some (.node 2 ((w :: ws).map wordT) noS, rest) := by
        rw [atom_paren, if_neg (by decide), hal]
        rfl
      have el : 40 :: (Lib.join (w :: ws) [124] ++ [41]) ++ rest = 40 :: (Lib.join (w :: ws) [124] ++ 41 :: rest) := by simp
      rw [el, piece_step acc (by decide) (by decide) (by decide) (by decide) ha, suf_id hr]
  simp only [if_neg h4] at hf ⊢
  have h1 : p.kind = 1 := by have := h.kind; omega
  obtain ⟨hg, hne⟩ := h.set h1
  have ha : atomL (f + 1) 0 (91 :: (classB p.set 256 ++ 93 :: rest)) = some (.node 3 [] p.set, rest) := by
    rw [atom_class, class_read p.set hg hne]
    rfl
  have el : 91 :: (classB p.set 256 ++ [93]) ++ rest = 91 :: (classB p.set 256 ++ 93 :: rest) := by simp
  rw [el, piece_step acc (by decide) (by decide) (by decide) (by decide) ha, suf_id hr]
theorem pieces_read : ∀ (ps : List Pc), (∀ p ∈ ps, PcW p) → ∀ (f : Nat) (acc : List RT), (patN ps).length + 3 ≤ f → piecesL f 0 acc (patN ps) = some (.node 1 (acc ++ ps.map treeP) noS, [])
  | [], h, f, acc, hf => by
    obtain ⟨f, rfl⟩ : ∃ g, f = g + 1 := ⟨f - 1, by omega⟩
    show piecesL (f + 1) 0 acc [] = _
    rw [piecesL, List.map_nil, List.append_nil]
  | p :: ps, h, f, acc, hf => by
    obtain ⟨f, rfl⟩ : ∃ g, f = g + 1 := ⟨f - 1, by omega⟩
    have hp := h p (by simp)
    obtain ⟨c, r, e, -⟩ := patP_ne hp
    have hl : 0 < (patP p).length := by rw [e]; exact Nat.succ_pos _
    have el : patN (p :: ps) = patP p ++ patN ps := by unfold patN; rw [List.flatMap_cons]
    rw [el, List.length_append] at hf
    rw [el, piece_read hp (patN_hd (fun q hq => h q (by simp [hq]))) f (by omega) acc, pieces_read ps (fun q hq => h q (by simp [hq])) f _ (by omega), List.map_cons, List.append_assoc, List.singleton_append]
/-- A node's pattern is a pattern of chapter 4, and is read as the node's tree. -/
theorem comp_read {ps : List Pc} (h : ∀ p ∈ ps, PcW p) (hne : ps ≠ []) : compR (patN ps) = some (treeN ps) := by
  unfold compR
  have hl : 0 < (patN ps).length := by
    cases ps with
    | nil => exact absurd rfl hne
    | cons p r =>
      obtain ⟨c, t, e, -⟩ := patP_ne (h p (by simp))
      unfold patN
      rw [List.flatMap_cons, e]
      simp
  have hp : piecesL (3 * (patN ps).length + 4) 0 [] (patN ps) = some (.node 1 ([] ++ ps.map treeP) noS, []) := pieces_read ps h _ [] (by omega)
  rw [show 3 * (patN ps).length + 5 = (3 * (patN ps).length + 4) + 1 by rfl, altsL, hp]
  simp only
  rw [show 3 * (patN ps).length + 4 = (3 * (patN ps).length + 3) + 1 by rfl, moreL]
  simp [treeN]
end Go.Proofs.YtnnfhcbopchodaaDoor
namespace Go.Proofs.YtnnfhcbopchodaaDoor
open Go Go.RowKit
set_option linter.unusedVariables false
set_option linter.unusedSimpArgs false
def wlen : List (List UInt8) → Nat
  | [] => 0
  | w :: r => w.length + 1 + wlen r
theorem wlen_app : ∀ (l r : List (List UInt8)), wlen (l ++ r) = wlen l + wlen r
  | [], r => by rw [List.nil_append, wlen, Nat.zero_add]
  | w :: l, r => by rw [List.cons_append, wlen, wlen, wlen_app l r]; omega
theorem join_wlen {ws : List (List UInt8)} (h : ws ≠ []) : (Lib.join ws [124]).length + 1 = wlen ws := by
  cases ws with
  | nil => exact absurd rfl h
  | cons w r =>
    rw [Lib.join_cons, List.length_append, wlen]
    have : ∀ r : List (List UInt8), (Lib.joinTail [124] r).length = wlen r := by
      intro r
      induction r with
      | nil => rfl
      | cons a r ih =>
        have e2 : Lib.joinTail [124] (a :: r) = 124 :: (a ++ Lib.joinTail [124] r) := by simp [Lib.joinTail]
        rw [e2, List.length_cons, List.length_append, ih, wlen]
        omega
    rw [this]
    omega
theorem words_cost : ∀ ws : List (List UInt8), costsT (ws.map wordT) ≤ 4 * wlen ws
  | [] => by rw [List.map_nil, costsT]; omega
  | w :: r => by
    rw [List.map_cons, costsT, wlen]
    have h1 := cost_word w
    have h2 := words_cost r
    omega
theorem braces_w (s : List UInt8) : ∀ (f fr a : Nat) (ws r : List (List UInt8)) (a' : Nat), bracesG s f fr a ws = .ok (r, a') → fr ≤ a → a ≤ s.length → (∀ w ∈ ws, ∀ c ∈ w, isG c = true) → (∀ k, fr ≤ k → k < a → ∀ c, s[k]? = some c → isG c = true) →
    r ≠ [] ∧ (∀ w ∈ r, ∀ c ∈ w, isG c = true) ∧ wlen r + fr = wlen ws + a'
  | 0, _, _, _, _, _, h, _, _, _, _ => by cases h
  | f + 1, fr, a, ws, r, a', h, hfa, has, hw, hk => by
    have hword : ∀ c ∈ (s.take a).drop fr, isG c = true := by
      intro c hc
      obtain ⟨i, hi, rfl⟩ := List.mem_iff_getElem.1 hc
      rw [List.length_drop, List.length_take] at hi
      rw [List.getElem_drop, List.getElem_take]
      exact hk (fr + i) (by omega) (by omega) _ (List.getElem?_eq_getElem (by omega))
    have hws : ∀ w ∈ ws ++ [(s.take a).drop fr], ∀ c ∈ w, isG c = true := by
      intro w hm
      rcases List.mem_append.1 hm with hm | hm
      · exact hw w hm
      · rw [List.mem_singleton.1 hm]; exact hword
    have hl : wlen (ws ++ [(s.take a).drop fr]) + fr = wlen ws + (a + 1) := by
      rw [wlen_app, wlen, wlen, List.length_drop, List.length_take]
      omega
    unfold bracesG at h
    cases hc : s[a]? with
    | none => rw [hc] at h; cases h
    | some c =>
      have hlt := get_lt hc
      rw [hc] at h
      simp only at h
      split at h
      · injection h with h
        injection h with h1 h2
        subst h1
        subst h2
        exact ⟨by simp, hws, hl⟩
      · split at h
        · obtain ⟨h1, h2, h3⟩ := braces_w s f (a + 1) (a + 1) _ r a' h (Nat.le_refl _) (by omega) hws (fun k h1 h2 => by omega)
          exact ⟨h1, h2, by omega⟩
        · split at h
          · rename_i hg
            exact braces_w s f fr (a + 1) ws r a' h (by omega) (by omega) hw (fun k h1 h2 d hd => by
              rcases Nat.lt_or_ge k a with h3 | h3
              · exact hk k h1 h3 d hd
              · have : k = a := by omega
                subst this
                rw [hc] at hd
                injection hd with hd
                subst hd
                exact hg)
          · cases h
theorem classC_mono {g h : UInt8 → Bool} (hgh : ∀ y, g y = true → h y = true) (i : Nat) : (classC g i).length ≤ (classC h i).length := by
  unfold classC
  by_cases hi : g (UInt8.ofNat i) = true
  · rw [if_pos hi, if_pos (hgh _ hi)]; exact Nat.le_refl _
  · rw [if_neg hi]; exact Nat.zero_le _
theorem classB_mono {g h : UInt8 → Bool} (hgh : ∀ y, g y = true → h y = true) : ∀ k, (classB g k).length ≤ (classB h k).length
  | 0 => by simp [classB]
  | k + 1 => by
    rw [classB_succ, classB_succ, List.length_append, List.length_append]
    have := classB_mono hgh k
    have := classC_mono hgh k
    omega
theorem classB_all : (classB isG 256).length = 65 := by decide +kernel
theorem classB_65 {g : UInt8 → Bool} (hg : ∀ y, g y = true → isG y = true) : (classB g 256).length ≤ 65 := by
  rw [← classB_all]; exact classB_mono hg 256
theorem classB_one (g : UInt8 → Bool) (c : UInt8) : ∀ k, k ≤ 256 → (classB (rangeS g c c) k).length ≤ (classB g k).length + (if c.toNat < k then 2 else 0)
  | 0, hk => by simp [classB]
  | k + 1, hk => by
    rw [classB_succ, classB_succ, List.length_append, List.length_append]
    have h1 := classB_one g c k (by omega)
    by_cases h : c.toNat = k
    · have h2 := classC_len (rangeS g c c) k
      rw [if_neg (by omega)] at h1
      rw [if_pos (by omega)]
      omega
    · have h2 : classC (rangeS g c c) k = classC g k := by
        have e : rangeS g c c (UInt8.ofNat k) = g (UInt8.ofNat k) := by
          unfold rangeS
          rw [if_neg]
          rintro ⟨h3, h4⟩
          have h5 := congrArg UInt8.toNat (UInt8.le_antisymm h3 h4)
          rw [UInt8.toNat_ofNat', Nat.mod_eq_of_lt (by omega)] at h5
          exact h h5
        unfold classC
        rw [e]
      rw [h2]
      by_cases h3 : c.toNat < k
      · rw [if_pos h3] at h1; rw [if_pos (by omega)]; omega
      · rw [if_neg h3] at h1; rw [if_neg (by omega)]; omega
theorem range_isG {g : UInt8 → Bool} {lo hi : UInt8} (hg : ∀ y, g y = true → isG y = true) : ∀ y, rangeS g lo hi y = true → isG y = true := by
  intro y h
  unfold rangeS at h
  split at h
  · exact h
  · exact hg y h
theorem class_w (s : List UInt8) : ∀ (f a : Nat) (first : Bool) (S S' : UInt8 → Bool) (a' : Nat), classG s f a first S = .ok (S', a') → (∀ y, S y = true → isG y = true) → (first = false → ∃ y, S y = true) →
    (∀ y, S' y = true → isG y = true) ∧ (∃ y, S' y = true) ∧ (classB S' 256).length + 22 * (a + 1) ≤ (classB S 256).length + 22 * a'
  | 0, _, _, _, _, _, h, _, _ => by cases h
  | f + 1, a, first, S, S', a', h, hS, hf => by
    unfold classG at h
    cases hc : s[a]? with
    | none => rw [hc] at h; cases h
    | some c =>
      rw [hc] at h
      simp only at h
      split at h
      · rename_i hx
        injection h with h
        injection h with h1 h2
        subst h1
        subst h2
        exact ⟨hS, hf hx.2, Nat.le_refl _⟩
      · split at h
        · cases h
        · rename_i hx
          have hgc : isG c = true := by
            cases hb : isG c with
            | true => rfl
            | false => exact absurd (.inl hb) hx
          have hone : ∀ hi : UInt8, c ≤ hi → ∃ y, rangeS S c hi y = true := fun hi hle => ⟨c, by unfold rangeS; rw [if_pos ⟨UInt8.le_refl _, hle⟩]; exact hgc⟩
          have h1 := classB_one S c 256 (Nat.le_refl _)
          rw [if_pos c.toNat_lt] at h1
          split at h
          · cases h2 : s[a + 2]? with
            | none => rw [h2] at h; cases h
            | some p =>
              rw [h2] at h
              simp only at h
              split at h
              · obtain ⟨k1, k2, k3⟩ := class_w s f (a + 1) false _ S' a' h (range_isG hS) (fun _ => hone c (UInt8.le_refl _))
                exact ⟨k1, k2, by omega⟩
              · split at h
                · cases h
                · rename_i hlt
                  have hle : c ≤ p := by
                    rcases UInt8.le_total c p with h3 | h3
                    · exact h3
                    · by_cases h4 : p = c
                      · rw [h4]; exact UInt8.le_refl _
                      · exact absurd (.inr (UInt8.lt_of_le_of_ne h3 h4)) hlt
                  obtain ⟨k1, k2, k3⟩ := class_w s f (a + 3) false _ S' a' h (range_isG hS) (fun _ => hone p hle)
                  have h65 := classB_65 (range_isG hS (lo := c) (hi := p))
                  exact ⟨k1, k2, by omega⟩
          · obtain ⟨k1, k2, k3⟩ := class_w s f (a + 1) false _ S' a' h (range_isG hS) (fun _ => hone c (UInt8.le_refl _))
            exact ⟨k1, k2, by omega⟩
theorem noset_len : (classB (fun _ => false) 256).length = 0 := by decide +kernel
theorem isG_128 {c : UInt8} (h : isG c = true) : c < 128 := by
  have : ∀ i : Fin 256, isG (UInt8.ofNat i.val) = true → UInt8.ofNat i.val < 128 := by decide +kernel
  have h2 := this ⟨c.toNat, c.toNat_lt⟩
  simp only [UInt8.ofNat_toNat] at h2
  exact h2 h
theorem cost_set (S : UInt8 → Bool) : costT (.node 3 [] S) = 2 := by rw [costT, costsT]
/-- A piece that is read. -/
theorem piece_w {s : List UInt8} {a a' : Nat} {c : UInt8} {p : Pc} (hs : s.length ≤ 4096) (hc : s[a]? = some c) (h : pieceG s a c = .ok (p, a')) : PcW p ∧ PcOk p ∧ (patP p).length ≤ 20 * (a' - a) ∧ costT (treeP p) ≤ 20 * (a' - a) := by
  have hadv := piece_adv hc h
  unfold pieceG at h
  split at h
  · injection h with h
    injection h with h1 h2
    subst h1
    subst h2
    refine ⟨⟨by decide, fun e => (by cases e), fun e => (by cases e), fun e => (by cases e)⟩, ⟨fun e => (by cases e), by show (Lib.join [] [124]).length ≤ _; rw [Lib.join_nil]; exact Nat.zero_le _⟩, ?_, ?_⟩
    · have : (patP manyP).length = 2 := by decide
      omega
    · have : costT (treeP manyP) = 6 := by
        show costT (.node 4 [allT] noS) = 6
        rw [costT, costsT, costsT]
        unfold allT
        rw [cost_set]
      omega
  split at h
  · injection h with h
    injection h with h1 h2
    subst h1
    subst h2
    refine ⟨⟨by decide, fun e => (by cases e), fun e => (by cases e), fun e => (by cases e)⟩, ⟨fun e => (by cases e), by show (Lib.join [] [124]).length ≤ _; rw [Lib.join_nil]; exact Nat.zero_le _⟩, ?_, ?_⟩
    · have : (patP everyP).length = 1 := by decide
      omega
    · have : costT (treeP everyP) = 2 := cost_set _
      omega
  split at h
  · unfold brG at h
    split at h
    · rename_i ws a2 hb
      injection h with h
      injection h with h1 h2
      subst h1
      subst h2
      obtain ⟨k1, k2, k3⟩ := braces_w s _ _ _ _ _ _ hb (Nat.le_refl _) (get_lt hc) (fun w hw => by cases hw) (fun k h1 h2 => by omega)
      rw [wlen] at k3
      have hj := join_wlen k1
      refine ⟨⟨Nat.le_refl _, fun e => (by cases e), fun e => (by cases e), fun _ => ⟨k1, k2⟩⟩, ⟨fun e => (by cases e), by show (Lib.join ws [124]).length ≤ _; omega⟩, ?_, ?_⟩
      · show (40 :: (Lib.join ws [124] ++ [41])).length ≤ _
        rw [List.length_cons, List.length_append, List.length_singleton]
        omega
      · show costT (.node 2 (ws.map wordT) noS) ≤ _
        rw [costT]
        have := words_cost ws
        omega
    · cases h
  split at h
  · unfold clG at h
    split at h
    · rename_i S a2 hb
      injection h with h
      injection h with h1 h2
      subst h1
      subst h2
      obtain ⟨k1, k2, k3⟩ := class_w s _ _ _ _ _ _ hb (fun y h => by cases h) (fun h => by cases h)
      rw [noset_len] at k3
      have h65 := classB_65 k1
      refine ⟨⟨show 1 ≤ 4 by decide, fun e => (by cases e), fun _ => ⟨k1, k2⟩, fun e => (by cases e)⟩, ⟨fun e => (by cases e), by show (Lib.join [] [124]).length ≤ _; rw [Lib.join_nil]; exact Nat.zero_le _⟩, ?_, ?_⟩
      · show (91 :: (classB S 256 ++ [93])).length ≤ _
        rw [List.length_cons, List.length_append, List.length_singleton]
        omega
      · show costT (.node 3 [] S) ≤ _
        rw [cost_set]
        omega
    · cases h
  split at h
  · rename_i hg
    injection h with h
    injection h with h1 h2
    subst h1
    subst h2
    refine ⟨⟨Nat.zero_le _, fun _ => hg, fun e => (by cases e), fun e => (by cases e)⟩, ⟨fun _ => isG_128 hg, by show (Lib.join [] [124]).length ≤ _; rw [Lib.join_nil]; exact Nat.zero_le _⟩, ?_, ?_⟩
    · show [c].length ≤ _
      rw [List.length_singleton]
      omega
    · show costT (.node 3 [] (oneS c)) ≤ _
      rw [cost_set]
      omega
  · cases h
def costPs (ps : List Pc) : Nat := costsT (ps.map treeP)
theorem costsT_app : ∀ (l r : List RT), costsT (l ++ r) = costsT l + costsT r
  | [], r => by rw [List.nil_append, costsT, Nat.zero_add]
  | a :: l, r => by rw [List.cons_append, costsT, costsT, costsT_app l r]; omega
def NodeW (s : List UInt8) (a : Nat) (ps qs : List Pc) (a' : Nat) : Prop := (∀ p ∈ qs, PcW p ∧ PcOk p) ∧ qs ≠ [] ∧ (s[a']? = none ∨ s[a']? = some 46) ∧ a ≤ a' ∧ a' ≤ s.length ∧ (patN qs).length + 20 * a ≤ (patN ps).length + 20 * a' ∧ costPs qs + 22 * a ≤ costPs ps + 22 * a' ∧ qs.length + a ≤ ps.length + a'
theorem node_w {s : List UInt8} (hs : s.length ≤ 4096) : ∀ (f a : Nat) (ps qs : List Pc) (a' : Nat), nodeG s f a ps = .ok (qs, a') → a ≤ s.length → s.length < a + f → (∀ p ∈ ps, PcW p ∧ PcOk p) →
    NodeW s a ps qs a'
  | 0, a, ps, qs, a', h, ha, hf, hp => by omega
  | f + 1, a, ps, qs, a', h, ha, hf, hp => by
    unfold nodeG at h
    have fin : (s[a]? = none ∨ s[a]? = some 46) → (if ps.isEmpty then Except.error a else Except.ok (ps, a)) = Except.ok (qs, a') → NodeW s a ps qs a' := fun hx h => by
      split at h
      · cases h
      · rename_i hne
        injection h with h
        injection h with h1 h2
        subst h1
        subst h2
        exact ⟨hp, fun e => hne (by rw [e]; rfl), hx, Nat.le_refl _, ha, Nat.le_refl _, Nat.le_refl _, Nat.le_refl _⟩
    cases hc : s[a]? with
    | none =>
      rw [hc] at h
      exact fin (.inl hc) h
    | some c =>
      rw [hc] at h
      simp only at h
      split at h
      · rename_i h46
        exact fin (.inr (by rw [hc, h46])) h
      · cases hpg : pieceG s a c with
        | error b => rw [hpg] at h; cases h
        | ok q =>
          obtain ⟨p, a2⟩ := q
          rw [hpg] at h
          simp only at h
          have hadv := piece_adv hc hpg
          obtain ⟨k1, k2, k3, k4⟩ := piece_w hs hc hpg
          have h2 : a2 ≤ s.length := hadv.2
          obtain ⟨g1, g2, g3, g4, g5, g6, g7, g8⟩ := node_w hs f a2 (ps ++ [p]) qs a' h h2 (by omega) (fun x hx => by
            rcases List.mem_append.1 hx with hx | hx
            · exact hp x hx
            · rw [List.mem_singleton.1 hx]; exact ⟨k1, k2⟩)
          have e1 : (patN (ps ++ [p])).length = (patN ps).length + (patP p).length := by unfold patN; rw [List.flatMap_append, List.length_append]; simp
          have e2 : costPs (ps ++ [p]) = costPs ps + (2 + costT (treeP p)) := by
            unfold costPs
            rw [List.map_append, costsT_app, List.map_singleton, costsT, costsT, Nat.add_zero]
          rw [e1] at g6
          rw [e2] at g7
          rw [List.length_append, List.length_singleton] at g8
          exact ⟨g1, g2, g3, by omega, g5, by omega, by omega, by omega⟩
/-- A text without dots that is a pattern has one node; its pattern is short and is read as its tree. -/
theorem comp_w {s : List UInt8} {g : List (List Pc)} (hs : s.length ≤ 200) (hd : ∀ c ∈ s, c ≠ 46) (h : compG s = .ok g) : ∃ ps, g = [ps] ∧ (∀ p ∈ ps, PcW p ∧ PcOk p) ∧ ps ≠ [] ∧ (patN ps).length ≤ 4000 ∧ costT (treeN ps) ≤ 4406 ∧ GlobOk g := by
  unfold compG at h
  rw [if_neg (by omega)] at h
  unfold nodesG at h
  cases hn : nodeG s (s.length + 1) 0 [] with
  | error b => rw [hn] at h; cases h
  | ok q =>
    obtain ⟨ps, a⟩ := q
    rw [hn] at h
    simp only at h
    obtain ⟨g1, g2, g3, g4, g5, g6, g7, g8⟩ := node_w (by omega) _ _ _ _ _ hn (Nat.zero_le _) (by omega) (fun p hp => by cases hp)
    have hnone : s[a]? = none := by
      rcases g3 with h1 | h1
      · exact h1
      · exact absurd rfl (hd 46 (List.mem_of_getElem? h1))
    rw [hnone] at h
    injection h with h
    have e1 : (patN []).length = 0 := rfl
    have e2 : costPs [] = 0 := by unfold costPs; rw [List.map_nil, costsT]
    rw [e1] at g6
    rw [e2] at g7
    rw [List.length_nil] at g8
    subst h
    refine ⟨ps, rfl, g1, g2, by omega, ?_, by simp, fun qs hq => ?_⟩
    · unfold treeN
      rw [costT, costsT, costT, costsT]
      unfold costPs at g7
      omega
    · rw [List.nil_append, List.mem_singleton] at hq
      subst hq
      exact ⟨by omega, fun p hp => (g1 p hp).2⟩
end Go.Proofs.YtnnfhcbopchodaaDoor
namespace Go.Proofs.YtnnfhcbopchodaaDoor
open Go Go.RowKit
set_option linter.unusedVariables false
set_option linter.unusedSimpArgs false
set_option maxRecDepth 100000
/-- A node as it lies: where its kids are, and what it is. -/
abbrev ZNd := Value × RT
def nenc (z : ZNd) : List Value := .int .i64 z.2.kind :: z.1 :: pbits z.2.set
theorem nenc_len (z : ZNd) : (nenc z).length = 258 := by simp [nenc, pbits_len]
theorem nenc_pos (z : ZNd) : 0 < (nenc z).length := by rw [nenc_len]; decide
theorem nenc_size (z : ZNd) : (nenc z).toArray.size = 258 := by rw [List.size_toArray, nenc_len]
theorem nenc_0 (z : ZNd) : (nenc z)[0]? = some (.int .i64 z.2.kind) := rfl
theorem nenc_1 (z : ZNd) : (nenc z)[1]? = some z.1 := rfl
theorem nenc_set (z : ZNd) (i : Nat) (h : i < 256) : (nenc z)[2 + i]? = some (.bool (z.2.set (UInt8.ofNat i))) := by
  rw [show 2 + i = i + 1 + 1 by omega]
  show (pbits z.2.set)[i]? = _
  simp [pbits, h]
theorem nenc_upd1 (v v' : Value) (k : Nat) (l l' : List RT) (S : UInt8 → Bool) : (nenc (v, .node k l S)).toArray.setIfInBounds 1 v' = (nenc (v', .node k l' S)).toArray := by
  rw [List.setIfInBounds_toArray]
  rfl
theorem nenc_updset (v : Value) (k : Nat) (l : List RT) (S : UInt8 → Bool) (x : UInt8) (b : Bool) : (nenc (v, .node k l S)).toArray.setIfInBounds (2 + x.toNat) (.bool b) = (nenc (v, .node k l fun y => if y = x then b else S y)).toArray := by
  rw [List.setIfInBounds_toArray]
  congr 1
  rw [show 2 + x.toNat = x.toNat + 1 + 1 by omega]
  show _ :: _ :: (pbits S).set x.toNat (.bool b) = _
  rw [pbits_upd]
  rfl
theorem nenc_one {z : ZNd} (h : z.1.oneCell' = true) : ∀ u ∈ nenc z, u.oneCell' = true := by
  intro u hu
  unfold nenc at hu
  rcases List.mem_cons.1 hu with rfl | hu
  · rfl
  rcases List.mem_cons.1 hu with rfl | hu
  · exact h
  · obtain ⟨i, -, rfl⟩ := List.mem_map.1 hu; rfl
theorem nenc_all {z : ZNd} (h : z.1.oneCell' = true) : (nenc z).toArray.all (·.oneCell') = true := all_oneCell_toArray (nenc_one h)
/-- A node's kids lie as told, theirs too. -/
inductive NdOk (B : Nat → Prop) (w : World) : Value → RT → Prop where
  | mk (v : Value) (k : Nat) (S : UInt8 → Bool) (zs : List ZNd) (h : SlA nenc B w v zs) (hz : ∀ z ∈ zs, NdOk B w z.1 z.2) : NdOk B w v (.node k (zs.map (·.2)) S)
section
variable {B C : Nat → Prop} {w w' : World} {v : Value} {t : RT}
theorem NdOk.nil (k : Nat) (S : UInt8 → Bool) : NdOk B w (.slice none 0 0) (.node k [] S) := NdOk.mk _ k S [] (SlA.nil B w) (fun z hz => by cases hz)
theorem NdOk.kp_of (h : NdOk B w v t) (hk : Kp C w w') (hc : ∀ b, C b → B b) : NdOk B w' v t := by
  induction h with
  | mk v k S zs h hz ih => exact NdOk.mk v k S zs (h.kp_of hk hc) ih
theorem NdOk.mono (h : NdOk B w v t) (hc : ∀ b, C b → B b) : NdOk C w v t := by
  induction h with
  | mk v k S zs h hz ih => exact NdOk.mk v k S zs (h.mono hc) ih
theorem NdOk.new (h : NdOk B w v t) : NdOk (fun b => B b ∨ w.heap.size ≤ b) w v t := by
  induction h with
  | mk v k S zs h hz ih => exact NdOk.mk v k S zs (h.new nenc_pos) ih
theorem NdOk.one (h : NdOk B w v t) : v.oneCell' = true := by
  cases h with
  | mk v k S zs h hz =>
    obtain ⟨⟨a, cap, rfl, -⟩, -⟩ := h
    rfl
theorem NdOk.set {k : Nat} {l : List RT} {S : UInt8 → Bool} (h : NdOk B w v (.node k l S)) (k' : Nat) (S' : UInt8 → Bool) : NdOk B w v (.node k' l S') := by
  cases h with
  | mk v k S zs h hz => exact NdOk.mk v k' S' zs h hz
/-- What lies below a place lies in no block of a new one's. -/
theorem NdOk.keep (h : NdOk B w v t) (hk : Kp C w w') (hc : ∀ b, C b → B b ∨ w.heap.size ≤ b) : NdOk B w' v t := (h.new.kp_of hk hc).mono (fun b hb => .inl hb)
end
abbrev NdT : TypeId := 33
def zN (k : Nat) : ZNd := (.slice none 0 0, .node k [] noS)
theorem Tryd.infoNd : (Tryd.prog.info? NdT).map (·.size) = some 258 := by kernel_rfl
theorem Tryd.infoNds : (Tryd.prog.info? NdT).map (fun i => (i.zero, i.size, i.bytes)) = some (some (.agg (nenc (zN 0)).toArray), 258, 288) := by kernel_rfl
theorem Tryd.ndRow : ∃ d, Tryd.prog.underlying NdT = some d ∧ d.isRow = true := by
  have h : ((Tryd.prog.underlying NdT).map (·.isRow)) = some true := by kernel_rfl
  cases hu : Tryd.prog.underlying NdT with
  | none => rw [hu] at h; cases h
  | some d => rw [hu] at h; exact ⟨d, rfl, by simpa using h⟩
theorem Tryd.buildN (k : Nat) : Tryd.prog.built NdT [(0, .int .i64 k)] = some (nenc (zN k)).toArray := by kernel_rfl
theorem Tryd.buildN0 : Tryd.prog.built NdT [] = some (nenc (zN 0)).toArray := by kernel_rfl
theorem Tryd.buildNV (k : Nat) (a : Option Addr) (n c : Nat) (l : List RT) : Tryd.prog.built NdT [(0, .int .i64 k), (1, .slice a n c)] = some (nenc (.slice a n c, .node k l noS)).toArray := by kernel_rfl
theorem Tryd.buildNS (z : ZNd) : Tryd.prog.builtSlice NdT 1 [(0, .agg (nenc z).toArray)] = some (nenc z).toArray := by kernel_rfl
/-- A node behind a pointer. -/
def NdB (w : World) (g : Nat) (z : ZNd) : Prop := w.heap[g]? = some (.cells (nenc z).toArray NdT (0, 0))
section
variable {w w' : World} {g : Nat} {z : ZNd} {B : Nat → Prop}
theorem NdB.lt (h : NdB w g z) : g < w.heap.size := heap_lt h
theorem NdB.kp (h : NdB w g z) (hk : Kp B w w') (hb : ¬ B g) : NdB w' g z := hk.heap hb h
theorem NdB.c1 (h : NdB w g z) : w.cell? ⟨g, 1, none⟩ = some z.1 := by rw [cell_of_row w g 1 _ _ _ h, List.getElem?_toArray]; exact nenc_1 z
theorem NdB.cs (h : NdB w g z) (i : Nat) (hi : i < 256) : w.cell? ⟨g, 2 + i, none⟩ = some (.bool (z.2.set (UInt8.ofNat i))) := by rw [cell_of_row w g (2 + i) _ _ _ h, List.getElem?_toArray]; exact nenc_set z i hi
theorem NdB.fz (h : NdB w g z) (i : Nat) : w.frozen? ⟨g, i, none⟩ = false := frozen_row h
theorem NdB.putKids {v v' : Value} {k : Nat} {l l' : List RT} {S : UInt8 → Bool} (h : NdB w g (v, .node k l S)) : NdB (w.setCell ⟨g, 1, none⟩ v') g (v', .node k l' S) := by
  unfold NdB; rw [← nenc_upd1 v v' k l l' S]; exact heap_setCell_at _ h
theorem NdB.putSet {v : Value} {k : Nat} {l : List RT} {S : UInt8 → Bool} (h : NdB w g (v, .node k l S)) (x : UInt8) (b : Bool) : NdB (w.setCell ⟨g, 2 + x.toNat, none⟩ (.bool b)) g (v, .node k l fun y => if y = x then b else S y) := by
  unfold NdB; rw [← nenc_updset v k l S]; exact heap_setCell_at _ h
end
section
variable {ops : Array Oper} {rest : List Oper} {o : Oper} {a : Act} {w : World} {Q : Exit → Act → World → Prop}
theorem Tryd.zeroNd (w : World) : (zeroValue NdT).run Tryd.prog w = .ok (.agg (nenc (zN 0)).toArray) w := by
  obtain ⟨i, hi, h0, h1, h2⟩ := info_parts Tryd.infoNds
  simp [zeroValue, typeInfo, hi, h0]
theorem Tryd.stepAllocNd {n : Nat} (hg : o.guard = none) (ho : o.op = .alloc NdT) (hn : w.heap.size = n)
    (h : ∀ W, NdB W n (zN 0) → W.heap.size = n + 1 → Kp (fun _ => False) w W → wpList Tryd.prog ops Q rest (a.put o.dst (.pointer (some ⟨n, 0, none⟩))) W) : wpList Tryd.prog ops Q (o :: rest) a w := by
  subst hn
  refine Great.wpList_runTo hg o.dst rfl (.pointer (some ⟨w.heap.size, 0, none⟩)) (w.alloc (.cells (nenc (zN 0)).toArray NdT)) ?_ (h _ (heap_new _ _) (by simp) ((Kp.refl _ _).alloc _))
  unfold execOp
  simp only [ho, Instr.alloc, Sem.run_bind, Tryd.zeroNd, Result.andThen_ok]
  rfl
theorem Tryd.stepBuildN (k : Nat) (hg : o.guard = none) (ho : o.op = .build NdT #[(0, .const (.int .i64 k))])
    (h : wpList Tryd.prog ops Q rest (a.put o.dst (.agg (nenc (zN k)).toArray)) w) : wpList Tryd.prog ops Q (o :: rest) a w := by
  have e : ((#[(0, Operand.const (.int .i64 k))] : Array (Nat × Operand)).map fun (i, x) => (i, a.eval x)).toList = [(0, .int .i64 k)] := by simp [Act.eval]
  have hb := Tryd.buildN k
  rw [← e] at hb
  refine wpList_build hg NdT _ ho ?_ ?_
  · rw [hb]; rfl
  · rw [hb]; exact h
theorem Tryd.stepBuildN0 (hg : o.guard = none) (ho : o.op = .build NdT #[])
    (h : wpList Tryd.prog ops Q rest (a.put o.dst (.agg (nenc (zN 0)).toArray)) w) : wpList Tryd.prog ops Q (o :: rest) a w := by
  have e : ((#[] : Array (Nat × Operand)).map fun (i, x) => (i, a.eval x)).toList = [] := by simp
  have hb := Tryd.buildN0
  rw [← e] at hb
  refine wpList_build hg NdT _ ho ?_ ?_
  · rw [hb]; rfl
  · rw [hb]; exact h
theorem Tryd.stepBuildNV (k : Nat) (x : Operand) (b : Option Addr) (n c : Nat) (l : List RT) (hg : o.guard = none) (ho : o.op = .build NdT #[(0, .const (.int .i64 k)), (1, x)]) (hx : a.eval x = .slice b n c)
    (h : wpList Tryd.prog ops Q rest (a.put o.dst (.agg (nenc (.slice b n c, .node k l noS)).toArray)) w) : wpList Tryd.prog ops Q (o :: rest) a w := by
  have e : ((#[(0, Operand.const (.int .i64 k)), (1, x)] : Array (Nat × Operand)).map fun (i, x) => (i, a.eval x)).toList = [(0, .int .i64 k), (1, .slice b n c)] := by
    simp only [List.map_toArray, List.map_cons, List.map_nil, hx]
    simp [Act.eval]
  have hb := Tryd.buildNV k b n c l
  rw [← e] at hb
  refine wpList_build hg NdT _ ho ?_ ?_
  · rw [hb]; rfl
  · rw [hb]; exact h
theorem Tryd.stepStoreNd {z z' : ZNd} (x y : Operand) (g : Nat) (hg : o.guard = none) (ho : o.op = .store NdT x y) (hx : a.eval x = .pointer (some ⟨g, 0, none⟩)) (hy : a.eval y = .agg (nenc z').toArray) (hz : NdB w g z) (h1 : z'.1.oneCell' = true)
    (h : ∀ W, NdB W g z' → W.heap.size = w.heap.size → Kp (· = g) w W → wpList Tryd.prog ops Q rest (a.put o.dst undef) W) : wpList Tryd.prog ops Q (o :: rest) a w :=
  wpList_store_row hg NdT x y ho g _ hx hy NdT _ hz (by rw [nenc_size]; exact Tryd.infoNd) (by rw [nenc_size, nenc_size]) (nenc_all h1) (h _ (setRow_heap _ _ _ _ _ _ hz) (by simp [World.setRow]) ((Kp.refl (· = g) w).setRow (g := g) (.inl rfl) _))
theorem Tryd.stepLoadNd {z : ZNd} (x : Operand) (g : Nat) (hg : o.guard = none) (ho : o.op = .load NdT x) (hx : a.eval x = .pointer (some ⟨g, 0, none⟩)) (hz : NdB w g z)
    (h : wpList Tryd.prog ops Q rest (a.put o.dst (.agg (nenc z).toArray)) w) : wpList Tryd.prog ops Q (o :: rest) a w := by
  obtain ⟨d, hd, hr⟩ := Tryd.ndRow
  exact wpList_load_row hg NdT x ho g hx NdT _ _ d hz hd (by cases d <;> simp_all) (by rw [nenc_size]; exact Tryd.infoNd) h
theorem Tryd.resultNd {fn : Func} {p : Tmp} {tmps : Array Value} {w : World} {g : Nat} {z : ZNd} (h : fn.results = #[.cell p NdT]) (hp : tmps.getD p undef = .pointer (some ⟨g, 0, none⟩)) (hz : NdB w g z) :
    (results fn tmps).run Tryd.prog w = .ok (.agg (nenc z).toArray) w := by
  obtain ⟨d, hd, hr⟩ := Tryd.ndRow
  exact results_cell_row h tmps w g NdT _ _ d hp hz hd (by cases d <;> simp_all) (by rw [nenc_size]; exact Tryd.infoNd)
theorem Tryd.stepSliceNd {z : ZNd} (x : Operand) (hg : o.guard = none) (ho : o.op = .buildSlice 30 1 #[(0, x)]) (hx : a.eval x = .agg (nenc z).toArray)
    (h : wpList Tryd.prog ops Q rest (a.put o.dst (.slice (some ⟨w.heap.size, 0, none⟩) 1 1)) (w.alloc (.cells (nenc z).toArray NdT))) : wpList Tryd.prog ops Q (o :: rest) a w := by
  have e : ((#[(0, x)] : Array (Nat × Operand)).map fun (i, x) => (i, a.eval x)).toList = [(0, .agg (nenc z).toArray)] := by
    simp only [List.map_toArray, List.map_cons, List.map_nil, hx]
  have hb := Tryd.buildNS z
  rw [← e] at hb
  exact Great.wpList_buildSliceTo hg 30 NdT 1 _ ho w.heap.size rfl o.dst rfl Tryd.underlying30 (nenc z).toArray hb h
theorem Tryd.stepAppendNd {v : Value} {zs : List ZNd} {z : ZNd} {N : Nat} (x y : Operand) (g : Nat) (hg : o.guard = none)
    (ho : o.op = .call { callee := .builtin .append, args := #[x, y], argTypes := #[30, 30] }) (hx : a.eval x = v) (hy : a.eval y = .slice (some ⟨g, 0, none⟩) 1 1) (hown : w.ownsRow N NdT 258 v zs.length (zs.flatMap nenc)) (hb : w.heap[g]? = some (.cells (nenc z).toArray NdT (0, 0)))
    (h1 : z.1.oneCell' = true) (hlen : zs.length ≤ 100000) (hN : N ≤ w.heap.size)
    (h : ∀ v' w', w'.ownsRow N NdT 258 v' (zs ++ [z]).length ((zs ++ [z]).flatMap nenc) → w.grownBy w' v.ownBlock → (v'.ownBlock = v.ownBlock ∨ v'.ownBlock = some w.heap.size) → wpList Tryd.prog ops Q rest (a.put o.dst v') w') : wpList Tryd.prog ops Q (o :: rest) a w := by
  obtain ⟨i0, hi, hz0, hz1, hz2⟩ := info_parts Tryd.infoNds
  have hcs : (Value.agg (nenc (zN 0)).toArray).cells.size = 258 := nenc_size _
  refine wpList_append_own_at _ hg x y 30 ho N NdT i0 _ 258 288 Tryd.underlying30 hi hz0 hz1 hz2 hcs (by decide) v zs.length (zs.flatMap nenc) hx hown ⟨g, 0, none⟩ 1 1 (nenc z) hy (by rw [nenc_len]) ?_ (nenc_one h1) (by unfold maxLen; omega) (by omega) hN ?_
  · intro j u hj
    rw [Addr.add_lit, Nat.zero_add, cell_of_row _ _ _ _ _ _ hb, List.getElem?_toArray]
    exact hj
  · intro v' w' ho' hgr _ hat
    refine h v' w' ?_ hgr hat
    rw [List.length_append, List.flatMap_append]
    simpa using ho'
end
end Go.Proofs.YtnnfhcbopchodaaDoor
namespace Go.Proofs.YtnnfhcbopchodaaDoor
open Go Go.RowKit
set_option linter.unusedVariables false
set_option linter.unusedSimpArgs false
set_option maxRecDepth 100000
theorem drop_bAt {s : ByteArray} {i : Nat} (h : i < s.size) : s.data.toList.drop i = bAt s i :: s.data.toList.drop (i + 1) := by
  have h2 : i < s.data.toList.length := h
  rw [List.drop_eq_getElem_cons h2]
  have := bAt_some h
  rw [List.getElem?_eq_getElem h2] at this
  injection this with this
  rw [this]
theorem drop_over {s : ByteArray} {i : Nat} (h : s.size ≤ i) : s.data.toList.drop i = [] := List.drop_eq_nil_of_le h
theorem u8_ieq (a b : UInt8) : ((a.toNat : Int) == (b.toNat : Int)) = (a == b) := by
  rw [Bool.eq_iff_iff, beq_iff_eq, beq_iff_eq]
  constructor
  · intro h
    exact UInt8.toNat.inj (by omega)
  · rintro rfl; rfl
set_option maxHeartbeats 1000000 in
theorem ramong_any (c : UInt8) (t : ByteArray) (w : World) (ht : t.size ≤ 1000) :
    Calls Tryd.prog 90 #[.int .u8 c.toNat, .string t] w fun e w' => e = .returned (.bool (t.data.toList.contains c)) ∧ w' = w := by
  obtain ⟨r, hr⟩ : ∃ r, t.data.toList.contains c = r := ⟨_, rfl⟩
  rw [hr]
  have HR := Lib.hid hr
  clear hr
  go_enter Tryd.func90, Tryd.ntmps90
  go_wp2_with fail
  go_loopw [5] (fun i wr => ∃ k : Nat, i = .int .i64 k ∧ k ≤ t.size ∧ wr = w ∧ Hid ((t.data.toList.drop k).contains c = r)) (fun i _ => t.size - (intOf i).toNat)
  case atStart => exact ⟨0, rfl, Nat.zero_le _, rfl, HR.out⟩
  case round =>
    obtain ⟨k, rfl, hk, rfl, HD⟩ := hrel
    by_cases hlt : k < t.size
    · have hd := HD.out
      rw [drop_bAt hlt, List.contains_cons] at hd
      have hg : t[k] = bAt t k := bAt_get hlt
      have he := u8_ieq (bAt t k) c
      by_cases hx : bAt t k = c
      · rw [hx] at hg he hd
        have hd2 : r = true := by rw [← hd]; simp
        subst hd2
        clear hd hx
        have he2 : ((c.toNat : Int) == (c.toNat : Int)) = true := by rw [he]; simp
        clear he
        go_wp2_with fail
        go_ret
        exact ⟨rfl, rfl⟩
      · have he2 : (((bAt t k).toNat : Int) == (c.toNat : Int)) = false := by rw [he]; simpa using hx
        have hd2 : (t.data.toList.drop (k + 1)).contains c = r := by
          rw [← hd, beq_eq_false_iff_ne.2 (fun e => hx e.symm)]; rfl
        have HD2 := Lib.hid hd2
        clear hd hd2 he hx
        generalize bAt t k = y at hg he2
        go_wp2_with fail
        go_roundw
        case rel => exact ⟨k + 1, by go_num, by omega, by first | trivial | rfl, HD2.out⟩
        case measure => simp [intOf]; omega
    · have hd := HD.out
      rw [drop_over (by omega)] at hd
      have hd2 : r = false := by rw [← hd]; rfl
      subst hd2
      clear hd
      go_wp2_with fail
      go_ret
      exact ⟨by first | trivial | rfl, rfl⟩
/-- A reader: its text, place, depth, error and where. -/
def R4 (w : World) (rb : Nat) (s : ByteArray) (at' d : Nat) (er bad : Int) : Prop := w.heap[rb]? = some (.cells #[.string s, .int .i64 at', .int .i64 d, .int .i64 er, .int .i64 bad] 75 (0, 0))
section
variable {w : World} {rb at' d : Nat} {s : ByteArray} {er bad : Int}
theorem R4.c0 (h : R4 w rb s at' d er bad) : w.cell? ⟨rb, 0, none⟩ = some (.string s) := by rw [cell_of_row w rb 0 _ _ _ h]; rfl
theorem R4.c1 (h : R4 w rb s at' d er bad) : w.cell? ⟨rb, 1, none⟩ = some (.int .i64 at') := by rw [cell_of_row w rb 1 _ _ _ h]; rfl
theorem R4.c2 (h : R4 w rb s at' d er bad) : w.cell? ⟨rb, 2, none⟩ = some (.int .i64 d) := by rw [cell_of_row w rb 2 _ _ _ h]; rfl
theorem R4.c3 (h : R4 w rb s at' d er bad) : w.cell? ⟨rb, 3, none⟩ = some (.int .i64 er) := by rw [cell_of_row w rb 3 _ _ _ h]; rfl
theorem R4.c4 (h : R4 w rb s at' d er bad) : w.cell? ⟨rb, 4, none⟩ = some (.int .i64 bad) := by rw [cell_of_row w rb 4 _ _ _ h]; rfl
theorem R4.fz (h : R4 w rb s at' d er bad) (i : Nat) : w.frozen? ⟨rb, i, none⟩ = false := frozen_row h
theorem R4.drewN (h : R4 w rb s at' d er bad) (n : Nat) : R4 (w.drewN n) rb s at' d er bad := h
theorem R4.put1 (h : R4 w rb s at' d er bad) (a2 : Nat) : R4 (w.setCell ⟨rb, 1, none⟩ (.int .i64 a2)) rb s a2 d er bad := heap_setCell_at _ h
theorem R4.put2 (h : R4 w rb s at' d er bad) (d2 : Nat) : R4 (w.setCell ⟨rb, 2, none⟩ (.int .i64 d2)) rb s at' d2 er bad := heap_setCell_at _ h
theorem R4.put3 (h : R4 w rb s at' d er bad) (e2 : Int) : R4 (w.setCell ⟨rb, 3, none⟩ (.int .i64 e2)) rb s at' d e2 bad := heap_setCell_at _ h
theorem R4.put4 (h : R4 w rb s at' d er bad) (b2 : Int) : R4 (w.setCell ⟨rb, 4, none⟩ (.int .i64 b2)) rb s at' d er b2 := heap_setCell_at _ h
theorem R4.kp {B : Nat → Prop} {w' : World} (h : R4 w rb s at' d er bad) (hk : Kp B w w') (hb : ¬ B rb) : R4 w' rb s at' d er bad := hk.heap hb h
end
set_option maxHeartbeats 1000000 in
theorem r4more_any (rb : Nat) (s : ByteArray) (at' d : Nat) (er bad : Int) (w : World) (h : R4 w rb s at' d er bad) (hs : s.size ≤ 4096) (ha : at' ≤ 5000) :
    Calls Tryd.prog 49 #[.pointer (some ⟨rb, 0, none⟩)] w fun e w' => e = .returned (.bool (er == 0 && decide (at' < s.size))) ∧ ∃ n, w' = w.drewN n := by
  have c0 := h.c0
  have c1 := h.c1
  have c3 := h.c3
  clear h
  obtain ⟨z, hz⟩ : ∃ z, (er == (0 : Int)) = z := ⟨_, rfl⟩
  rw [hz]
  by_cases hlt : at' < s.size
  · rw [decide_eq_true hlt]
    cases z
    all_goals
      go_enter Tryd.func49, Tryd.ntmps49
      go_wp2_with fail
      go_quiet (fail)
      go_wp2_with fail
      go_ret
      exact ⟨by first | rfl | simp, _, rfl⟩
  · rw [decide_eq_false hlt]
    cases z
    all_goals
      go_enter Tryd.func49, Tryd.ntmps49
      go_wp2_with fail
      go_quiet (fail)
      go_wp2_with fail
      go_ret
      exact ⟨by first | rfl | simp, _, rfl⟩
theorem r4fail_any (rb : Nat) (s : ByteArray) (at' d : Nat) (bad er2 x : Int) (w : World) (h : R4 w rb s at' d 0 bad) :
    Calls Tryd.prog 29 #[.pointer (some ⟨rb, 0, none⟩), .int .i64 er2, .int .i64 x] w fun e w' => e = .returned (.tuple #[]) ∧ R4 w' rb s at' d er2 x ∧ Kp (· = rb) w w' := by
  have HR := Lib.hid h
  have c3 := h.c3
  have f3 := h.fz 3
  have c4 := h.c4
  have f4 := h.fz 4
  clear h
  go_enter Tryd.func29, Tryd.ntmps29
  go_wp2_with fail
  go_end0
  exact ⟨rfl, (HR.out.put3 _).put4 _, ((Kp.refl (· = rb) w).setCell (p := ⟨rb, 3, none⟩) (.inl rfl) _).setCell (p := ⟨rb, 4, none⟩) (.inl rfl) _⟩
end Go.Proofs.YtnnfhcbopchodaaDoor
