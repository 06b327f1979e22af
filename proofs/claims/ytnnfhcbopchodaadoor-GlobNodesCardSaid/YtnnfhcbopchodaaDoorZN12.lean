/- Chapter 4's programs, plain: the code of a tree, the texts over which it runs. Chapter 4's programs, plain: what Match answers is whether the text is one of the tree's. A glob node as one of chapter 4's trees, plain: the tree's texts are those that the node matches. (Several texts in one file, by merge.py.) -/
import Derived.Test.YtnnfhcbopchodaaDoorZN11
import Derived.Test.YtnnfhcbopchodaaDoorZN1
namespace Go.Proofs.YtnnfhcbopchodaaDoor
open Go Go.RowKit
set_option linter.unusedVariables false
set_option linter.unusedSimpArgs false
mutual
/-- A tree's code from a place on. -/
def codeT : Nat → RT → List In
  | n, .node k kids S =>
    if k = 3 then [⟨1, S, 0, 0⟩]
    else if k = 1 then codeC n kids
    else if k = 2 then codeA n (n + (codeA n 0 kids).length) kids
    else if k = 5 then codeO n kids ++ [⟨2, noS, n, n + (codeO n kids).length + 1⟩]
    else if k = 4 then ⟨2, noS, n + 1, n + (codeO (n + 1) kids).length + 2⟩ :: (codeO (n + 1) kids ++ [⟨3, noS, n, 0⟩])
    else ⟨2, noS, n + 1, n + (codeO (n + 1) kids).length + 1⟩ :: codeO (n + 1) kids
def codeC : Nat → List RT → List In
  | _, [] => []
  | n, a :: r => codeT n a ++ codeC (n + (codeT n a).length) r
def codeA : Nat → Nat → List RT → List In
  | _, _, [] => []
  | n, e, a :: r =>
    if r.isEmpty = true then codeT n a
    else ⟨2, noS, n + 1, n + (codeT (n + 1) a).length + 2⟩ :: (codeT (n + 1) a ++ ⟨3, noS, e, 0⟩ :: codeA (n + (codeT (n + 1) a).length + 2) e r)
def codeO : Nat → List RT → List In
  | _, [] => []
  | n, a :: _ => codeT n a
end
def outsA : Nat → List RT → List Nat
  | _, [] => []
  | n, a :: r => if r.isEmpty = true then [] else (n + (codeT (n + 1) a).length + 1) :: outsA (n + (codeT (n + 1) a).length + 2) r
theorem codeA_len (e e' : Nat) : ∀ (l : List RT) (n : Nat), (codeA n e l).length = (codeA n e' l).length
  | [], n => by unfold codeA; rfl
  | a :: r, n => by
    unfold codeA
    split
    · rfl
    · simp [codeA_len e e' r]
theorem putB_at (y : List In) (i : In) (v : Nat) : ∀ x : List In, putB (x ++ i :: y) x.length v = x ++ { i with b := v } :: y
  | [] => rfl
  | a :: x => by
    show a :: putB (x ++ i :: y) x.length v = _
    rw [putB_at y i v x]; rfl
theorem putA_at (y : List In) (i : In) (v : Nat) : ∀ x : List In, putA (x ++ i :: y) x.length v = x ++ { i with a := v } :: y
  | [] => rfl
  | a :: x => by
    show a :: putA (x ++ i :: y) x.length v = _
    rw [putA_at y i v x]; rfl
theorem patch_code (e e' : Nat) (post : List In) : ∀ (l : List RT) (pre : List In), patchE (pre ++ (codeA pre.length e' l ++ post)) (outsA pre.length l) e = pre ++ (codeA pre.length e l ++ post)
  | [], pre => by unfold codeA outsA; rfl
  | a :: r, pre => by
    unfold codeA outsA
    by_cases h : r.isEmpty = true
    · rw [if_pos h, if_pos h, if_pos h]; rfl
    · rw [if_neg h, if_neg h, if_neg h]
      obtain ⟨c, hc⟩ : ∃ c, codeT (pre.length + 1) a = c := ⟨_, rfl⟩
      rw [hc]
      obtain ⟨F, hF⟩ : ∃ F : In, In.mk 2 noS (pre.length + 1) (pre.length + c.length + 2) = F := ⟨_, rfl⟩
      rw [hF]
      unfold patchE
      have h1 : pre ++ ((F :: (c ++ In.mk 3 noS e' 0 :: codeA (pre.length + c.length + 2) e' r)) ++ post) = (pre ++ F :: c) ++ In.mk 3 noS e' 0 :: (codeA (pre.length + c.length + 2) e' r ++ post) := by simp
      have h2 : pre.length + c.length + 1 = (pre ++ F :: c).length := by simp; omega
      rw [h1, h2, putA_at]
      have h3 := patch_code e e' post r (pre ++ F :: c ++ [In.mk 3 noS e 0])
      have h4 : (pre ++ F :: c ++ [In.mk 3 noS e 0]).length = pre.length + c.length + 2 := by simp; omega
      rw [h4] at h3
      have h5 : (pre ++ F :: c) ++ (In.mk 3 noS e 0 :: (codeA (pre.length + c.length + 2) e' r ++ post)) = (pre ++ F :: c ++ [In.mk 3 noS e 0]) ++ (codeA (pre.length + c.length + 2) e' r ++ post) := by simp
      show patchE ((pre ++ F :: c) ++ (In.mk 3 noS e 0 :: (codeA (pre.length + c.length + 2) e' r ++ post))) (outsA (pre.length + c.length + 2) r) e = _
      rw [h5, h3]
      simp
mutual
theorem emitP_eq : ∀ (t : RT) (p : List In), emitP p t = p ++ codeT p.length t
  | .node k kids S, p => by
    have h1 := catP_eq kids p
    have h2 := altP_eq kids p []
    have h3 := oneP_eq kids p
    have h4 := oneP_eq kids (p ++ [⟨2, noS, p.length + 1, 0⟩])
    have h5 : (p ++ [(⟨2, noS, p.length + 1, 0⟩ : In)]).length = p.length + 1 := by simp
    rw [h5] at h4
    unfold emitP codeT
    split
    · rfl
    split
    · exact h1
    split
    · rw [h2]
      have := patch_code (p.length + (codeA p.length 0 kids).length) 0 [] kids p
      simp only [List.append_nil, List.nil_append, List.length_append] at this ⊢
      exact this
    split
    · rw [h3]; simp [Nat.add_assoc]
    split
    · rw [h4]
      have e : p ++ [(⟨2, noS, p.length + 1, 0⟩ : In)] ++ codeO (p.length + 1) kids ++ [⟨3, noS, p.length, 0⟩] = p ++ ⟨2, noS, p.length + 1, 0⟩ :: (codeO (p.length + 1) kids ++ [⟨3, noS, p.length, 0⟩]) := by simp
      rw [e, putB_at]
      simp
      omega
    · rw [h4]
      have e : p ++ [(⟨2, noS, p.length + 1, 0⟩ : In)] ++ codeO (p.length + 1) kids = p ++ ⟨2, noS, p.length + 1, 0⟩ :: codeO (p.length + 1) kids := by simp
      rw [e, putB_at]
      simp
      omega
theorem catP_eq : ∀ (l : List RT) (p : List In), catP p l = p ++ codeC p.length l
  | [], p => by unfold catP codeC; simp
  | a :: r, p => by
    unfold catP codeC
    rw [emitP_eq a p, catP_eq r, List.length_append, List.append_assoc]
theorem altP_eq : ∀ (l : List RT) (p : List In) (o : List Nat), altP p o l = (p ++ codeA p.length 0 l, o ++ outsA p.length l)
  | [], p, o => by unfold altP codeA outsA; simp
  | a :: r, p, o => by
    unfold altP codeA outsA
    by_cases h : r.isEmpty = true
    · rw [if_pos h, if_pos h, if_pos h]
      have hr : r = [] := List.isEmpty_iff.1 h
      subst hr
      unfold altP
      rw [emitP_eq a p, List.append_nil]
    · rw [if_neg h, if_neg h, if_neg h]
      have h5 : (p ++ [(⟨2, noS, p.length + 1, 0⟩ : In)]).length = p.length + 1 := by simp
      have h6 := emitP_eq a (p ++ [⟨2, noS, p.length + 1, 0⟩])
      rw [h5] at h6
      obtain ⟨c, hc⟩ : ∃ c, codeT (p.length + 1) a = c := ⟨_, rfl⟩
      rw [h6, hc]
      have e : p ++ [(⟨2, noS, p.length + 1, 0⟩ : In)] ++ c ++ [⟨3, noS, 0, 0⟩] = p ++ ⟨2, noS, p.length + 1, 0⟩ :: (c ++ [⟨3, noS, 0, 0⟩]) := by simp
      have e2 : (p ++ [(⟨2, noS, p.length + 1, 0⟩ : In)] ++ c).length = p.length + c.length + 1 := by simp; omega
      rw [e, e2, putB_at, altP_eq r]
      have e3 : ∀ x : In, (p ++ x :: (c ++ [⟨3, noS, 0, 0⟩])).length = p.length + c.length + 2 := fun x => by simp; omega
      rw [e3]
      simp
theorem oneP_eq : ∀ (l : List RT) (p : List In), oneP p l = p ++ codeO p.length l
  | [], p => by unfold oneP codeO; simp
  | a :: r, p => by
    unfold oneP codeO
    exact emitP_eq a p
end
/-- A step without a byte, a step with one. -/
def Eps (P : List In) (i j : Nat) : Prop := ∃ x, P[i]? = some x ∧ ((x.kind = 2 ∧ (j = x.a ∨ j = x.b)) ∨ (x.kind = 3 ∧ j = x.a))
def Eat (P : List In) (i : Nat) (c : UInt8) : Prop := ∃ x, P[i]? = some x ∧ x.kind = 1 ∧ x.set c = true
inductive Run (P : List In) : Nat → Nat → List UInt8 → Nat → Prop
  | refl (i : Nat) : Run P 0 i [] i
  | eps {n i j k : Nat} {w : List UInt8} (h : Eps P i j) (r : Run P n j w k) : Run P (n + 1) i w k
  | eat {n i k : Nat} {c : UInt8} {w : List UInt8} (h : Eat P i c) (r : Run P n (i + 1) w k) : Run P (n + 1) i (c :: w) k
/-- A stretch of a program runs over the texts of a language. -/
def Seg (P : List In) (a b : Nat) (L : List UInt8 → Prop) : Prop :=
  (∀ n w e, Run P n a w e → (e < a ∨ b ≤ e) → ∃ m w1 w2, m ≤ n ∧ w = w1 ++ w2 ∧ L w1 ∧ Run P m b w2 e) ∧ (∀ w1 m w2 e, L w1 → Run P m b w2 e → ∃ n, Run P n a (w1 ++ w2) e)
section
variable {P : List In} {a b c : Nat} {L L1 L2 : List UInt8 → Prop}
theorem Seg.nil : Seg P a a (fun w => w = []) :=
  ⟨fun n w e h _ => ⟨n, [], w, Nat.le_refl _, rfl, rfl, h⟩, fun w1 m w2 e h1 h => ⟨m, by rw [h1]; exact h⟩⟩
theorem Seg.one {x : In} (hx : P[a]? = some x) (hk : x.kind = 1) : Seg P a (a + 1) (fun w => ∃ c, w = [c] ∧ x.set c = true) := by
  refine ⟨fun n w e h he => ?_, fun w1 m w2 e h1 h => ?_⟩
  · cases h with
    | refl => omega
    | eps h r =>
      obtain ⟨y, hy, h⟩ := h
      rw [hx] at hy
      injection hy with hy
      subst hy
      rcases h with h | h <;> omega
    | @eat n _ _ c w h r =>
      obtain ⟨y, hy, h1, h2⟩ := h
      rw [hx] at hy
      injection hy with hy
      subst hy
      exact ⟨n, [c], w, by omega, rfl, ⟨c, rfl, h2⟩, r⟩
  · obtain ⟨c, rfl, h2⟩ := h1
    exact ⟨m + 1, .eat ⟨x, hx, hk, h2⟩ h⟩
theorem Seg.cat (hab : a ≤ b) (hbc : b ≤ c) (h1 : Seg P a b L1) (h2 : Seg P b c L2) : Seg P a c (fun w => ∃ u v, w = u ++ v ∧ L1 u ∧ L2 v) := by
  refine ⟨fun n w e h he => ?_, fun w1 m w2 e hl h => ?_⟩
  · obtain ⟨m, u, v, hm, rfl, hu, hr⟩ := h1.1 n w e h (by omega)
    obtain ⟨m2, u2, v2, hm2, rfl, hu2, hr2⟩ := h2.1 m v e hr (by omega)
    exact ⟨m2, u ++ u2, v2, by omega, by simp, ⟨u, u2, rfl, hu, hu2⟩, hr2⟩
  · obtain ⟨u, v, rfl, hu, hv⟩ := hl
    obtain ⟨n, hn⟩ := h2.2 v m w2 e hv h
    obtain ⟨n2, hn2⟩ := h1.2 u n (v ++ w2) e hu hn
    exact ⟨n2, by rw [List.append_assoc]; exact hn2⟩
theorem eps_fork {x : In} (hx : P[a]? = some x) (hk : x.kind = 2) {n e : Nat} {w : List UInt8} (h : Run P n a w e) (he : e ≠ a) : ∃ m, m < n ∧ (Run P m x.a w e ∨ Run P m x.b w e) := by
  cases h with
  | refl => exact absurd rfl he
  | @eps n _ _ _ _ h r =>
    obtain ⟨y, hy, h⟩ := h
    rw [hx] at hy
    injection hy with hy
    subst hy
    rcases h with ⟨-, h | h⟩ | ⟨h, -⟩
    · rw [h] at r; exact ⟨n, by omega, .inl r⟩
    · rw [h] at r; exact ⟨n, by omega, .inr r⟩
    · omega
  | eat h r =>
    obtain ⟨y, hy, h1, h2⟩ := h
    rw [hx] at hy
    injection hy with hy
    subst hy
    omega
theorem eps_jump {x : In} (hx : P[a]? = some x) (hk : x.kind = 3) {n e : Nat} {w : List UInt8} (h : Run P n a w e) (he : e ≠ a) : ∃ m, m < n ∧ Run P m x.a w e := by
  cases h with
  | refl => exact absurd rfl he
  | @eps n _ _ _ _ h r =>
    obtain ⟨y, hy, h⟩ := h
    rw [hx] at hy
    injection hy with hy
    subst hy
    rcases h with ⟨h, -⟩ | ⟨-, h⟩
    · omega
    · rw [h] at r; exact ⟨n, by omega, r⟩
  | eat h r =>
    obtain ⟨y, hy, h1, h2⟩ := h
    rw [hx] at hy
    injection hy with hy
    subst hy
    omega
theorem to_a {x : In} (hx : P[a]? = some x) (hk : x.kind = 2 ∨ x.kind = 3) {n e : Nat} {w : List UInt8} (h : Run P n x.a w e) : Run P (n + 1) a w e := .eps ⟨x, hx, by
  rcases hk with hk | hk
  · exact .inl ⟨hk, .inl rfl⟩
  · exact .inr ⟨hk, rfl⟩⟩ h
theorem to_b {x : In} (hx : P[a]? = some x) (hk : x.kind = 2) {n e : Nat} {w : List UInt8} (h : Run P n x.b w e) : Run P (n + 1) a w e := .eps ⟨x, hx, .inl ⟨hk, .inr rfl⟩⟩ h
/-- One or the other: a fork ahead, a jump behind the first. -/
theorem Seg.alt {x y : In} (hx : P[a]? = some x) (hk : x.kind = 2) (hxa : x.a = a + 1) (hxb : x.b = b + 1) (hy : P[b]? = some y) (hyk : y.kind = 3) (hya : y.a = c) (hab : a + 1 ≤ b) (hbc : b + 1 ≤ c) (h1 : Seg P (a + 1) b L1) (h2 : Seg P (b + 1) c L2) :
    Seg P a c (fun w => L1 w ∨ L2 w) := by
  refine ⟨fun n w e h he => ?_, fun w1 m w2 e hl h => ?_⟩
  · obtain ⟨m, hm, hr⟩ := eps_fork hx hk h (by omega)
    rw [hxa, hxb] at hr
    rcases hr with hr | hr
    · obtain ⟨m2, u, v, hm2, rfl, hu, hr2⟩ := h1.1 m w e hr (by omega)
      obtain ⟨m3, hm3, hr3⟩ := eps_jump hy hyk hr2 (by omega)
      rw [hya] at hr3
      exact ⟨m3, u, v, by omega, rfl, .inl hu, hr3⟩
    · obtain ⟨m2, u, v, hm2, rfl, hu, hr2⟩ := h2.1 m w e hr (by omega)
      exact ⟨m2, u, v, by omega, rfl, .inr hu, hr2⟩
  · rcases hl with hl | hl
    · obtain ⟨n, hn⟩ := h1.2 w1 (m + 1) w2 e hl (to_a hy (.inr hyk) (by rw [hya]; exact h))
      exact ⟨n + 1, to_a hx (.inl hk) (by rw [hxa]; exact hn)⟩
    · obtain ⟨n, hn⟩ := h2.2 w1 m w2 e hl h
      exact ⟨n + 1, to_b hx hk (by rw [hxb]; exact hn)⟩
theorem Seg.opt {x : In} (hx : P[a]? = some x) (hk : x.kind = 2) (hxa : x.a = a + 1) (hxb : x.b = b) (hab : a + 1 ≤ b) (h1 : Seg P (a + 1) b L) : Seg P a b (fun w => w = [] ∨ L w) := by
  refine ⟨fun n w e h he => ?_, fun w1 m w2 e hl h => ?_⟩
  · obtain ⟨m, hm, hr⟩ := eps_fork hx hk h (by omega)
    rw [hxa, hxb] at hr
    rcases hr with hr | hr
    · obtain ⟨m2, u, v, hm2, rfl, hu, hr2⟩ := h1.1 m w e hr (by omega)
      exact ⟨m2, u, v, by omega, rfl, .inr hu, hr2⟩
    · exact ⟨m, [], w, by omega, rfl, .inl rfl, hr⟩
  · rcases hl with hl | hl
    · exact ⟨m + 1, to_b hx hk (by rw [hxb, hl]; exact h)⟩
    · obtain ⟨n, hn⟩ := h1.2 w1 m w2 e hl h
      exact ⟨n + 1, to_a hx (.inl hk) (by rw [hxa]; exact hn)⟩
def starL (L : List UInt8 → Prop) (w : List UInt8) : Prop := ∃ ls : List (List UInt8), (∀ l ∈ ls, L l) ∧ w = ls.flatten
def plusL (L : List UInt8 → Prop) (w : List UInt8) : Prop := ∃ ls : List (List UInt8), ls ≠ [] ∧ (∀ l ∈ ls, L l) ∧ w = ls.flatten
theorem starL.cons {u v : List UInt8} (h : L u) (k : starL L v) : starL L (u ++ v) := by
  obtain ⟨ls, h1, rfl⟩ := k
  exact ⟨u :: ls, by simpa using ⟨h, h1⟩, by simp⟩
theorem plusL.cons {u v : List UInt8} (h : L u) (k : plusL L v) : plusL L (u ++ v) := by
  obtain ⟨ls, h0, h1, rfl⟩ := k
  exact ⟨u :: ls, by simp, by simpa using ⟨h, h1⟩, by simp⟩
theorem Seg.star {x y : In} (hx : P[a]? = some x) (hk : x.kind = 2) (hxa : x.a = a + 1) (hxb : x.b = b + 1) (hy : P[b]? = some y) (hyk : y.kind = 3) (hya : y.a = a) (hab : a + 1 ≤ b) (h1 : Seg P (a + 1) b L) : Seg P a (b + 1) (starL L) := by
  constructor
  · intro n
    induction n using Nat.strongRecOn with
    | _ n ih =>
      intro w e h he
      obtain ⟨m, hm, hr⟩ := eps_fork hx hk h (by omega)
      rw [hxa, hxb] at hr
      rcases hr with hr | hr
      · obtain ⟨m2, u, v, hm2, rfl, hu, hr2⟩ := h1.1 m w e hr (by omega)
        obtain ⟨m3, hm3, hr3⟩ := eps_jump hy hyk hr2 (by omega)
        rw [hya] at hr3
        obtain ⟨m4, u2, v2, hm4, rfl, hu2, hr4⟩ := ih m3 (by omega) v e hr3 he
        exact ⟨m4, u ++ u2, v2, by omega, by simp, hu2.cons hu, hr4⟩
      · exact ⟨m, [], w, by omega, rfl, ⟨[], by simp, rfl⟩, hr⟩
  · rintro w1 m w2 e ⟨ls, hl, rfl⟩ h
    induction ls with
    | nil => exact ⟨m + 1, to_b hx hk (by rw [hxb]; exact h)⟩
    | cons l r ih =>
      obtain ⟨n, hn⟩ := ih (fun l hl' => hl l (by simp [hl']))
      obtain ⟨n2, hn2⟩ := h1.2 l (n + 1) (r.flatten ++ w2) e (hl l (by simp)) (to_a hy (.inr hyk) (by rw [hya]; exact hn))
      exact ⟨n2 + 1, by rw [List.flatten_cons, List.append_assoc]; exact to_a hx (.inl hk) (by rw [hxa]; exact hn2)⟩
theorem Seg.plus {x : In} (hx : P[b]? = some x) (hk : x.kind = 2) (hxa : x.a = a) (hxb : x.b = b + 1) (hab : a ≤ b) (h1 : Seg P a b L) : Seg P a (b + 1) (plusL L) := by
  constructor
  · intro n
    induction n using Nat.strongRecOn with
    | _ n ih =>
      intro w e h he
      obtain ⟨m, u, v, hm, rfl, hu, hr⟩ := h1.1 n w e h (by omega)
      obtain ⟨m2, hm2, hr2⟩ := eps_fork hx hk hr (by omega)
      rw [hxa, hxb] at hr2
      rcases hr2 with hr2 | hr2
      · obtain ⟨m4, u2, v2, hm4, rfl, hu2, hr4⟩ := ih m2 (by omega) v e hr2 he
        exact ⟨m4, u ++ u2, v2, by omega, by simp, hu2.cons hu, hr4⟩
      · exact ⟨m2, u, v, by omega, rfl, ⟨[u], by simp, by simpa using hu, by simp⟩, hr2⟩
  · rintro w1 m w2 e ⟨ls, h0, hl, rfl⟩ h
    induction ls with
    | nil => exact absurd rfl h0
    | cons l r ih =>
      cases r with
      | nil =>
        obtain ⟨n2, hn2⟩ := h1.2 l (m + 1) w2 e (hl l (by simp)) (to_b hx hk (by rw [hxb]; exact h))
        exact ⟨n2, by simpa using hn2⟩
      | cons l2 r2 =>
        obtain ⟨n, hn⟩ := ih (by simp) (fun l hl' => hl l (List.mem_cons_of_mem _ hl'))
        obtain ⟨n2, hn2⟩ := h1.2 l (n + 1) ((l2 :: r2).flatten ++ w2) e (hl l (by simp)) (to_a hx (.inl hk) (by rw [hxa]; exact hn))
        exact ⟨n2, by rw [List.flatten_cons, List.append_assoc]; exact hn2⟩
theorem Seg.congr (h : Seg P a b L1) (k : ∀ w, L1 w ↔ L2 w) : Seg P a b L2 := by
  have e : L1 = L2 := funext fun w => propext (k w)
  rw [← e]; exact h
end
mutual
/-- A tree's texts. -/
def langT : RT → List UInt8 → Prop
  | .node k kids S, w =>
    if k = 3 then ∃ c, w = [c] ∧ S c = true
    else if k = 1 then langC kids w
    else if k = 2 then langA kids w
    else if k = 5 then plusL (langO kids) w
    else if k = 4 then starL (langO kids) w
    else w = [] ∨ langO kids w
def langC : List RT → List UInt8 → Prop
  | [], w => w = []
  | a :: r, w => ∃ u v, w = u ++ v ∧ langT a u ∧ langC r v
def langA : List RT → List UInt8 → Prop
  | [], w => False
  | a :: r, w => langT a w ∨ langA r w
def langO : List RT → List UInt8 → Prop
  | [], w => False
  | a :: _, w => langT a w
end
/-- Code lies in a program. -/
def Lies (P : List In) (a : Nat) (c : List In) : Prop := ∀ k x, c[k]? = some x → P[a + k]? = some x
theorem Lies.left {P : List In} {a : Nat} {c d : List In} (h : Lies P a (c ++ d)) : Lies P a c := fun k x hk => h k x (by
  rw [List.getElem?_append_left (List.getElem?_eq_some_iff.1 hk).1]; exact hk)
theorem Lies.right {P : List In} {a : Nat} {c d : List In} (h : Lies P a (c ++ d)) : Lies P (a + c.length) d := fun k x hk => by
  rw [Nat.add_assoc]
  exact h (c.length + k) x (by rw [List.getElem?_append_right (by omega), Nat.add_sub_cancel_left]; exact hk)
theorem Lies.head {P : List In} {a : Nat} {x : In} {d : List In} (h : Lies P a (x :: d)) : P[a]? = some x := h 0 x rfl
theorem Lies.tail {P : List In} {a : Nat} {x : In} {d : List In} (h : Lies P a (x :: d)) : Lies P (a + 1) d := fun k y hk => by
  rw [show a + 1 + k = a + (k + 1) by omega]; exact h (k + 1) y hk
mutual
theorem seg_T (P : List In) : ∀ (t : RT) (n : Nat), okT t = true → Lies P n (codeT n t) → Seg P n (n + (codeT n t).length) (langT t)
  | .node k kids S, n, ok, h => by
    unfold okT at ok
    rw [Bool.and_eq_true] at ok
    obtain ⟨ok1, ok2⟩ := ok
    unfold codeT at h
    have e1 : langT (.node k kids S) = fun w => langT (.node k kids S) w := rfl
    rw [e1]
    unfold codeT
    unfold langT
    by_cases h3 : k = 3
    · simp only [if_pos h3] at h ⊢
      exact Seg.one h.head rfl
    simp only [if_neg h3] at h ⊢
    by_cases h1 : k = 1
    · simp only [if_pos h1] at h ⊢
      exact seg_C P kids n ok2 h
    simp only [if_neg h1] at h ⊢
    by_cases h2 : k = 2
    · simp only [if_pos h2] at h ⊢
      have hne : kids ≠ [] := by rintro rfl; subst h2; revert ok1; decide
      have hl := codeA_len (n + (codeA n 0 kids).length) 0 kids n
      have := seg_A P kids n (n + (codeA n 0 kids).length) ok2 hne (by rw [hl]) h
      rw [hl]
      exact this
    simp only [if_neg h2] at h ⊢
    have hko := seg_O P kids
    by_cases h5 : k = 5
    · simp only [if_pos h5] at h ⊢
      have hne : kids ≠ [] := by rintro rfl; subst h5; revert ok1; decide
      rw [List.length_append, List.length_singleton, ← Nat.add_assoc]
      exact Seg.plus h.right.head rfl rfl rfl (by omega) (hko n ok2 hne h.left)
    simp only [if_neg h5] at h ⊢
    have hne : kids ≠ [] := by
      rintro rfl
      simp [h1, h2, h3, h5] at ok1
    by_cases h4 : k = 4
    · simp only [if_pos h4] at h ⊢
      rw [List.length_cons, List.length_append, List.length_singleton, show n + ((codeO (n + 1) kids).length + 1 + 1) = n + 1 + (codeO (n + 1) kids).length + 1 by omega]
      exact Seg.star h.head rfl rfl (by show n + (codeO (n + 1) kids).length + 2 = n + 1 + (codeO (n + 1) kids).length + 1; omega) h.tail.right.head rfl rfl (by omega) (hko (n + 1) ok2 hne h.tail.left)
    · simp only [if_neg h4] at h ⊢
      rw [List.length_cons, show n + ((codeO (n + 1) kids).length + 1) = n + 1 + (codeO (n + 1) kids).length by omega]
      exact Seg.opt h.head rfl rfl (by show n + (codeO (n + 1) kids).length + 1 = n + 1 + (codeO (n + 1) kids).length; omega) (by omega) (hko (n + 1) ok2 hne h.tail)
theorem seg_C (P : List In) : ∀ (l : List RT) (n : Nat), oksT l = true → Lies P n (codeC n l) → Seg P n (n + (codeC n l).length) (langC l)
  | [], n, ok, h => by
    have e : langC [] = fun w => w = [] := by funext w; unfold langC; rfl
    rw [e]
    unfold codeC
    exact Seg.nil
  | a :: r, n, ok, h => by
    unfold oksT at ok
    rw [Bool.and_eq_true] at ok
    have e : langC (a :: r) = fun w => ∃ u v, w = u ++ v ∧ langT a u ∧ langC r v := by funext w; rw [langC]
    rw [e]
    unfold codeC at h ⊢
    rw [List.length_append, ← Nat.add_assoc]
    exact Seg.cat (by omega) (by omega) (seg_T P a n ok.1 h.left) (seg_C P r _ ok.2 h.right)
theorem seg_A (P : List In) : ∀ (l : List RT) (n e : Nat), oksT l = true → l ≠ [] → e = n + (codeA n e l).length → Lies P n (codeA n e l) → Seg P n e (langA l)
  | [], n, e, ok, hne, he, h => absurd rfl hne
  | a :: r, n, e, ok, hne, he, h => by
    unfold oksT at ok
    rw [Bool.and_eq_true] at ok
    have el : langA (a :: r) = fun w => langT a w ∨ langA r w := by funext w; rw [langA]
    rw [el]
    unfold codeA at h he
    by_cases hr : r.isEmpty = true
    · rw [if_pos hr] at h he
      have hr2 : r = [] := List.isEmpty_iff.1 hr
      subst hr2
      rw [he]
      refine (seg_T P a n ok.1 h).congr fun w => ?_
      unfold langA
      simp
    · rw [if_neg hr] at h he
      have hr2 : r ≠ [] := fun e => hr (List.isEmpty_iff.2 e)
      rw [List.length_cons, List.length_append, List.length_cons] at he
      obtain ⟨cl, hcl⟩ : ∃ cl, (codeT (n + 1) a).length = cl := ⟨_, rfl⟩
      have hT := seg_T P a (n + 1) ok.1 h.tail.left
      have hJ := h.tail.right.head
      have hR := h.tail.right.tail
      have hF := h.head
      rw [hcl] at hT hJ hR hF he
      have hA := seg_A P r (n + cl + 2) e ok.2 hr2 (by omega) (by rw [show n + 1 + cl + 1 = n + cl + 2 by omega] at hR; exact hR)
      rw [show n + cl + 2 = n + 1 + cl + 1 by omega] at hA
      exact Seg.alt hF rfl rfl (by show n + cl + 2 = n + 1 + cl + 1; omega) hJ rfl rfl (by omega) (by omega) hT hA
theorem seg_O (P : List In) : ∀ (l : List RT) (n : Nat), oksT l = true → l ≠ [] → Lies P n (codeO n l) → Seg P n (n + (codeO n l).length) (langO l)
  | [], n, ok, hne, h => absurd rfl hne
  | a :: r, n, ok, hne, h => by
    unfold oksT at ok
    rw [Bool.and_eq_true] at ok
    have el : langO (a :: r) = langT a := by funext w; rw [langO]
    rw [el]
    unfold codeO at h ⊢
    exact seg_T P a n ok.1 h
end
end Go.Proofs.YtnnfhcbopchodaaDoor
namespace Go.Proofs.YtnnfhcbopchodaaDoor
open Go Go.RowKit
set_option linter.unusedVariables false
set_option linter.unusedSimpArgs false
def BdI (h : Nat) (x : In) : Prop := x.a ≤ h ∧ x.b ≤ h
theorem BdI.mono {h k : Nat} {x : In} (hx : BdI h x) (hk : h ≤ k) : BdI k x := ⟨Nat.le_trans hx.1 hk, Nat.le_trans hx.2 hk⟩
mutual
theorem bd_T : ∀ (t : RT) (n : Nat), ∀ x ∈ codeT n t, BdI (n + (codeT n t).length) x
  | .node k kids S, n, x, hx => by
    have hC := bd_C kids n x
    have hA := bd_A kids n (n + (codeA n 0 kids).length) (by rw [codeA_len _ 0]; exact Nat.le_refl _) x
    have hO := bd_O kids n x
    have hO1 := bd_O kids (n + 1) x
    unfold codeT at hx ⊢
    split at hx
    · rw [if_pos (by assumption)]
      rw [List.mem_singleton.1 hx]
      exact ⟨Nat.zero_le _, Nat.zero_le _⟩
    rw [if_neg (by assumption)]
    split at hx
    · rw [if_pos (by assumption)]; exact hC hx
    rw [if_neg (by assumption)]
    split at hx
    · rw [if_pos (by assumption), codeA_len _ 0]; exact hA hx
    rw [if_neg (by assumption)]
    split at hx
    · rw [if_pos (by assumption), List.length_append, List.length_singleton]
      rcases List.mem_append.1 hx with h | h
      · exact (hO h).mono (by omega)
      · rw [List.mem_singleton.1 h]
        exact ⟨by show n ≤ _; omega, by show n + (codeO n kids).length + 1 ≤ _; omega⟩
    rw [if_neg (by assumption)]
    split at hx
    · rw [if_pos (by assumption), List.length_cons, List.length_append, List.length_singleton]
      rcases List.mem_cons.1 hx with h | h
      · rw [h]
        exact ⟨by show n + 1 ≤ _; omega, by show n + (codeO (n + 1) kids).length + 2 ≤ _; omega⟩
      · rcases List.mem_append.1 h with h | h
        · exact (hO1 h).mono (by omega)
        · rw [List.mem_singleton.1 h]
          exact ⟨by show n ≤ _; omega, Nat.zero_le _⟩
    · rw [if_neg (by assumption), List.length_cons]
      rcases List.mem_cons.1 hx with h | h
      · rw [h]
        exact ⟨by show n + 1 ≤ _; omega, by show n + (codeO (n + 1) kids).length + 1 ≤ _; omega⟩
      · exact (hO1 h).mono (by omega)
theorem bd_C : ∀ (l : List RT) (n : Nat), ∀ x ∈ codeC n l, BdI (n + (codeC n l).length) x
  | [], n, x, hx => by unfold codeC at hx; cases hx
  | a :: r, n, x, hx => by
    have h1 := bd_T a n x
    have h2 := bd_C r (n + (codeT n a).length) x
    unfold codeC at hx ⊢
    rw [List.length_append]
    rcases List.mem_append.1 hx with h | h
    · exact (h1 h).mono (by omega)
    · exact (h2 h).mono (by omega)
theorem bd_A : ∀ (l : List RT) (n e : Nat), n + (codeA n e l).length ≤ e → ∀ x ∈ codeA n e l, BdI e x
  | [], n, e, he, x, hx => by unfold codeA at hx; cases hx
  | a :: r, n, e, he, x, hx => by
    have h1 := bd_T a n x
    have h2 := bd_T a (n + 1) x
    have h3 := bd_A r (n + (codeT (n + 1) a).length + 2) e
    unfold codeA at hx he
    split at hx
    · rw [if_pos (by assumption)] at he
      exact (h1 hx).mono (by omega)
    · rw [if_neg (by assumption), List.length_cons, List.length_append, List.length_cons] at he
      rcases List.mem_cons.1 hx with h | h
      · rw [h]
        exact ⟨by show n + 1 ≤ _; omega, by show n + (codeT (n + 1) a).length + 2 ≤ _; omega⟩
      · rcases List.mem_append.1 h with h | h
        · exact (h2 h).mono (by omega)
        · rcases List.mem_cons.1 h with h | h
          · rw [h]
            exact ⟨Nat.le_refl _, Nat.zero_le _⟩
          · exact h3 (by omega) x h
theorem bd_O : ∀ (l : List RT) (n : Nat), ∀ x ∈ codeO n l, BdI (n + (codeO n l).length) x
  | [], n, x, hx => by unfold codeO at hx; cases hx
  | a :: r, n, x, hx => by
    have h1 := bd_T a n x
    unfold codeO at hx ⊢
    exact h1 hx
end
/-- A program all of whose places lie in it, the last of which is the end. -/
structure WfP (P : List In) : Prop where
  inside : ∀ x ∈ P, x.a < P.length ∧ x.b < P.length
  last : ∃ x, P[P.length - 1]? = some x ∧ x.kind = 4
theorem progP_eq (t : RT) : progP t = codeT 0 t ++ [⟨4, noS, 0, 0⟩] := by
  unfold progP
  rw [emitP_eq]
  rfl
theorem progP_wf (t : RT) : WfP (progP t) := by
  rw [progP_eq]
  refine ⟨fun x hx => ?_, ⟨4, noS, 0, 0⟩, ?_, rfl⟩
  · rw [List.length_append, List.length_singleton]
    rcases List.mem_append.1 hx with h | h
    · have := bd_T t 0 x h
      unfold BdI at this
      omega
    · rw [List.mem_singleton.1 h]
      exact ⟨Nat.succ_pos _, Nat.succ_pos _⟩
  · rw [List.length_append, List.length_singleton, Nat.add_sub_cancel, List.getElem?_append_right (Nat.le_refl _), Nat.sub_self]
    rfl
def On (d : List Bool) (k : Nat) : Prop := d[k]? = some true
def offs : List Bool → Nat
  | [] => 0
  | b :: r => (if b = true then 0 else 1) + offs r
theorem offs_le : ∀ d : List Bool, offs d ≤ d.length
  | [] => Nat.le_refl _
  | b :: r => by have := offs_le r; unfold offs; rw [List.length_cons]; split <;> omega
theorem offs_set : ∀ (d : List Bool) (k : Nat), d[k]? = some false → offs (d.set k true) + 1 = offs d
  | [], k, h => by cases h
  | b :: r, 0, h => by
    have h : some b = some false := h
    injection h with h
    subst h
    show offs (true :: r) + 1 = offs (false :: r)
    unfold offs
    simp
    omega
  | b :: r, k + 1, h => by
    have := offs_set r k h
    show offs (b :: r.set k true) + 1 = _
    unfold offs
    omega
theorem on_set {d : List Bool} {k j : Nat} (hk : k < d.length) : On (d.set k true) j ↔ On d j ∨ j = k := by
  unfold On
  rw [List.getElem?_set]
  by_cases h : k = j
  · subst h
    rw [if_pos rfl, if_pos hk]
    simp
  · rw [if_neg h]
    constructor
    · exact .inl
    · rintro (h2 | h2)
      · exact h2
      · exact absurd h2.symm h
def tgs (i : In) (ws : List Nat) : List Nat := if i.kind = 2 then i.b :: i.a :: ws else if i.kind = 3 then i.a :: ws else ws
theorem tgs_len (i : In) (ws : List Nat) : (tgs i ws).length ≤ ws.length + 2 := by
  unfold tgs
  split
  · simp
  · split <;> simp
theorem tgs_mem {P : List In} {k : Nat} {i : In} (hi : P[k]? = some i) (ws : List Nat) (j : Nat) : j ∈ tgs i ws ↔ j ∈ ws ∨ Eps P k j := by
  have e : Eps P k j ↔ ((i.kind = 2 ∧ (j = i.a ∨ j = i.b)) ∨ (i.kind = 3 ∧ j = i.a)) := by
    constructor
    · rintro ⟨x, hx, h⟩
      rw [hi] at hx
      injection hx with hx
      subst hx
      exact h
    · exact fun h => ⟨i, hi, h⟩
  rw [e]
  unfold tgs
  by_cases h2 : i.kind = 2
  · rw [if_pos h2]
    simp [h2]
    constructor
    · rintro (h | h | h)
      · exact .inr (.inr h)
      · exact .inr (.inl h)
      · exact .inl h
    · rintro (h | h | h)
      · exact .inr (.inr h)
      · exact .inr (.inl h)
      · exact .inl h
  · rw [if_neg h2]
    by_cases h3 : i.kind = 3
    · rw [if_pos h3]
      simp [h3]
      constructor
      · rintro (h | h)
        · exact .inr h
        · exact .inl h
      · rintro (h | h)
        · exact .inr h
        · exact .inl h
    · rw [if_neg h3]
      simp [h2, h3]
def ClosedP (P : List In) (d : List Bool) : Prop := ∀ i j, On d i → Eps P i j → On d j
theorem closed_run {P : List In} {d : List Bool} (hc : ClosedP P d) {n k x : Nat} {w : List UInt8} (h : Run P n k w x) : w = [] → On d k → On d x := by
  induction h with
  | refl i => exact fun _ h => h
  | eps h r ih => exact fun hw hk => ih hw (hc _ _ hk h)
  | eat h r ih => exact fun hw => by cases hw
theorem run_trans {P : List In} {n k x : Nat} {w : List UInt8} (h : Run P n k w x) : w = [] → ∀ {m e : Nat} {v : List UInt8}, Run P m x v e → ∃ q, Run P q k v e := by
  induction h with
  | refl i => exact fun _ m e v h => ⟨m, h⟩
  | eps h r ih =>
    intro hw m e v h2
    obtain ⟨q, hq⟩ := ih hw h2
    exact ⟨q + 1, .eps h hq⟩
  | eat h r ih => exact fun hw => by cases hw
theorem first_eat {P : List In} {d : List Bool} (hc : ClosedP P d) {n k e : Nat} {w : List UInt8} (h : Run P n k w e) : ∀ {c : UInt8} {v : List UInt8}, w = c :: v → On d k → ∃ i, On d i ∧ Eat P i c ∧ ∃ m, Run P m (i + 1) v e := by
  induction h with
  | refl i => exact fun hw => by cases hw
  | eps h r ih => exact fun hw hk => ih hw (hc _ _ hk h)
  | @eat n i k c' w h r ih =>
    intro c v hw hk
    injection hw with h1 h2
    subst h1
    subst h2
    exact ⟨i, hk, h, n, r⟩
theorem reach_go {P : List In} (hP : WfP P) : ∀ (f : Nat) (d : List Bool) (ws : List Nat), d.length = P.length → (∀ k ∈ ws, k < P.length) → ws.length + 3 * offs d < f → (∀ i j, On d i → Eps P i j → On d j ∨ j ∈ ws) →
    ∃ r, reachP P f d ws = some r ∧ r.length = P.length ∧ ClosedP P r ∧ (∀ k, On d k → On r k) ∧ (∀ k ∈ ws, On r k) ∧ (∀ k, On r k → On d k ∨ ∃ j ∈ ws, ∃ n, Run P n j [] k)
  | 0, d, ws, hd, hw, hf, hc => by omega
  | f + 1, d, [], hd, hw, hf, hc => by
    refine ⟨d, rfl, hd, fun i j h1 h2 => ?_, fun k h => h, fun k h => (by cases h), fun k h => .inl h⟩
    rcases hc i j h1 h2 with h | h
    · exact h
    · cases h
  | f + 1, d, k :: ws, hd, hw, hf, hc => by
    have hk := hw k (by simp)
    obtain ⟨i, hi⟩ : ∃ i, P[k]? = some i := ⟨_, List.getElem?_eq_getElem hk⟩
    obtain ⟨b, hb⟩ : ∃ b, d[k]? = some b := ⟨_, List.getElem?_eq_getElem (by omega)⟩
    rw [List.length_cons] at hf
    unfold reachP
    rw [hi, hb]
    cases b with
    | true =>
      simp only [if_true]
      obtain ⟨r, h1, h2, h3, h4, h5, h6⟩ := reach_go hP f d ws hd (fun j hj => hw j (by simp [hj])) (by omega) (fun i j h1 h2 => by
        rcases hc i j h1 h2 with h | h
        · exact .inl h
        · rcases List.mem_cons.1 h with h | h
          · exact .inl (by rw [h]; exact hb)
          · exact .inr h)
      refine ⟨r, h1, h2, h3, h4, fun x hx => ?_, fun x hx => ?_⟩
      · rcases List.mem_cons.1 hx with h | h
        · exact h4 x (by rw [h]; exact hb)
        · exact h5 x h
      · rcases h6 x hx with h | ⟨j, hj, h⟩
        · exact .inl h
        · exact .inr ⟨j, by simp [hj], h⟩
    | false =>
      have hkd : k < d.length := by omega
      have ho := offs_set d k hb
      have hl := tgs_len i ws
      show ∃ r, reachP P f (d.set k true) (tgs i ws) = some r ∧ _
      obtain ⟨r, h1, h2, h3, h4, h5, h6⟩ := reach_go hP f (d.set k true) (tgs i ws) (by rw [List.length_set]; exact hd) (fun j hj => by
        rcases (tgs_mem hi ws j).1 hj with h | ⟨x, hx, h⟩
        · exact hw j (by simp [h])
        · rw [hi] at hx
          injection hx with hx
          subst hx
          have := hP.inside i (List.mem_of_getElem? hi)
          omega) (by omega) (fun x y h1 h2 => by
        rcases (on_set hkd).1 h1 with h | h
        · rcases hc x y h h2 with h | h
          · exact .inl ((on_set hkd).2 (.inl h))
          · rcases List.mem_cons.1 h with h | h
            · exact .inl ((on_set hkd).2 (.inr h))
            · exact .inr ((tgs_mem hi ws y).2 (.inl h))
        · rw [h] at h2
          exact .inr ((tgs_mem hi ws y).2 (.inr h2)))
      refine ⟨r, h1, h2, h3, fun x hx => h4 x ((on_set hkd).2 (.inl hx)), fun x hx => ?_, fun x hx => ?_⟩
      · rcases List.mem_cons.1 hx with h | h
        · exact h4 x ((on_set hkd).2 (.inr h))
        · exact h5 x ((tgs_mem hi ws x).2 (.inl h))
      · rcases h6 x hx with h | ⟨j, hj, n, hn⟩
        · rcases (on_set hkd).1 h with h | h
          · exact .inl h
          · exact .inr ⟨k, by simp, 0, by rw [h]; exact .refl k⟩
        · rcases (tgs_mem hi ws j).1 hj with h | h
          · exact .inr ⟨j, by simp [h], n, hn⟩
          · exact .inr ⟨k, by simp, n + 1, .eps h hn⟩
theorem reach_ok {P : List In} (hP : WfP P) {d : List Bool} {k : Nat} (hd : d.length = P.length) (hk : k < P.length) (hc : ClosedP P d) :
    ∃ r, reachP P (fuelR P) d [k] = some r ∧ r.length = P.length ∧ ClosedP P r ∧ (∀ x, On r x ↔ On d x ∨ ∃ n, Run P n k [] x) := by
  have ho := offs_le d
  obtain ⟨r, h1, h2, h3, h4, h5, h6⟩ := reach_go hP (fuelR P) d [k] hd (fun j hj => by rw [List.mem_singleton.1 hj]; exact hk) (by unfold fuelR; rw [List.length_singleton]; omega) (fun i j h1 h2 => .inl (hc i j h1 h2))
  refine ⟨r, h1, h2, h3, fun x => ⟨fun h => ?_, fun h => ?_⟩⟩
  · rcases h6 x h with h | ⟨j, hj, h⟩
    · exact .inl h
    · rw [List.mem_singleton.1 hj] at h
      exact .inr h
  · rcases h with h | ⟨n, hn⟩
    · exact h4 x h
    · exact closed_run h3 hn rfl (h5 k (by simp))
theorem eat_in {P : List In} (hP : WfP P) {k : Nat} {c : UInt8} (h : Eat P k c) : k + 1 < P.length := by
  obtain ⟨x, hx, h1, h2⟩ := h
  have hk := (List.getElem?_eq_some_iff.1 hx).1
  obtain ⟨y, hy, hy4⟩ := hP.last
  rcases Nat.lt_or_ge (k + 1) P.length with h | h
  · exact h
  · rw [show P.length - 1 = k by omega, hx] at hy
    injection hy with hy
    subst hy
    omega
theorem sweep_ok {P : List In} (hP : WfP P) {d : List Bool} (c : UInt8) (hd : d.length = P.length) : ∀ (f k : Nat) (nx : List Bool), k + f = P.length → nx.length = P.length → ClosedP P nx →
    ∃ r, sweepP P d c f k nx = some r ∧ r.length = P.length ∧ ClosedP P r ∧ (∀ x, On r x ↔ On nx x ∨ ∃ i, k ≤ i ∧ On d i ∧ Eat P i c ∧ ∃ n, Run P n (i + 1) [] x)
  | 0, k, nx, hk, hn, hc => by
    refine ⟨nx, rfl, hn, hc, fun x => ⟨.inl, ?_⟩⟩
    rintro (h | ⟨i, hi, h1, h2, h3⟩)
    · exact h
    · have := eat_in hP h2
      omega
  | f + 1, k, nx, hk, hn, hc => by
    obtain ⟨i, hi⟩ : ∃ i, P[k]? = some i := ⟨_, List.getElem?_eq_getElem (by omega)⟩
    obtain ⟨b, hb⟩ : ∃ b, d[k]? = some b := ⟨_, List.getElem?_eq_getElem (by omega)⟩
    unfold sweepP
    rw [hi, hb]
    simp only
    by_cases h : b = true ∧ i.kind = 1 ∧ i.set c = true
    · rw [if_pos h]
      obtain ⟨rfl, h1, h2⟩ := h
      have he : Eat P k c := ⟨i, hi, h1, h2⟩
      obtain ⟨n2, g1, g2, g3, g4⟩ := reach_ok hP hn (eat_in hP he) hc
      rw [g1]
      simp only
      obtain ⟨r, k1, k2, k3, k4⟩ := sweep_ok hP c hd f (k + 1) n2 (by omega) g2 g3
      refine ⟨r, k1, k2, k3, fun x => ?_⟩
      rw [k4, g4]
      constructor
      · rintro ((h | h) | ⟨i, h1, h2⟩)
        · exact .inl h
        · exact .inr ⟨k, Nat.le_refl _, hb, he, h⟩
        · exact .inr ⟨i, by omega, h2⟩
      · rintro (h | ⟨j, h1, h2, h3, h4⟩)
        · exact .inl (.inl h)
        · rcases Nat.eq_or_lt_of_le h1 with h | h
          · rw [← h] at h4; exact .inl (.inr h4)
          · exact .inr ⟨j, h, h2, h3, h4⟩
    · rw [if_neg h]
      obtain ⟨r, k1, k2, k3, k4⟩ := sweep_ok hP c hd f (k + 1) nx (by omega) hn hc
      refine ⟨r, k1, k2, k3, fun x => ?_⟩
      rw [k4]
      constructor
      · rintro (h | ⟨i, h1, h2⟩)
        · exact .inl h
        · exact .inr ⟨i, by omega, h2⟩
      · rintro (h' | ⟨j, h1, h2, h3, h4⟩)
        · exact .inl h'
        · rcases Nat.eq_or_lt_of_le h1 with h' | h'
          · exfalso
            rw [← h'] at h2 h3
            obtain ⟨y, hy, h5, h6⟩ := h3
            rw [hi] at hy
            injection hy with hy
            subst hy
            have h2 : d[k]? = some true := h2
            rw [hb] at h2
            injection h2 with h2
            exact h ⟨h2, h5, h6⟩
          · exact .inr ⟨j, h', h2, h3, h4⟩
theorem off_none (n k : Nat) : ¬ On (List.replicate n false) k := by
  unfold On
  rw [List.getElem?_replicate]
  split
  · simp
  · simp
theorem off_closed (P : List In) (n : Nat) : ClosedP P (List.replicate n false) := fun i j h => absurd h (off_none n i)
theorem run_ok {P : List In} (hP : WfP P) : ∀ (w : List UInt8) (d : List Bool), d.length = P.length → ClosedP P d → ∃ r, runP P d w = some r ∧ (r = true ↔ ∃ k n, On d k ∧ Run P n k w (P.length - 1))
  | [], d, hd, hc => by
    obtain ⟨y, hy, -⟩ := hP.last
    have hl := (List.getElem?_eq_some_iff.1 hy).1
    obtain ⟨r, hr⟩ : ∃ r, d[P.length - 1]? = some r := ⟨_, List.getElem?_eq_getElem (by omega)⟩
    refine ⟨r, hr, fun h => ?_, ?_⟩
    · subst h
      exact ⟨P.length - 1, 0, hr, .refl _⟩
    · rintro ⟨k, n, h1, h2⟩
      have h3 : d[P.length - 1]? = some true := closed_run hc h2 rfl h1
      rw [hr] at h3
      injection h3
  | c :: w, d, hd, hc => by
    obtain ⟨d2, h1, h2, h3, h4⟩ := sweep_ok hP c hd P.length 0 (List.replicate P.length false) (by omega) (by simp) (off_closed _ _)
    obtain ⟨r, k1, k2⟩ := run_ok hP w d2 h2 h3
    refine ⟨r, ?_, ?_⟩
    · unfold runP
      rw [h1]
      exact k1
    · rw [k2]
      constructor
      · rintro ⟨k, n, g1, g2⟩
        rcases (h4 k).1 g1 with h | ⟨i, -, e1, e2, m, e3⟩
        · exact absurd h (off_none _ _)
        · obtain ⟨q, hq⟩ := run_trans e3 rfl g2
          exact ⟨i, q + 1, e1, .eat e2 hq⟩
      · rintro ⟨k, n, g1, g2⟩
        obtain ⟨i, e1, e2, m, e3⟩ := first_eat hc g2 rfl g1
        exact ⟨i + 1, m, (h4 _).2 (.inr ⟨i, Nat.zero_le _, e1, e2, 0, .refl _⟩), e3⟩
/-- Match answers whether the text is one of the tree's. -/
theorem match_ok (t : RT) (ok : okT t = true) (b : List UInt8) : ∃ r, matchP t b = some r ∧ (r = true ↔ langT t b) := by
  have hP := progP_wf t
  have hlen : (progP t).length = (codeT 0 t).length + 1 := by rw [progP_eq]; simp
  obtain ⟨d, h1, h2, h3, h4⟩ := reach_ok hP (d := List.replicate (progP t).length false) (k := 0) (by simp) (by omega) (off_closed _ _)
  obtain ⟨r, k1, k2⟩ := run_ok hP b d h2 h3
  refine ⟨r, ?_, ?_⟩
  · unfold matchP
    rw [h1]
    exact k1
  · rw [k2]
    have hlies : Lies (progP t) 0 (codeT 0 t) := by
      rw [progP_eq]
      exact Lies.left (d := [⟨4, noS, 0, 0⟩]) (fun k x hx => by rw [Nat.zero_add]; exact hx)
    have hS := seg_T (progP t) t 0 ok hlies
    rw [Nat.zero_add] at hS
    have hend : (progP t)[(codeT 0 t).length]? = some ⟨4, noS, 0, 0⟩ := by
      rw [progP_eq, List.getElem?_append_right (Nat.le_refl _), Nat.sub_self]
      rfl
    have he : (progP t).length - 1 = (codeT 0 t).length := by omega
    rw [he]
    constructor
    · rintro ⟨k, n, g1, g2⟩
      rcases (h4 k).1 g1 with h | ⟨m, hm⟩
      · exact absurd h (off_none _ _)
      · obtain ⟨q, hq⟩ := run_trans hm rfl g2
        obtain ⟨m2, w1, w2, -, rfl, hL, hr⟩ := hS.1 q b _ hq (.inr (Nat.le_refl _))
        cases hr with
        | refl => rw [List.append_nil]; exact hL
        | eps h r =>
          obtain ⟨x, hx, h⟩ := h
          rw [hend] at hx
          injection hx with hx
          subst hx
          rcases h with ⟨h, -⟩ | ⟨h, -⟩ <;> cases h
        | eat h r =>
          obtain ⟨x, hx, h, -⟩ := h
          rw [hend] at hx
          injection hx with hx
          subst hx
          cases h
    · intro hL
      obtain ⟨n, hn⟩ := hS.2 b 0 [] (codeT 0 t).length hL (.refl _)
      rw [List.append_nil] at hn
      exact ⟨0, n, (h4 0).2 (.inr ⟨0, .refl _⟩), hn⟩
end Go.Proofs.YtnnfhcbopchodaaDoor
namespace Go.Proofs.YtnnfhcbopchodaaDoor
open Go Go.RowKit
set_option linter.unusedVariables false
set_option linter.unusedSimpArgs false
def byteT (c : UInt8) : RT := .node 3 [] (oneS c)
def allT : RT := .node 3 [] (fun _ => true)
def wordT (w : List UInt8) : RT := .node 1 (w.map byteT) noS
/-- A piece's tree, a node's. -/
def treeP (p : Pc) : RT :=
  if p.kind = 0 then byteT p.text else if p.kind = 2 then allT else if p.kind = 3 then .node 4 [allT] noS else if p.kind = 4 then .node 2 (p.words.map wordT) noS else .node 3 [] p.set
def treeN (ps : List Pc) : RT := .node 2 [.node 1 (ps.map treeP) noS] noS
theorem oksT_map {α : Type} (f : α → RT) : ∀ l : List α, (∀ x ∈ l, okT (f x) = true) → oksT (l.map f) = true
  | [], h => by rw [List.map_nil, oksT]
  | a :: r, h => by
    rw [List.map_cons, oksT, h a (by simp), oksT_map f r (fun x hx => h x (by simp [hx]))]
    rfl
theorem ok_set (S : UInt8 → Bool) : okT (.node 3 [] S) = true := by
  rw [okT, oksT]; rfl
theorem ok_word (w : List UInt8) : okT (wordT w) = true := by
  unfold wordT
  rw [okT, oksT_map byteT _ (fun c _ => ok_set _)]
  rfl
theorem ok_piece (p : Pc) (h : p.kind = 4 → p.words ≠ []) : okT (treeP p) = true := by
  unfold treeP
  split
  · exact ok_set _
  split
  · exact ok_set _
  split
  · rw [okT, oksT, oksT, show okT allT = true from ok_set _]; rfl
  split
  · rename_i h4
    have hne := h h4
    rw [okT, oksT_map wordT _ (fun w _ => ok_word w)]
    cases hw : p.words with
    | nil => exact absurd hw hne
    | cons a r => rfl
  · exact ok_set _
theorem ok_node (ps : List Pc) (h : ∀ p ∈ ps, p.kind = 4 → p.words ≠ []) : okT (treeN ps) = true := by
  unfold treeN
  rw [okT, oksT, oksT, okT, oksT_map treeP _ (fun p hp => ok_piece p (h p hp))]
  rfl
theorem lang_set (S : UInt8 → Bool) (w : List UInt8) : langT (.node 3 [] S) w ↔ ∃ c, w = [c] ∧ S c = true := by
  rw [langT, if_pos rfl]
theorem lang_byte (c : UInt8) (w : List UInt8) : langT (byteT c) w ↔ w = [c] := by
  unfold byteT
  rw [lang_set]
  constructor
  · rintro ⟨d, rfl, h⟩
    rw [show d = c by simpa [oneS] using h]
  · rintro rfl
    exact ⟨c, rfl, by simp [oneS]⟩
theorem lang_bytes : ∀ (l w : List UInt8), langC (l.map byteT) w ↔ w = l
  | [], w => by rw [List.map_nil, langC]
  | a :: r, w => by
    rw [List.map_cons, langC]
    constructor
    · rintro ⟨u, v, rfl, hu, hv⟩
      rw [(lang_byte a u).1 hu, (lang_bytes r v).1 hv]
      rfl
    · rintro rfl
      exact ⟨[a], r, rfl, (lang_byte a _).2 rfl, (lang_bytes r r).2 rfl⟩
theorem lang_word (l w : List UInt8) : langT (wordT l) w ↔ w = l := by
  unfold wordT
  rw [langT, if_neg (by decide), if_pos rfl]
  exact lang_bytes l w
theorem lang_words : ∀ (ws : List (List UInt8)) (w : List UInt8), langA (ws.map wordT) w ↔ w ∈ ws
  | [], w => by rw [List.map_nil, langA]; simp
  | a :: r, w => by rw [List.map_cons, langA, lang_word, lang_words r, List.mem_cons]
theorem lang_many (w : List UInt8) : langT (.node 4 [allT] noS) w := by
  rw [langT, if_neg (by decide), if_neg (by decide), if_neg (by decide), if_neg (by decide), if_pos rfl]
  refine ⟨w.map fun c => [c], fun l hl => ?_, ?_⟩
  · obtain ⟨c, -, rfl⟩ := List.mem_map.1 hl
    rw [langO]
    exact (lang_set _ _).2 ⟨c, rfl, rfl⟩
  · induction w with
    | nil => rfl
    | cons a r ih => rw [List.map_cons, List.flatten_cons, ← ih]; rfl
theorem langC_snoc (a : RT) : ∀ (l : List RT) (w : List UInt8), langC (l ++ [a]) w ↔ ∃ u v, w = u ++ v ∧ langC l u ∧ langT a v
  | [], w => by
    rw [List.nil_append, langC]
    constructor
    · rintro ⟨u, v, rfl, hu, hv⟩
      rw [langC] at hv
      subst hv
      exact ⟨[], u, by simp, by rw [langC], hu⟩
    · rintro ⟨u, v, rfl, hu, hv⟩
      rw [langC] at hu
      subst hu
      exact ⟨v, [], by simp, hv, by rw [langC]⟩
  | b :: r, w => by
    rw [List.cons_append, langC]
    constructor
    · rintro ⟨u, v, rfl, hu, hv⟩
      obtain ⟨u2, v2, rfl, h1, h2⟩ := (langC_snoc a r v).1 hv
      exact ⟨u ++ u2, v2, by simp, by rw [langC]; exact ⟨u, u2, rfl, hu, h1⟩, h2⟩
    · rintro ⟨u, v, rfl, hu, hv⟩
      rw [langC] at hu
      obtain ⟨u2, v2, rfl, h1, h2⟩ := hu
      exact ⟨u2, v2 ++ v, by simp, h1, (langC_snoc a r _).2 ⟨v2, v, rfl, h2, hv⟩⟩
/-- One piece's texts. -/
theorem lang_piece_one {p : Pc} (h3 : p.kind ≠ 3) (h4 : p.kind ≠ 4) (hk : p.kind ≤ 4) (w : List UInt8) : langT (treeP p) w ↔ ∃ c, w = [c] ∧ byteOk p c = true := by
  unfold treeP byteOk
  by_cases h0 : p.kind = 0
  · rw [if_pos h0, lang_byte]
    rw [h0]
    constructor
    · rintro rfl
      exact ⟨_, rfl, by simp⟩
    · rintro ⟨c, rfl, h⟩
      have : p.text = c := by simpa using h
      rw [this]
  · rw [if_neg h0]
    by_cases h2 : p.kind = 2
    · rw [if_pos h2]
      unfold allT
      rw [lang_set, h2]
      simp
    · rw [if_neg h2, if_neg h3, if_neg h4, lang_set, show p.kind = 1 by omega]
      simp
theorem now_lang (s : List UInt8) : ∀ (n : Nat) (ps : List Pc), ps.length = n → (∀ p ∈ ps, p.kind ≤ 4) → ∀ j, j ≤ s.length → (nowB ps s j = true ↔ langC (ps.map treeP) (s.take j))
  | 0, ps, hn, hk, j, hj => by
    obtain rfl := List.eq_nil_of_length_eq_zero hn
    rw [List.map_nil, langC]
    show startB j = true ↔ _
    unfold startB
    rw [beq_iff_eq, List.take_eq_nil_iff]
    constructor
    · exact .inl
    · rintro (h | h)
      · exact h
      · rw [h] at hj; exact Nat.le_zero.1 hj
  | n + 1, ps, hn, hk, j, hj => by
    obtain ⟨qs, p, rfl⟩ : ∃ qs p, ps = qs ++ [p] := ⟨ps.dropLast, ps.getLast (by rintro rfl; cases hn), (List.dropLast_concat_getLast _).symm⟩
    have hq : qs.length = n := by simpa using hn
    have ih := now_lang s n qs hq (fun x hx => hk x (by simp [hx]))
    have hp := hk p (by simp)
    rw [nowB_snoc, List.map_append, List.map_singleton, langC_snoc]
    unfold stepB
    by_cases h3 : p.kind = 3
    · rw [if_pos h3, List.any_eq_true]
      have hl : ∀ v, langT (treeP p) v := fun v => by
        unfold treeP
        rw [if_neg (by omega), if_neg (by omega), if_pos h3]
        exact lang_many v
      constructor
      · rintro ⟨i, hi, h⟩
        have hi : i ≤ j := by rw [List.mem_range] at hi; omega
        have h2 := (ih i (by omega)).1 h
        refine ⟨s.take i, (s.drop i).take (j - i), ?_, h2, hl _⟩
        rw [show s.take j = s.take (i + (j - i)) by congr 1; omega, List.take_add]
      · rintro ⟨u, v, huv, hu, -⟩
        have hlen : u.length ≤ j := by
          have := congrArg List.length huv
          rw [List.length_take, List.length_append] at this
          omega
        have hu2 : u = s.take u.length := by
          have := congrArg (List.take u.length) huv
          rw [List.take_take, List.take_left', Nat.min_eq_left hlen] at this
          · exact this.symm
          · rfl
        refine ⟨u.length, by rw [List.mem_range]; omega, (ih _ (by omega)).2 ?_⟩
        rw [← hu2]; exact hu
    · rw [if_neg h3]
      by_cases h4 : p.kind = 4
      · rw [if_pos h4, List.any_eq_true]
        have hl : ∀ v, langT (treeP p) v ↔ v ∈ p.words := fun v => by
          unfold treeP
          rw [if_neg (by omega), if_neg (by omega), if_neg (by omega), if_pos h4, langT, if_neg (by decide), if_neg (by decide), if_pos rfl]
          exact lang_words _ v
        constructor
        · rintro ⟨w, hw, h⟩
          rw [Bool.and_eq_true, Bool.and_eq_true, decide_eq_true_eq, List.isPrefixOf_iff_prefix] at h
          obtain ⟨⟨h1, h2⟩, ⟨t, ht⟩⟩ := h
          have h5 := (ih _ (by omega)).1 h2
          refine ⟨s.take (j - w.length), w, ?_, h5, (hl w).2 hw⟩
          rw [show s.take j = s.take ((j - w.length) + w.length) by congr 1; omega, List.take_add, ← ht, List.take_left']
          rfl
        · rintro ⟨u, v, huv, hu, hv⟩
          have hsz := congrArg List.length huv
          rw [List.length_take, List.length_append] at hsz
          have hsz2 : u.length + v.length = j := by omega
          refine ⟨v, (hl v).1 hv, ?_⟩
          rw [Bool.and_eq_true, Bool.and_eq_true, decide_eq_true_eq, List.isPrefixOf_iff_prefix]
          have hju : j - v.length = u.length := by omega
          have hu2 : u = s.take u.length := by
            have := congrArg (List.take u.length) huv
            rw [List.take_take, List.take_left', Nat.min_eq_left (by omega)] at this
            · exact this.symm
            · rfl
          refine ⟨⟨by omega, ?_⟩, ?_⟩
          · rw [hju]; exact (ih _ (by omega)).2 (by rw [← hu2]; exact hu)
          · rw [hju]
            refine ⟨s.drop j, ?_⟩
            have h6 : s = (u ++ v) ++ s.drop j := by rw [← huv, List.take_append_drop]
            have h7 : s.drop u.length = v ++ s.drop j := by
              have := congrArg (List.drop u.length) h6
              rw [List.append_assoc, List.drop_left'] at this
              · exact this
              · rfl
            exact h7.symm
      · rw [if_neg h4]
        have hl := lang_piece_one h3 h4 hp
        cases j with
        | zero =>
          simp only [List.take_zero, Bool.false_eq_true, false_iff]
          rintro ⟨u, v, huv, hu, hv⟩
          obtain ⟨c, rfl, -⟩ := (hl v).1 hv
          have := congrArg List.length huv
          simp at this
        | succ k =>
          have hk2 : k < s.length := by omega
          simp only [List.getElem?_eq_getElem hk2]
          rw [Bool.and_eq_true, ih k (by omega), List.take_succ_eq_append_getElem hk2]
          constructor
          · rintro ⟨h1, h2⟩
            exact ⟨_, _, rfl, h1, (hl _).2 ⟨_, rfl, h2⟩⟩
          · rintro ⟨u, v, huv, hu, hv⟩
            obtain ⟨c, rfl, hb⟩ := (hl v).1 hv
            obtain ⟨e1, e2⟩ := List.append_inj' huv rfl
            injection e2 with e2
            rw [e1, e2]
            exact ⟨hu, hb⟩
/-- A node matches the texts of its tree. -/
theorem matchN_lang (ps : List Pc) (hk : ∀ p ∈ ps, p.kind ≤ 4) (s : List UInt8) : matchN ps s = true ↔ langT (treeN ps) s := by
  unfold matchN treeN
  rw [now_lang s ps.length ps rfl hk s.length (Nat.le_refl _), List.take_length, langT, if_neg (by decide), if_neg (by decide), if_pos rfl, langA, langA, or_false, langT, if_neg (by decide), if_pos rfl]
/-- How many instructions a node's tree makes. -/
theorem costsT_map {α : Type} (f : α → RT) (k : Nat) : ∀ l : List α, (∀ x ∈ l, costT (f x) ≤ k) → costsT (l.map f) ≤ l.length * (k + 2)
  | [], h => by rw [List.map_nil, costsT]; omega
  | a :: r, h => by
    rw [List.map_cons, costsT]
    have h1 := h a (by simp)
    have h2 := costsT_map f k r (fun x hx => h x (by simp [hx]))
    have : (a :: r).length * (k + 2) = r.length * (k + 2) + (k + 2) := by rw [List.length_cons, Nat.succ_mul]
    omega
theorem cost_byte (c : UInt8) : costT (byteT c) = 2 := by unfold byteT; rw [costT, costsT]
theorem cost_word (w : List UInt8) : costT (wordT w) ≤ 2 + 4 * w.length := by
  unfold wordT
  rw [costT]
  have := costsT_map byteT 2 w (fun c _ => by rw [cost_byte]; exact Nat.le_refl _)
  omega
end Go.Proofs.YtnnfhcbopchodaaDoor
