/- Texts' order, lists' order. Lists' order: Compare, the code's and the document's. Lists' order: the code's. Are labels a set: the code's Right, the document's. Are labels a set: the document's Right. Names among some: Has, Contains. Labels whose names are among some, or are not: pick. A list's copy: slices.Clone. The library's stable sort, in plain words: what exchanges of ranges, rotations and merges make of a row. A row of one's own, sorted in its place: how it is met and how it is read behind. (Several texts in one file, by merge.py.) -/
import Derived.Test.YtnnfhcbopchodaaDoorZN5
import Derived.Test.YtnnfhcbopchodaaDoorShelf
import Derived.Sort.Grow
import Derived.Shelf.SlSortCmp.QuietGrown
import Derived.Deep.DeepCutAuto
import Derived.OwnWalk
import Derived.Test.YtnnfhcbopchodaaDoorZN1
import Derived.Shelf.SlSortCmp.KitK
import Derived.Sort.LotA
import Derived.Sort.LotD2
import Derived.Laws.OwnMore
namespace Go.Proofs.YtnnfhcbopchodaaDoor
open Go.RowKit
set_option linter.unusedVariables false
set_option linter.unusedSimpArgs false
set_option maxRecDepth 100000
open Lib (compareBytes)
theorem u8_eq {a b : UInt8} (h1 : ¬ a < b) (h2 : ¬ b < a) : a = b := UInt8.le_antisymm (UInt8.not_lt.mp h2) (UInt8.not_lt.mp h1)
theorem u8_asym {a b : UInt8} (h1 : a < b) : ¬ b < a := fun h2 => absurd (UInt8.lt_trans h1 h2) (UInt8.lt_irrefl _)
theorem cb_cases : ∀ x y : List UInt8, compareBytes x y = -1 ∨ compareBytes x y = 0 ∨ compareBytes x y = 1 := by
  intro x
  induction x with
  | nil => intro y; cases y <;> simp [compareBytes]
  | cons a x ih =>
    intro y
    cases y with
    | nil => simp [compareBytes]
    | cons b y =>
      simp only [compareBytes]
      split
      · simp
      · split
        · simp
        · exact ih y
theorem cb_neg : ∀ x y : List UInt8, compareBytes y x = - compareBytes x y := by
  intro x
  induction x with
  | nil => intro y; cases y <;> simp [compareBytes]
  | cons a x ih =>
    intro y
    cases y with
    | nil => simp [compareBytes]
    | cons b y =>
      simp only [compareBytes]
      by_cases h1 : a < b
      · rw [if_pos h1, if_neg (u8_asym h1), if_pos h1]; rfl
      · rw [if_neg h1, if_neg h1]
        by_cases h2 : b < a
        · rw [if_pos h2, if_pos h2]
        · rw [if_neg h2, if_neg h2]; exact ih y
theorem cb_eq : ∀ x y : List UInt8, compareBytes x y = 0 ↔ x = y := by
  intro x
  induction x with
  | nil => intro y; cases y <;> simp [compareBytes]
  | cons a x ih =>
    intro y
    cases y with
    | nil => simp [compareBytes]
    | cons b y =>
      simp only [compareBytes]
      by_cases h1 : a < b
      · rw [if_pos h1]
        exact ⟨fun h => by simp at h, fun h => by injection h with h; subst h; exact absurd h1 (UInt8.lt_irrefl _)⟩
      · rw [if_neg h1]
        by_cases h2 : b < a
        · rw [if_pos h2]
          exact ⟨fun h => by simp at h, fun h => by injection h with h; subst h; exact absurd h2 (UInt8.lt_irrefl _)⟩
        · rw [if_neg h2, ih y]
          have := u8_eq h1 h2
          subst this
          simp
theorem cb_less : ∀ x y : List UInt8, Op.bytesLess x y = decide (compareBytes x y = -1) := by
  intro x
  induction x with
  | nil => intro y; cases y <;> simp [compareBytes, Op.bytesLess]
  | cons a x ih =>
    intro y
    cases y with
    | nil => simp [compareBytes, Op.bytesLess]
    | cons b y =>
      simp only [compareBytes, Op.bytesLess, ih y]
      by_cases h1 : a < b
      · simp [h1]
      · by_cases h2 : b < a
        · have : (a == b) = false := by
            cases h : a == b with
            | false => rfl
            | true => have := eq_of_beq h; subst this; exact absurd h2 (UInt8.lt_irrefl _)
          simp [h1, h2, this]
        · have := u8_eq h1 h2
          subst this
          simp [h1]
theorem cb_trans : ∀ x y z : List UInt8, compareBytes x y ≤ 0 → compareBytes y z ≤ 0 → compareBytes x z ≤ 0 ∧ (compareBytes x y < 0 ∨ compareBytes y z < 0 → compareBytes x z < 0) := by
  intro x
  induction x with
  | nil => intro y z; cases y <;> cases z <;> simp [compareBytes]
  | cons a x ih =>
    intro y z
    cases y with
    | nil => simp [compareBytes]
    | cons b y =>
      cases z with
      | nil => intro h1 h2; simp [compareBytes] at h2
      | cons c z =>
        simp only [compareBytes]
        by_cases h1 : a < b
        · rw [if_pos h1]
          by_cases h2 : b < c
          · rw [if_pos h2, if_pos (UInt8.lt_trans h1 h2)]; simp
          · rw [if_neg h2]
            by_cases h3 : c < b
            · rw [if_pos h3]; intro _ h; simp at h
            · have := u8_eq h2 h3
              subst this
              rw [if_pos h1]; simp
        · rw [if_neg h1]
          by_cases h2 : b < a
          · rw [if_pos h2]; intro h; simp at h
          · have := u8_eq h1 h2
            subst this
            rw [if_neg h2]
            by_cases h2 : a < c
            · simp only [if_pos h2]; intros; simp
            · simp only [if_neg h2]
              by_cases h3 : c < a
              · simp only [if_pos h3]; intro _ h; simp at h
              · simp only [if_neg h3]; exact ih y z

/-- Of two texts: which stands first. -/
def cmpS (a b : ByteArray) : Int := compareBytes a.data.toList b.data.toList
theorem order_any (a b : ByteArray) (w : World) : Calls Tryd.prog 63 #[.string a, .string b] w fun e w' => e = .returned (.int .i64 (cmpS a b)) ∧ w' = w := by
  have hl : Op.bytesLess a.toList b.toList = decide (cmpS a b = -1) := by rw [ByteArray.toList_eq, ByteArray.toList_eq]; exact cb_less _ _
  have he : (a.toList == b.toList) = decide (cmpS a b = 0) := by
    rw [ByteArray.toList_eq, ByteArray.toList_eq, Bool.eq_iff_iff]
    simp [cmpS, cb_eq]
  rcases cb_cases a.data.toList b.data.toList with h | h | h
  · have h' : cmpS a b = -1 := h
    rw [h'] at hl he ⊢
    have hl2 : Op.bytesLess a.toList b.toList = true := hl
    go_enter Tryd.func63, Tryd.ntmps63
    go_wp2_with fail
    go_ret
    exact ⟨rfl, rfl⟩
  · have h' : cmpS a b = 0 := h
    rw [h'] at hl he ⊢
    have hl2 : Op.bytesLess a.toList b.toList = false := hl
    have he2 : (!(a.toList == b.toList)) = false := by rw [he]; rfl
    have he3 : (a.toList == b.toList) = true := he
    clear hl he
    go_enter Tryd.func63, Tryd.ntmps63
    go_wp2_with fail
    all_goals first | (exfalso; simp_all; done) | (go_ret; exact ⟨rfl, rfl⟩)
  · have h' : cmpS a b = 1 := h
    rw [h'] at hl he ⊢
    have hl2 : Op.bytesLess a.toList b.toList = false := hl
    have he2 : (!(a.toList == b.toList)) = true := by rw [he]; rfl
    have he3 : (a.toList == b.toList) = false := he
    clear hl he
    go_enter Tryd.func63, Tryd.ntmps63
    go_wp2_with fail
    all_goals first | (exfalso; simp_all; done) | (go_ret; exact ⟨rfl, rfl⟩)
end Go.Proofs.YtnnfhcbopchodaaDoor
namespace Go.Proofs.YtnnfhcbopchodaaDoor
open Go.RowKit
set_option linter.unusedVariables false
set_option linter.unusedSimpArgs false
set_option maxRecDepth 100000

/-- A world with draws and new blocks: nothing else. -/
def Grew (w w' : World) : Prop := ∃ q os, w' = Sort.grow (w.drewN q) os
theorem Grew.refl (w : World) : Grew w w := ⟨0, #[], by rw [Sort.grow_empty]; rfl⟩
theorem Grew.alloc {w w' : World} (h : Grew w w') (o : Obj) : Grew w (w'.alloc o) := by
  obtain ⟨q, os, rfl⟩ := h
  exact ⟨q, os ++ #[o], by rw [Sort.alloc_eq_grow, Sort.grow_grow]⟩
theorem Grew.drewN {w w' : World} (h : Grew w w') (n : Nat) : Grew w (w'.drewN n) := by
  obtain ⟨q, os, rfl⟩ := h
  exact ⟨q + n, os, by rw [← World.drewN_drewN]; rfl⟩
theorem Grew.trans {a b c : World} (h : Grew a b) (k : Grew b c) : Grew a c := by
  obtain ⟨q, os, rfl⟩ := h
  obtain ⟨n, os', rfl⟩ := k
  exact ⟨q + n, os ++ os', by rw [← World.drewN_drewN, ← Sort.grow_grow]; rfl⟩
theorem Grew.below {w w' : World} (h : Grew w w') : Below w.heap.size w w' := by
  obtain ⟨q, os, rfl⟩ := h
  refine ⟨rfl, rfl, rfl, ?_, fun b hb => ?_⟩
  · show w.heap.size ≤ (w.heap ++ os).size
    rw [Array.size_append]; omega
  · show (w.heap ++ os)[b]? = w.heap[b]?
    rw [Array.getElem?_append_left hb]

/-- Of two labels. -/
def cmpP (x y : Lb) : Int := if cmpS x.1 y.1 = 0 then cmpS x.2 y.2 else cmpS x.1 y.1
/-- Of two lists. -/
def cmpL : List Lb → List Lb → Int
  | [], [] => 0
  | [], _ :: _ => -1
  | _ :: _, [] => 1
  | a :: r, b :: t => if cmpP a b = 0 then cmpL r t else cmpP a b
theorem order_qs (a b : ByteArray) (w : World) : Calls Tryd.prog 63 #[.string a, .string b] w fun e w' => e = .returned (.int .i64 (cmpS a b)) ∧ w = w' := (order_any a b w).mono fun _ _ h => ⟨h.1, h.2.symm⟩
theorem cmpS_ne (a b : ByteArray) : (!(a.toList == b.toList)) = decide (cmpS a b ≠ 0) := by
  rw [ByteArray.toList_eq, ByteArray.toList_eq, Bool.eq_iff_iff]
  simp [cmpS, cb_eq]
theorem cmp1_any (x y : Lb) (w : World) : Calls Tryd.prog 62 #[.agg (lenc x).toArray, .agg (lenc y).toArray] w fun e w' => e = .returned (.int .i64 (cmpP x y)) ∧ Grew w w' := by
  obtain ⟨a, b⟩ := x
  obtain ⟨c, d⟩ := y
  show Calls Tryd.prog 62 #[.agg #[.string a, .string b], .agg #[.string c, .string d]] w _
  have h1 : (!(a.toList == c.toList)) = decide (cmpS a c ≠ 0) := cmpS_ne a c
  by_cases h : cmpS a c = 0
  · have h2 : (!(a.toList == c.toList)) = false := by rw [h1]; simp [h]
    have h3 : (a.toList == c.toList) = true := by simpa using h2
    rw [show cmpP (a, b) (c, d) = cmpS b d by simp [cmpP, h]]
    clear h1
    go_enter Tryd.func62, Tryd.ntmps62
    go_wp2_with fail
    refine (Tryd.strings_Compare _ _ _).mono ?_
    rintro e w1 ⟨rfl, rfl⟩
    go_wp2_with fail
    go_ret
    exact ⟨rfl, ((Grew.refl _).alloc _).alloc _⟩
  · have h2 : (!(a.toList == c.toList)) = true := by rw [h1]; simp [h]
    have h3 : (a.toList == c.toList) = false := by simpa using h2
    rw [show cmpP (a, b) (c, d) = cmpS a c by simp [cmpP, h]]
    clear h1
    go_enter Tryd.func62, Tryd.ntmps62
    go_wp2_with fail
    refine (Tryd.strings_Compare _ _ _).mono ?_
    rintro e w1 ⟨rfl, rfl⟩
    go_wp2_with fail
    go_ret
    exact ⟨rfl, ((Grew.refl _).alloc _).alloc _⟩
set_option maxHeartbeats 2000000 in
/-- The document's. -/
theorem rcompare_any (v1 v2 : Value) (xs ys : List Lb) (w : World) (h1 : Sl lenc w v1 xs) (h2 : Sl lenc w v2 ys) :
    Calls Tryd.prog 42 #[v1, v2] w fun e w' => e = .returned (.int .i64 (cmpL xs ys)) ∧ ∃ n, w' = w.drewN n := by
  obtain ⟨a, cap, rfl, hlen, -, hc⟩ := h1.split lenc_len
  obtain ⟨a2, cap2, rfl, hlen2, -, hc2⟩ := h2.split lenc_len
  have HC := Lib.hid hc
  have HC2 := Lib.hid hc2
  clear hc hc2 h1 h2
  go_enter Tryd.func42, Tryd.ntmps42
  go_wp2_with fail
  go_loopw [5] (fun i wr => ∃ k : Nat, k ≤ xs.length ∧ k ≤ ys.length ∧ i = .int .i64 k ∧ Hid (cmpL (xs.drop k) (ys.drop k) = cmpL xs ys) ∧ ∃ n, wr = w.drewN n) (fun i _ => xs.length - (intOf i).toNat)
  case atStart => exact ⟨0, Nat.zero_le _, Nat.zero_le _, rfl, rfl, 0, rfl⟩
  case round =>
    obtain ⟨k, hk, hk2, rfl, HV, n, rfl⟩ := hrel
    by_cases hlt : k < xs.length
    · have hltz : (k : Int) < (xs.length : Int) := by omega
      by_cases hlt2 : k < ys.length
      · have hltz2 : (k : Int) < (ys.length : Int) := by omega
        have h00 : (0 : Int) ≤ (k : Int) := by omega
        obtain ⟨b, off, rfl, hk0, hk1⟩ := lab_cells HC.out (Below.refl _ _) (Nat.le_refl _) hlt
        obtain ⟨b2, off2, rfl, hj0, hj1⟩ := lab_cells HC2.out (Below.refl _ _) (Nat.le_refl _) hlt2
        have HD := Lib.hid (show xs.drop k = lx xs k :: xs.drop (k + 1) by rw [List.drop_eq_getElem_cons hlt]; simp [lx, hlt])
        have HD2 := Lib.hid (show ys.drop k = lx ys k :: ys.drop (k + 1) by rw [List.drop_eq_getElem_cons hlt2]; simp [lx, hlt2])
        go_wp2_with fail
        go_quiet ((go_at_call 63; first | refine qs (order_qs _ _ _) | refine quiet_same (order_qs _ _ _)))
        obtain ⟨p, hp⟩ : ∃ p, p = cmpS (lx xs k).1 (lx ys k).1 := ⟨_, rfl⟩
        rw [← hp]
        by_cases h0 : p = 0
        · have h0b : (p == 0) = true := by simpa using h0
          go_wp2_with fail
          go_quiet ((go_at_call 63; first | refine qs (order_qs _ _ _) | refine quiet_same (order_qs _ _ _)))
          obtain ⟨q, hq⟩ : ∃ q, q = cmpS (lx xs k).2 (lx ys k).2 := ⟨_, rfl⟩
          rw [← hq]
          have hpp : cmpP (lx xs k) (lx ys k) = q := by rw [cmpP, ← hp, if_pos h0, hq]
          have HPP := Lib.hid hpp
          clear hpp hp hq
          by_cases h1 : q = 0
          · have h1b : (q == 0) = true := by simpa using h1
            go_wp2_with fail
            go_roundw
            case rel => exact ⟨k + 1, by omega, by omega, by go_num, by show _ = _; rw [← HV.out, HD.out, HD2.out, cmpL, HPP.out, if_pos h1], _, by first | rfl | (simp only [World.drewN_drewN])⟩
            case measure => simp [intOf]; omega
          · have h1b : (q == 0) = false := by simpa using h1
            go_wp2_with fail
            go_ret
            exact ⟨by rw [← HV.out, HD.out, HD2.out, cmpL, HPP.out, if_neg h1] <;> rfl, _, by first | rfl | (simp only [World.drewN_drewN])⟩
        · have h0b : (p == 0) = false := by simpa using h0
          have hpp : cmpP (lx xs k) (lx ys k) = p := by rw [cmpP, ← hp, if_neg h0]
          have HPP := Lib.hid hpp
          clear hpp hp
          go_wp2_with fail
          go_ret
          exact ⟨by rw [← HV.out, HD.out, HD2.out, cmpL, HPP.out, if_neg h0] <;> rfl, _, by first | rfl | (simp only [World.drewN_drewN])⟩
      · have hltz2 : ¬ (k : Int) < (ys.length : Int) := by omega
        have e2 : ys.drop k = [] := List.drop_eq_nil_of_le (by omega)
        have e1 : xs.drop k = lx xs k :: xs.drop (k + 1) := by rw [List.drop_eq_getElem_cons hlt]; simp [lx, hlt]
        have hz1 : ¬ (xs.length : Int) < (ys.length : Int) := by omega
        have hz2 : (ys.length : Int) < (xs.length : Int) := by omega
        have HE := Lib.hid (show cmpL xs ys = 1 by rw [← HV.out, e1, e2]; rfl)
        clear e1 e2
        go_wp2_with fail
        go_ret
        exact ⟨by rw [HE.out] <;> rfl, _, rfl⟩
    · have hltz : ¬ (k : Int) < (xs.length : Int) := by omega
      have e1 : xs.drop k = [] := List.drop_eq_nil_of_le (by omega)
      by_cases hlt2 : k < ys.length
      · have e2 : ys.drop k = lx ys k :: ys.drop (k + 1) := by rw [List.drop_eq_getElem_cons hlt2]; simp [lx, hlt2]
        have hz1 : (xs.length : Int) < (ys.length : Int) := by omega
        have HE := Lib.hid (show cmpL xs ys = -1 by rw [← HV.out, e1, e2]; rfl)
        clear e1 e2
        go_wp2_with fail
        go_ret
        exact ⟨by rw [HE.out] <;> rfl, _, rfl⟩
      · have e2 : ys.drop k = [] := List.drop_eq_nil_of_le (by omega)
        have hz1 : ¬ (xs.length : Int) < (ys.length : Int) := by omega
        have hz2 : ¬ (ys.length : Int) < (xs.length : Int) := by omega
        have HE := Lib.hid (show cmpL xs ys = 0 by rw [← HV.out, e1, e2]; rfl)
        clear e1 e2
        go_wp2_with fail
        go_ret
        exact ⟨by rw [HE.out] <;> rfl, _, rfl⟩
end Go.Proofs.YtnnfhcbopchodaaDoor
namespace Go.Proofs.YtnnfhcbopchodaaDoor
open Go.RowKit
set_option linter.unusedVariables false
set_option linter.unusedSimpArgs false
set_option maxRecDepth 100000
set_option maxHeartbeats 2000000 in
theorem cmpfn_any (v1 v2 : Value) (xs ys : List Lb) (w : World) (h1 : Sl lenc w v1 xs) (h2 : Sl lenc w v2 ys) :
    Calls Tryd.prog 61 #[v1, v2, .func (.func 62) #[] #[]] w fun e w' => e = .returned (.int .i64 (cmpL xs ys)) ∧ Grew w w' := by
  obtain ⟨a, cap, rfl, hlen, -, hc⟩ := h1.split lenc_len
  obtain ⟨a2, cap2, rfl, hlen2, -, hc2⟩ := h2.split lenc_len
  have HC := Lib.hid hc
  have HC2 := Lib.hid hc2
  clear hc hc2 h1 h2
  go_enter Tryd.func61, Tryd.ntmps61
  go_wp2_with fail
  go_loopw [13] (fun i wr => ∃ k : Nat, k ≤ xs.length ∧ k ≤ ys.length ∧ i = .int .i64 k ∧ Hid (cmpL (xs.drop k) (ys.drop k) = cmpL xs ys) ∧ Hid (Grew w wr)) (fun i _ => xs.length - (intOf i).toNat)
  case atStart => exact ⟨0, Nat.zero_le _, Nat.zero_le _, rfl, rfl, Grew.refl _⟩
  case round =>
    obtain ⟨k, hk, hk2, rfl, HV, HG⟩ := hrel
    by_cases hlt : k < xs.length
    · have hltz : (k : Int) < (xs.length : Int) := by omega
      have h00 : (0 : Int) ≤ (k : Int) := by omega
      obtain ⟨b, off, rfl, hk0, hk1⟩ := lab_cells HC.out HG.out.below (Nat.le_refl _) hlt
      by_cases hlt2 : k < ys.length
      · have hltz2 : (k : Int) < (ys.length : Int) := by omega
        have hltz3 : ¬ (ys.length : Int) ≤ (k : Int) := by omega
        obtain ⟨b2, off2, rfl, hj0, hj1⟩ := lab_cells HC2.out HG.out.below (Nat.le_refl _) hlt2
        have HD := Lib.hid (show xs.drop k = lx xs k :: xs.drop (k + 1) by rw [List.drop_eq_getElem_cons hlt]; simp [lx, hlt])
        have HD2 := Lib.hid (show ys.drop k = lx ys k :: ys.drop (k + 1) by rw [List.drop_eq_getElem_cons hlt2]; simp [lx, hlt2])
        have hne : b2 ≠ wr.heap.size := by
          have := World.block_lt_of_cell? wr _ hj0
          have h2 : b2 < wr.heap.size := this
          omega
        have hlt3 : b2 < wr.heap.size := World.block_lt_of_cell? wr _ hj0
        go_wp2_with fail
        refine (cmp1_any (lx xs k) (lx ys k) _).mono ?_
        rintro e w1 ⟨rfl, hg⟩
        have HG1 : Hid (Grew w w1) := ((HG.out.alloc _).alloc _).trans hg
        clear hg
        obtain ⟨p, hp⟩ : ∃ p, p = cmpP (lx xs k) (lx ys k) := ⟨_, rfl⟩
        rw [← hp]
        have HPP := Lib.hid hp
        clear hp
        by_cases h0 : p = 0
        · have h0b : (p == 0) = true := by simpa using h0
          go_wp2_with fail
          go_roundw
          case rel => exact ⟨k + 1, by omega, by omega, by go_num, by show _ = _; rw [← HV.out, HD.out, HD2.out, cmpL, ← HPP.out, if_pos h0], HG1⟩
          case measure => simp [intOf]; omega
        · have h0b : (p == 0) = false := by simpa using h0
          go_wp2_with fail
          go_ret
          exact ⟨by rw [← HV.out, HD.out, HD2.out, cmpL, ← HPP.out, if_neg h0] <;> rfl, HG1.out⟩
      · have hltz2 : (ys.length : Int) ≤ (k : Int) := by omega
        have e2 : ys.drop k = [] := List.drop_eq_nil_of_le (by omega)
        have e1 : xs.drop k = lx xs k :: xs.drop (k + 1) := by rw [List.drop_eq_getElem_cons hlt]; simp [lx, hlt]
        have HE := Lib.hid (show cmpL xs ys = 1 by rw [← HV.out, e1, e2]; rfl)
        clear e1 e2
        go_wp2_with fail
        go_ret
        exact ⟨by rw [HE.out] <;> rfl, by first | exact HG.out.alloc _ | exact HG.out⟩
    · have hltz : ¬ (k : Int) < (xs.length : Int) := by omega
      have e1 : xs.drop k = [] := List.drop_eq_nil_of_le (by omega)
      by_cases hlt2 : k < ys.length
      · have e2 : ys.drop k = lx ys k :: ys.drop (k + 1) := by rw [List.drop_eq_getElem_cons hlt2]; simp [lx, hlt2]
        have hz1 : (xs.length : Int) < (ys.length : Int) := by omega
        have HE := Lib.hid (show cmpL xs ys = -1 by rw [← HV.out, e1, e2]; rfl)
        clear e1 e2
        go_wp2_with fail
        go_ret
        exact ⟨by rw [HE.out] <;> rfl, HG.out⟩
      · have e2 : ys.drop k = [] := List.drop_eq_nil_of_le (by omega)
        have hz1 : ¬ (xs.length : Int) < (ys.length : Int) := by omega
        have HE := Lib.hid (show cmpL xs ys = 0 by rw [← HV.out, e1, e2]; rfl)
        clear e1 e2
        go_wp2_with fail
        go_ret
        exact ⟨by rw [HE.out] <;> rfl, HG.out⟩
theorem compare_any (v1 v2 : Value) (xs ys : List Lb) (w : World) (h1 : Sl lenc w v1 xs) (h2 : Sl lenc w v2 ys) :
    Calls Tryd.prog 40 #[v1, v2] w fun e w' => e = .returned (.int .i64 (cmpL xs ys)) ∧ Grew w w' := by
  have HF := Lib.hid (cmpfn_any v1 v2 xs ys w h1 h2)
  clear h1 h2
  go_enter Tryd.func40, Tryd.ntmps40
  go_wp2_with fail
  refine HF.out.mono ?_
  rintro e w1 ⟨rfl, hg⟩
  go_wp2_with fail
  go_ret
  exact ⟨rfl, hg⟩
/-- Are two lists the same? -/
theorem rsame_any (v1 v2 : Value) (xs ys : List Lb) (w : World) (h1 : Sl lenc w v1 xs) (h2 : Sl lenc w v2 ys) :
    Calls Tryd.prog 19 #[v1, v2] w fun e w' => e = .returned (.bool (cmpL xs ys == 0)) ∧ ∃ n, w' = w.drewN n := by
  have HF := Lib.hid (rcompare_any v1 v2 xs ys w h1 h2)
  clear h1 h2
  go_enter Tryd.func19, Tryd.ntmps19
  go_wp2_with fail
  refine HF.out.mono ?_
  rintro e w1 ⟨rfl, n, rfl⟩
  go_wp2_with fail
  all_goals go_ret
  all_goals exact ⟨by first | rfl | simp_all, n, rfl⟩

/-! The order in plain words. -/
theorem cmpS_neg (a b : ByteArray) : cmpS b a = - cmpS a b := cb_neg _ _
theorem ba_eq {a b : ByteArray} (h : a.data.toList = b.data.toList) : a = b := by
  cases a; cases b
  simp only [Array.toList_inj] at h
  subst h; rfl
theorem cmpS_eq (a b : ByteArray) : cmpS a b = 0 ↔ a = b := by
  unfold cmpS
  rw [cb_eq]
  exact ⟨ba_eq, fun h => by rw [h]⟩
theorem cmpS_trans {a b c : ByteArray} (h1 : cmpS a b ≤ 0) (h2 : cmpS b c ≤ 0) : cmpS a c ≤ 0 ∧ (cmpS a b < 0 ∨ cmpS b c < 0 → cmpS a c < 0) := cb_trans _ _ _ h1 h2
theorem cmpP_neg (x y : Lb) : cmpP y x = - cmpP x y := by
  unfold cmpP
  rw [cmpS_neg x.1 y.1, cmpS_neg x.2 y.2]
  by_cases h : cmpS x.1 y.1 = 0
  · rw [if_pos h, if_pos (by omega)]
  · rw [if_neg h, if_neg (by omega)]
theorem cmpP_eq (x y : Lb) : cmpP x y = 0 ↔ x = y := by
  unfold cmpP
  by_cases h : cmpS x.1 y.1 = 0
  · rw [if_pos h, cmpS_eq]
    have := (cmpS_eq _ _).1 h
    exact ⟨fun h2 => Prod.ext this h2, fun h2 => by rw [h2]⟩
  · rw [if_neg h]
    exact ⟨fun h2 => absurd h2 h, fun h2 => absurd ((cmpS_eq _ _).2 (by rw [h2])) h⟩
theorem cmpP_trans {x y z : Lb} (h1 : cmpP x y ≤ 0) (h2 : cmpP y z ≤ 0) : cmpP x z ≤ 0 ∧ (cmpP x y < 0 ∨ cmpP y z < 0 → cmpP x z < 0) := by
  unfold cmpP at *
  by_cases a : cmpS x.1 y.1 = 0
  · by_cases b : cmpS y.1 z.1 = 0
    · have e1 := (cmpS_eq _ _).1 a
      have e2 := (cmpS_eq _ _).1 b
      rw [if_pos a] at h1 ⊢
      rw [if_pos b] at h2 ⊢
      rw [if_pos (by rw [e1]; exact b)]
      exact cmpS_trans h1 h2
    · have e1 := (cmpS_eq _ _).1 a
      rw [if_neg b] at h2 ⊢
      rw [e1, if_neg b]
      exact ⟨h2, fun _ => by omega⟩
  · rw [if_neg a] at h1 ⊢
    by_cases b : cmpS y.1 z.1 = 0
    · have e2 := (cmpS_eq _ _).1 b
      rw [← e2, if_neg a]
      exact ⟨h1, fun _ => by omega⟩
    · rw [if_neg b] at h2 ⊢
      have := (cmpS_trans h1 h2).2 (.inl (by omega))
      rw [if_neg (by omega)]
      exact ⟨by omega, fun _ => this⟩
theorem cmpL_neg : ∀ x y : List Lb, cmpL y x = - cmpL x y := by
  intro x
  induction x with
  | nil => intro y; cases y <;> simp [cmpL]
  | cons a x ih =>
    intro y
    cases y with
    | nil => simp [cmpL]
    | cons b y =>
      simp only [cmpL]
      rw [cmpP_neg a b]
      by_cases h : cmpP a b = 0
      · rw [if_pos h, if_pos (by omega)]; exact ih y
      · rw [if_neg h, if_neg (by omega)]
theorem cmpL_eq : ∀ x y : List Lb, cmpL x y = 0 ↔ x = y := by
  intro x
  induction x with
  | nil => intro y; cases y <;> simp [cmpL]
  | cons a x ih =>
    intro y
    cases y with
    | nil => simp [cmpL]
    | cons b y =>
      simp only [cmpL]
      by_cases h : cmpP a b = 0
      · rw [if_pos h, ih, (cmpP_eq _ _).1 h]; simp
      · rw [if_neg h]
        exact ⟨fun h2 => absurd h2 h, fun h2 => by injection h2 with h3; exact absurd ((cmpP_eq _ _).2 h3) h⟩
theorem cmpL_trans : ∀ x y z : List Lb, cmpL x y ≤ 0 → cmpL y z ≤ 0 → cmpL x z ≤ 0 ∧ (cmpL x y < 0 ∨ cmpL y z < 0 → cmpL x z < 0) := by
  intro x
  induction x with
  | nil => intro y z; cases y <;> cases z <;> simp [cmpL]
  | cons a x ih =>
    intro y z
    cases y with
    | nil => simp [cmpL]
    | cons b y =>
      cases z with
      | nil => intro h1 h2; simp [cmpL] at h2
      | cons c z =>
        simp only [cmpL]
        by_cases h1 : cmpP a b = 0
        · have e1 := (cmpP_eq _ _).1 h1
          subst e1
          rw [if_pos h1]
          by_cases h2 : cmpP a c = 0
          · simp only [if_pos h2]; exact ih y z
          · simp only [if_neg h2]; intro _ h; exact ⟨h, fun _ => by omega⟩
        · rw [if_neg h1]
          by_cases h2 : cmpP b c = 0
          · have e2 := (cmpP_eq _ _).1 h2
            subst e2
            simp only [if_neg h1, if_pos h2]
            intro h _; exact ⟨h, fun _ => by omega⟩
          · rw [if_neg h2]
            intro h3 h4
            have := (cmpP_trans h3 h4).2 (.inl (by omega))
            rw [if_neg (by omega)]
            exact ⟨by omega, fun _ => this⟩
end Go.Proofs.YtnnfhcbopchodaaDoor
namespace Go.Proofs.YtnnfhcbopchodaaDoor
open Go.RowKit
set_option linter.unusedVariables false
set_option linter.unusedSimpArgs false
set_option maxRecDepth 100000
def emptyS : ByteArray := ⟨#[]⟩
def labOk (x : Lb) : Bool := nameB x.1 && decide (0 < x.2.size) && decide (x.2.size ≤ 256)
def rightFrom (last : ByteArray) : List Lb → Bool
  | [] => true
  | x :: r => decide (cmpS last x.1 < 0) && labOk x && rightFrom x.1 r
def rightL (cs : List Lb) : Bool := rightFrom emptyS cs && decide (cs.length ≤ 32)
theorem less_cmp (a b : ByteArray) : Op.bytesLess a.toList b.toList = decide (cmpS a b = -1) := by rw [ByteArray.toList_eq, ByteArray.toList_eq]; exact cb_less _ _
theorem beq_cmp (a b : ByteArray) : (a.toList == b.toList) = decide (cmpS a b = 0) := by
  rw [ByteArray.toList_eq, ByteArray.toList_eq, Bool.eq_iff_iff]
  simp [cmpS, cb_eq]
theorem cmpS_cases (a b : ByteArray) : cmpS a b = -1 ∨ cmpS a b = 0 ∨ cmpS a b = 1 := cb_cases _ _
theorem empty_less {s : ByteArray} (h : 0 < s.size) : cmpS emptyS s < 0 := by
  rcases cmpS_cases emptyS s with h1 | h1 | h1
  · omega
  · have := (cmpS_eq _ _).1 h1
    rw [← this] at h
    exact absurd h (by decide)
  · exfalso
    unfold cmpS emptyS at h1
    cases hs : s.data.toList with
    | nil => rw [hs] at h1; simp [Lib.compareBytes] at h1
    | cons x r => rw [hs] at h1; simp [Lib.compareBytes] at h1
theorem name_size {s : ByteArray} (h : nameB s = true) : 0 < s.size := by
  unfold nameB at h
  simp only [Bool.and_eq_true, decide_eq_true_eq] at h
  exact h.1.1.1
theorem rightFrom_no {last : ByteArray} {x : Lb} {r : List Lb} (h : 0 ≤ cmpS last x.1 ∨ nameB x.1 = false ∨ x.2.size = 0 ∨ 256 < x.2.size) : rightFrom last (x :: r) = false := by
  unfold rightFrom labOk
  rcases h with h | h | h | h
  · rw [decide_eq_false (by omega)]; rfl
  · rw [h]; simp
  · simp [h]
  · rw [show decide (x.2.size ≤ 256) = false from decide_eq_false (by omega)]; simp
theorem rightFrom_go {last : ByteArray} {x : Lb} {r : List Lb} (h1 : cmpS last x.1 < 0) (h2 : nameB x.1 = true) (h3 : 0 < x.2.size) (h4 : x.2.size ≤ 256) : rightFrom last (x :: r) = rightFrom x.1 r := by
  rw [rightFrom, labOk]
  simp [h1, h2, h3, h4]
end Go.Proofs.YtnnfhcbopchodaaDoor
namespace Go.Proofs.YtnnfhcbopchodaaDoor
open Go.RowKit
set_option linter.unusedVariables false
set_option linter.unusedSimpArgs false
set_option maxRecDepth 100000
theorem rname_qs (s : ByteArray) (w : World) : Calls Tryd.prog 35 #[.string s] w fun e w' => e = .returned (.bool (nameB s)) ∧ w = w' := (rname_any s w).mono fun _ _ h => ⟨h.1, h.2.symm⟩
def prevN (cs : List Lb) : Nat → ByteArray
  | 0 => emptyS
  | k + 1 => (lx cs k).1
set_option maxHeartbeats 4000000 in
theorem rright_any (v : Value) (cs : List Lb) (w : World) (h : Sl lenc w v cs) :
    Calls Tryd.prog 15 #[v] w fun e w' => e = .returned (.bool (rightL cs)) ∧ ∃ n, w' = w.drewN n := by
  obtain ⟨a, cap, rfl, hlen, -, hc⟩ := h.split lenc_len
  have HC := Lib.hid hc
  clear hc h
  go_enter Tryd.func15, Tryd.ntmps15
  go_wp2_with fail
  go_loopw [3] (fun i wr => ∃ (k : Nat), k ≤ cs.length ∧ i = .int .i64 k ∧ Hid (rightFrom (prevN cs k) (cs.drop k) = rightFrom emptyS cs) ∧ ∃ n, wr = w.drewN n) (fun i _ => cs.length - (intOf i).toNat)
  case atStart => exact ⟨0, Nat.zero_le _, rfl, rfl, 0, rfl⟩
  case round =>
    obtain ⟨k, hk, rfl, HV, n, rfl⟩ := hrel
    by_cases hlt : k < cs.length
    · have hltz : (k : Int) < (cs.length : Int) := by omega
      have h00 : (0 : Int) ≤ (k : Int) := by omega
      obtain ⟨b, off, rfl, hk0, hk1⟩ := lab_cells HC.out (Below.refl _ _) (Nat.le_refl _) hlt
      have HD := Lib.hid (show cs.drop k = lx cs k :: cs.drop (k + 1) by rw [List.drop_eq_getElem_cons hlt]; simp [lx, hlt])
      have hno : (0 ≤ cmpS (prevN cs k) (lx cs k).1 ∨ nameB (lx cs k).1 = false ∨ (lx cs k).2.size = 0 ∨ 256 < (lx cs k).2.size) → rightL cs = false := fun h => by
        rw [rightL, ← HV.out, HD.out, rightFrom_no h]; rfl
      have HNO := Lib.hid hno
      have hgo : cmpS (prevN cs k) (lx cs k).1 < 0 → nameB (lx cs k).1 = true → 0 < (lx cs k).2.size → (lx cs k).2.size ≤ 256 → rightFrom (prevN cs (k + 1)) (cs.drop (k + 1)) = rightFrom emptyS cs := fun h1 h2 h3 h4 => by
        rw [← HV.out, HD.out, rightFrom_go h1 h2 h3 h4]; rfl
      have HGO := Lib.hid hgo
      clear hno hgo HD HV
      by_cases hn : nameB (lx cs k).1 = true
      · by_cases hz : (lx cs k).2.size = 0
        · have hz1 : (lx cs k).2.toList = [] := empty_of hz
          have hz2 : (lx cs k).2.toList.isEmpty = true := by simpa using hz1
          have HF : Hid (rightL cs = false) := HNO.out (.inr (.inr (.inl hz)))
          go_wp2_with fail
          go_quiet ((go_at_call 35; first | refine qs (rname_qs _ _) | refine quiet_same (rname_qs _ _)))
          go_wp2_with fail
          go_ret
          exact ⟨by rw [HF.out] <;> rfl, n + nq, by first | rfl | (simp only [World.drewN_drewN])⟩
        · have hz1 : ¬ (lx cs k).2.toList = [] := not_empty_of (by omega)
          have hz2 : (lx cs k).2.toList.isEmpty = false := by simpa using hz1
          by_cases hb : 256 < (lx cs k).2.size
          · have hb1 : (256 : Int) < ((lx cs k).2.size : Int) := by omega
            have hb2 : decide ((256 : Int) < ((lx cs k).2.size : Int)) = true := by simpa using hb1
            have HF : Hid (rightL cs = false) := HNO.out (.inr (.inr (.inr hb)))
            go_wp2_with fail
            go_quiet ((go_at_call 35; first | refine qs (rname_qs _ _) | refine quiet_same (rname_qs _ _)))
            go_wp2_with fail
            go_ret
            exact ⟨by rw [HF.out] <;> rfl, n + nq, by first | rfl | (simp only [World.drewN_drewN])⟩
          · have hb1 : ¬ (256 : Int) < ((lx cs k).2.size : Int) := by omega
            have hb2 : decide ((256 : Int) < ((lx cs k).2.size : Int)) = false := by simp only [decide_eq_false_iff_not]; exact hb1
            by_cases hk0' : k = 0
            · have hz3 : ¬ (0 : Int) < (k : Int) := by omega
              have hz4 : decide ((0 : Int) < (k : Int)) = false := by simp only [decide_eq_false_iff_not]; exact hz3
              have hz5 : decide (0 < k) = false := by simp; omega
              have HR := Lib.hid (HGO.out (by have h9 := name_size hn; subst hk0'; exact empty_less h9) hn (by omega) (by omega))
              clear hk0'
              go_wp2_with fail
              go_quiet ((go_at_call 35; first | refine qs (rname_qs _ _) | refine quiet_same (rname_qs _ _)))
              go_wp2_with fail
              go_roundw
              case rel => exact ⟨k + 1, by omega, by go_num, HR, n + nq, by first | rfl | (simp only [World.drewN_drewN])⟩
              case measure => simp [intOf]; omega
            · obtain ⟨m, rfl⟩ : ∃ m, k = m + 1 := ⟨k - 1, by omega⟩
              have hlt' : m < cs.length := by omega
              obtain ⟨b3, off3, e2, hp0, hp1⟩ := lab_cells HC.out (Below.refl _ _) (Nat.le_refl _) hlt'
              injection e2 with e2
              injection e2 with e2 e3
              subst e2 e3
              have hz3 : (0 : Int) < ((m : Int) + 1) := by omega
              have hz4 : decide ((0 : Int) < ((m : Int) + 1)) = true := decide_eq_true hz3
              have hm1 : (m : Int) < (cs.length : Int) := by omega
              have hm0 : (0 : Int) ≤ (m : Int) := by omega
              have hm2 : ((m : Int) + 1).toNat = m + 1 := by omega
              have hm3 : (0 : Int) ≤ (m : Int) + 1 := by omega
              have hm4 : (m : Int) + 1 < (cs.length : Int) := by omega
              have hm5 : IntKind.i64.wrap (m : Int) = (m : Int) := by rw [IntKind.wrap_i64]; omega
              have l1 := less_cmp (lx cs m).1 (lx cs (m + 1)).1
              by_cases hc : cmpS (lx cs m).1 (lx cs (m + 1)).1 = -1
              · rw [hc] at l1
                have l1' : Op.bytesLess (lx cs m).1.toList (lx cs (m + 1)).1.toList = true := l1
                have HR := Lib.hid (HGO.out (by show cmpS (lx cs m).1 _ < 0; omega) hn (by omega) (by omega))
                clear l1
                go_wp2_with fail
                go_quiet ((go_at_call 35; first | refine qs (rname_qs _ _) | refine quiet_same (rname_qs _ _)))
                go_wp2_with fail
                go_roundw
                case rel => exact ⟨m + 1 + 1, by omega, by go_num, HR, n + nq, by first | rfl | (simp only [World.drewN_drewN])⟩
                case measure => simp [intOf]; omega
              · have l1' : Op.bytesLess (lx cs m).1.toList (lx cs (m + 1)).1.toList = false := by rw [l1]; simpa using hc
                have HF : Hid (rightL cs = false) := HNO.out (.inl (by show 0 ≤ cmpS (lx cs m).1 _; rcases cmpS_cases (lx cs m).1 (lx cs (m + 1)).1 with h | h | h <;> omega))
                clear l1
                go_wp2_with fail
                go_quiet ((go_at_call 35; first | refine qs (rname_qs _ _) | refine quiet_same (rname_qs _ _)))
                go_wp2_with fail
                go_ret
                exact ⟨by rw [HF.out] <;> rfl, n + nq, by first | rfl | (simp only [World.drewN_drewN])⟩
      · have hn2 : nameB (lx cs k).1 = false := by simpa using hn
        have HF : Hid (rightL cs = false) := HNO.out (.inr (.inl hn2))
        go_wp2_with fail
        go_quiet ((go_at_call 35; first | refine qs (rname_qs _ _) | refine quiet_same (rname_qs _ _)))
        go_wp2_with fail
        go_ret
        exact ⟨by rw [HF.out] <;> rfl, n + nq, by first | rfl | (simp only [World.drewN_drewN])⟩
    · have hltz : ¬ (k : Int) < (cs.length : Int) := by omega
      have hd : cs.drop k = [] := List.drop_eq_nil_of_le (by omega)
      have HE := Lib.hid (show rightL cs = decide (cs.length ≤ 32) by rw [rightL, ← HV.out, hd]; rfl)
      clear hd
      go_wp2_with fail
      go_ret
      exact ⟨by rw [HE.out] <;> simp <;> omega, n, rfl⟩
end Go.Proofs.YtnnfhcbopchodaaDoor
namespace Go.Proofs.YtnnfhcbopchodaaDoor
open Go.RowKit
set_option linter.unusedVariables false
set_option linter.unusedSimpArgs false
set_option maxRecDepth 100000
def hasL (names : List ByteArray) (x : ByteArray) : Bool := names.any fun n => n.toList == x.toList
theorem hasL_drop {names : List ByteArray} {x : ByteArray} {k : Nat} (h : k < names.length) : hasL (names.drop k) x = ((names[k].toList == x.toList) || hasL (names.drop (k + 1)) x) := by
  rw [List.drop_eq_getElem_cons h]; rfl
theorem contains_has (names : List ByteArray) (x : ByteArray) : Lib.containsS names x = hasL names x := by
  rw [Bool.eq_iff_iff, Lib.containsS_iff, hasL, List.any_eq_true]
  constructor
  · intro h; exact ⟨x, h, by simp⟩
  · rintro ⟨y, h1, h2⟩
    have := eq_of_beq h2
    rw [ByteArray.toList_eq, ByteArray.toList_eq] at this
    rw [← ba_eq this]; exact h1
end Go.Proofs.YtnnfhcbopchodaaDoor
namespace Go.Proofs.YtnnfhcbopchodaaDoor
open Go.RowKit
set_option linter.unusedVariables false
set_option linter.unusedSimpArgs false
set_option maxRecDepth 100000
theorem Tryd.infoLb : (Tryd.prog.info? 88).map (fun i => (i.zero, i.size, i.bytes)) = some (some (.agg #[.string ⟨#[]⟩, .string ⟨#[]⟩]), 2, 32) := by kernel_rfl
def pickL (names : List ByteArray) (among : Bool) (l : List Lb) : List Lb := l.filter fun x => hasL names x.1 == among
theorem pick_snoc (names : List ByteArray) (among : Bool) (l : List Lb) (k : Nat) (h : k < l.length) : pickL names among (l.take (k + 1)) = pickL names among (l.take k) ++ if hasL names (lx l k).1 == among then [lx l k] else [] := by
  unfold pickL
  rw [lx_at h, List.take_succ_eq_append_getElem h, List.filter_append]
  congr 1
  by_cases h : (hasL names l[k].1 == among) = true <;> simp [h]
theorem pick_len (names : List ByteArray) (among : Bool) (l : List Lb) : (pickL names among l).length ≤ l.length := List.length_filter_le _ _
theorem pick_take_len (names : List ByteArray) (among : Bool) (l : List Lb) (k : Nat) : (pickL names among (l.take k)).length ≤ l.length := Nat.le_trans (pick_len _ _ _) (by simp; omega)
end Go.Proofs.YtnnfhcbopchodaaDoor
namespace Go.Proofs.YtnnfhcbopchodaaDoor
open Go.RowKit
set_option linter.unusedVariables false
set_option linter.unusedSimpArgs false
set_option maxRecDepth 100000
theorem oneCell_flat (l : List Lb) : ∀ u ∈ l.flatMap lenc, u.oneCell' = true := by
  intro u hu
  rw [List.mem_flatMap] at hu
  obtain ⟨x, _, hx⟩ := hu
  simp [lenc] at hx
  rcases hx with rfl | rfl <;> rfl
set_option maxHeartbeats 2000000 in
theorem clone_any (v : Value) (l : List Lb) (w : World) (h : Sl lenc w v l) (hl : l.length ≤ 1000000) :
    Calls Tryd.prog 53 #[v] w fun e w' => ∃ v', e = .returned v' ∧ w'.ownsRow w.heap.size 88 2 v' l.length (l.flatMap lenc) ∧ Below w.heap.size w w' := by
  obtain ⟨a, cap, rfl, hlen, hnone, hc⟩ := h.len (fun x => by rw [lenc_len]; decide)
  obtain ⟨i0, hi, hz0, hz1, hz2⟩ := info_parts Tryd.infoLb
  cases a with
  | none =>
    obtain ⟨rfl, rfl⟩ := hnone rfl
    have he : ∀ w : World, (binOp .eql 39 (.slice none 0 0) (.slice none 0 0)).run Tryd.prog w = .ok (.bool true) w := fun _ => rfl
    go_enter Tryd.func53, Tryd.ntmps53
    go_wp2_with fail
    go_ret
    exact ⟨_, rfl, by simpa using World.ownsRow_nil _ _ _ _, Below.refl _ _⟩
  | some ad =>
    have HCC := Lib.hid hc
    have he : ∀ (n c : Nat) (w : World), (binOp .eql 39 (.slice (some ad) n c) (.slice none 0 0)).run Tryd.prog w = .ok (.bool false) w := fun _ _ _ => rfl
    have hb0 : Below w.heap.size w (w.alloc (.cells #[] 88)) := (Below.refl _ _).alloc (Nat.le_refl _) _
    have hslb := Sl.below h hb0 (Nat.le_refl _)
    obtain ⟨a2, cap2, e2, -, -, hc2⟩ := hslb.len (fun x => by rw [lenc_len]; decide)
    injection e2 with e2 e3 e4
    subst e2
    have HC2 := Lib.hid hc2
    clear hc hc2 hslb hnone h
    have HF1 := Lib.hid (flat_length lenc_len l)
    have HF2 := Lib.hid (oneCell_flat l)
    generalize l.flatMap lenc = F at HF1 HF2 HC2 ⊢
    go_enter Tryd.func53, Tryd.ntmps53
    go_wp2_with (at_builtin; refine wpList_append_rd rfl (.tmp 5) (.tmp 6) _ rfl w.heap.size 88 i0 (.agg #[.string ⟨#[]⟩, .string ⟨#[]⟩]) 2 32 Tryd.underlying39 hi hz0 hz1 hz2 rfl (by decide) _ 0 [] rfl (owns_lit (heap_new _ _) (Nat.le_refl _)) _ _ _ F rfl ?e1 ?e2 ?e3 ?e4 ?e5 ?e6 ?e7 ?_)
    case e2 => exact HF1.out
    case e3 => exact HC2.out ad rfl
    case e4 => exact HF2.out
    case e5 => unfold maxLen; omega
    case e6 => omega
    intro v' w1 hown hgrow
    have HO := Lib.hid hown
    have HG := Lib.hid hgrow
    clear hown hgrow
    go_wp2_with fail
    go_ret
    exact ⟨_, rfl, by simpa using HO.out, hb0.grown HG.out (by simp) (fun j hj => by simp [Value.ownBlock] at hj; omega)⟩
end Go.Proofs.YtnnfhcbopchodaaDoor
namespace Go.Proofs.YtnnfhcbopchodaaDoor
open Go.Sort
set_option linter.unusedVariables false
set_option linter.unusedSimpArgs false

theorem not_lt_of {β : Type} {lt : β → β → Bool} {x y : β} (hS : SWO lt) (h : lt x y = true) : lt y x = false := by
  cases h2 : lt y x with
  | false => rfl
  | true => have := hS.trans _ _ _ h h2; rw [hS.irrefl] at this; cases this
section
variable {α : Type} [Inhabited α]
def swapFrom (a b n : Nat) : Nat → Array α → Array α
  | i, d => if h : i < n then swapFrom a b n (i + 1) (swp d (a + i) (b + i)) else d
termination_by i => n - i
theorem swapFrom_size (a b n : Nat) : ∀ (i : Nat) (d : Array α), (swapFrom a b n i d).size = d.size := by
  intro i d
  fun_induction swapFrom a b n i d with
  | case1 i d h ih => rw [ih, size_swp]
  | case2 i d h => rfl
theorem swapFrom_perm (a b n lo hi : Nat) (h1 : lo ≤ a) (h2 : a + n ≤ hi) (h3 : lo ≤ b) (h4 : b + n ≤ hi) : ∀ (i : Nat) (d : Array α), hi ≤ d.size → PermIn lo hi d (swapFrom a b n i d) := by
  intro i d
  fun_induction swapFrom a b n i d with
  | case1 i d h ih => exact fun hs => permIn_trans _ _ _ _ _ (swp_permIn d lo hi (a + i) (b + i) (by omega) (by omega) (by omega) (by omega) hs) (ih (by rw [size_swp]; exact hs))
  | case2 i d h => exact fun _ => permIn_refl _ _ _
theorem swapFrom_at (a b n : Nat) (hd : a + n ≤ b ∨ b + n ≤ a) : ∀ (i : Nat) (d : Array α), a + n ≤ d.size → b + n ≤ d.size → ∀ x, (swapFrom a b n i d)[x]! = if a + i ≤ x ∧ x < a + n then d[b + (x - a)]! else if b + i ≤ x ∧ x < b + n then d[a + (x - b)]! else d[x]! := by
  intro i d
  fun_induction swapFrom a b n i d with
  | case1 i d h ih =>
    intro h1 h2 x
    rw [ih (by rw [size_swp]; exact h1) (by rw [size_swp]; exact h2) x]
    by_cases c1 : a + (i + 1) ≤ x ∧ x < a + n
    · rw [if_pos c1, if_pos (by omega), swp_other _ _ _ _ (by omega) (by omega)]
    · rw [if_neg c1]
      by_cases c2 : b + (i + 1) ≤ x ∧ x < b + n
      · rw [if_pos c2, if_neg (by omega), if_pos (by omega), swp_other _ _ _ _ (by omega) (by omega)]
      · rw [if_neg c2]
        by_cases c3 : x = a + i
        · subst c3
          rw [if_pos (by omega), swp_left _ _ _ (by omega) (by omega)]
          congr 1; omega
        · by_cases c4 : x = b + i
          · subst c4
            rw [if_neg (by omega), if_pos (by omega), swp_right _ _ _ (by omega)]
            congr 1; omega
          · rw [swp_other _ _ _ _ c3 c4, if_neg (by omega), if_neg (by omega)]
  | case2 i d h =>
    intro h1 h2 x
    rw [if_neg (by omega), if_neg (by omega)]

/-- The row, its part from lo to hi turned at m. -/
def rot (lo m hi : Nat) (d : Array α) (x : Nat) : α := if lo ≤ x ∧ x < lo + (hi - m) then d[x - lo + m]! else if lo + (hi - m) ≤ x ∧ x < hi then d[x - (hi - m)]! else d[x]!
theorem rot_more (m i j : Nat) (d : Array α) (hi : i ≤ m) (hij : j < i) (hj : 0 < j) (hs : m + j ≤ d.size) (x : Nat) :
    rot (m - i) m (m + j) d x = rot (m - (i - j)) m (m + j) (swapFrom (m - i) m j 0 d) x := by
  have hat := swapFrom_at (m - i) m j (.inl (by omega)) 0 d (by omega) (by omega)
  simp only [rot, hat]
  repeat' split
  all_goals first | (exfalso; omega) | rfl | (congr 1; omega)
theorem rot_less (m i j : Nat) (d : Array α) (hi : i ≤ m) (hij : i < j) (h0 : 0 < i) (hs : m + j ≤ d.size) (x : Nat) :
    rot (m - i) m (m + j) d x = rot (m - i) m (m + (j - i)) (swapFrom (m - i) (m + j - i) i 0 d) x := by
  have hat := swapFrom_at (m - i) (m + j - i) i (.inl (by omega)) 0 d (by omega) (by omega)
  simp only [rot, hat]
  repeat' split
  all_goals first | (exfalso; omega) | rfl | (congr 1; omega)
theorem rot_end (m i : Nat) (d : Array α) (hi : i ≤ m) (hs : m + i ≤ d.size) (x : Nat) :
    (swapFrom (m - i) m i 0 d)[x]! = rot (m - i) m (m + i) d x := by
  have hat := swapFrom_at (m - i) m i (.inl (by omega)) 0 d (by omega) (by omega)
  rw [hat]
  simp only [rot]
  repeat' split
  all_goals first | (exfalso; omega) | rfl | (congr 1; omega)

variable {lt : α → α → Bool}
/-- Two sorted parts, each of the first before each of the second. -/
theorem sorted_join {a m b : Nat} {d : Array α} (h1 : SortedIn lt a m d) (h2 : SortedIn lt m b d) (h3 : ∀ i j, a ≤ i → i < m → m ≤ j → j < b → lt d[j]! d[i]! = false) : SortedIn lt a b d := by
  intro i j hi hij hj
  by_cases c1 : j < m
  · exact h1 i j hi hij c1
  · by_cases c2 : m ≤ i
    · exact h2 i j c2 hij hj
    · exact h3 i j hi (by omega) (by omega) hj
/-- A sorted part's later one, and an equal place: never less. -/
theorem sorted_le {a b : Nat} {d : Array α} (hS : SWO lt) (h : SortedIn lt a b d) {i j : Nat} (hi : a ≤ i) (hij : i ≤ j) (hj : j < b) : lt d[j]! d[i]! = false := by
  rcases Nat.lt_or_ge i j with c | c
  · exact h i j hi c hj
  · obtain rfl : i = j := by omega
    exact hS.irrefl _
/-- What the merge's one turn brings about: of two sorted parts, parted at 'start' and 'end', turned in the middle. -/
theorem merge_turn {a m b s e : Nat} {d d1 : Array α} (hS : SWO lt) (ham : a ≤ s) (hsm : s ≤ m) (hme : m ≤ e) (heb : e ≤ b) (h1 : SortedIn lt a m d) (h2 : SortedIn lt m b d)
    (hlo : s = a ∨ e = b ∨ lt d[e]! d[s - 1]! = false) (hhi : s = m ∨ e = m ∨ lt d[e - 1]! d[s]! = true) (hr : ∀ x, d1[x]! = rot s m e d x) :
    (∀ x, a ≤ x → x < s → d1[x]! = d[x]!) ∧ (∀ x, e ≤ x → x < b → d1[x]! = d[x]!) ∧ (∀ x, s ≤ x → x < s + (e - m) → d1[x]! = d[x - s + m]!) ∧ (∀ x, s + (e - m) ≤ x → x < e → d1[x]! = d[x - (e - m)]!) ∧
    SortedIn lt a s d1 ∧ SortedIn lt s (s + (e - m)) d1 ∧ SortedIn lt (s + (e - m)) e d1 ∧ SortedIn lt e b d1 ∧
    (∀ i j, a ≤ i → i < s + (e - m) → s + (e - m) ≤ j → j < b → lt d1[j]! d1[i]! = false) := by
  have e1 : ∀ x, x < s → d1[x]! = d[x]! := fun x hx => by rw [hr, rot, if_neg (by omega), if_neg (by omega)]
  have e2 : ∀ x, e ≤ x → d1[x]! = d[x]! := fun x hx => by rw [hr, rot, if_neg (by omega), if_neg (by omega)]
  have e3 : ∀ x, s ≤ x → x < s + (e - m) → d1[x]! = d[x - s + m]! := fun x h h' => by rw [hr, rot, if_pos ⟨h, h'⟩]
  have e4 : ∀ x, s + (e - m) ≤ x → x < e → d1[x]! = d[x - (e - m)]! := fun x h h' => by rw [hr, rot, if_neg (by omega), if_pos ⟨h, h'⟩]
  refine ⟨fun x _ h => e1 x h, fun x h _ => e2 x h, e3, e4, ?_, ?_, ?_, ?_, ?_⟩
  · intro i j hi hij hj
    rw [e1 i (by omega), e1 j hj]
    exact h1 i j hi hij (by omega)
  · intro i j hi hij hj
    rw [e3 i (by omega) (by omega), e3 j (by omega) hj]
    exact h2 _ _ (by omega) (by omega) (by omega)
  · intro i j hi hij hj
    rw [e4 i (by omega) (by omega), e4 j (by omega) hj]
    exact h1 _ _ (by omega) (by omega) (by omega)
  · intro i j hi hij hj
    rw [e2 i (by omega), e2 j (by omega)]
    exact h2 _ _ (by omega) hij hj
  · intro i j hi hij hj1 hj2
    by_cases ci : i < s
    · rw [e1 i ci]
      by_cases cj : j < e
      · rw [e4 j hj1 cj]
        exact sorted_le hS h1 hi (by omega) (by omega)
      · rw [e2 j (by omega)]
        rcases hlo with h | h | h
        · omega
        · omega
        · have a1 : lt d[s - 1]! d[i]! = false := sorted_le hS h1 hi (by omega) (by omega)
          have a2 : lt d[j]! d[e]! = false := sorted_le hS h2 hme (by omega) hj2
          exact hS.ntrans _ _ _ a2 (hS.ntrans _ _ _ h a1)
    · rw [e3 i (by omega) hij]
      by_cases cj : j < e
      · rw [e4 j hj1 cj]
        rcases hhi with h | h | h
        · omega
        · omega
        · have a1 : lt d[e - 1]! d[i - s + m]! = false := sorted_le hS h2 (by omega) (by omega) (by omega)
          have a2 : lt d[j - (e - m)]! d[s]! = false := sorted_le hS h1 ham (by omega) (by omega)
          have a3 : lt d[s]! d[e - 1]! = false := not_lt_of hS h
          exact hS.ntrans _ _ _ a2 (hS.ntrans _ _ _ a3 a1)
      · rw [e2 j (by omega)]
        exact sorted_le hS h2 (by omega) (by omega) hj2
/-- Each half sorted behind the turn: the whole. -/
theorem merge_halves {a mid b : Nat} {d1 d2 d3 : Array α} (hb : b ≤ d1.size) (ham : a ≤ mid) (hmb : mid ≤ b) (hx : ∀ i j, a ≤ i → i < mid → mid ≤ j → j < b → lt d1[j]! d1[i]! = false)
    (p1 : PermIn a mid d1 d2) (s1 : SortedIn lt a mid d2) (p2 : PermIn mid b d2 d3) (s2 : SortedIn lt mid b d3) : PermIn a b d1 d3 ∧ SortedIn lt a b d3 := by
  have hsz2 : d2.size = d1.size := p1.1
  refine ⟨permIn_trans _ _ _ _ _ (permIn_mono _ _ a mid a b (Nat.le_refl _) hmb hb p1) (permIn_mono _ _ mid b a b ham (Nat.le_refl _) (by omega) p2), ?_⟩
  have q1 : ∀ i j, a ≤ i → i < mid → mid ≤ j → j < b → lt d2[j]! d2[i]! = false := by
    intro i j hi hi2 hj hj2
    rw [p1.2.1 j (.inr hj)]
    exact permIn_all d1 d2 a mid (fun z => lt d1[j]! z = false) (by omega) p1 (fun i h h' => hx i j h h' hj hj2) i hi hi2
  have q2 : ∀ i j, a ≤ i → i < mid → mid ≤ j → j < b → lt d3[j]! d3[i]! = false := by
    intro i j hi hi2 hj hj2
    rw [p2.2.1 i (.inl hi2)]
    exact permIn_all d2 d3 mid b (fun z => lt z d2[i]! = false) (by omega) p2 (fun j h h' => q1 i j hi hi2 h h') j hj hj2
  refine sorted_join (m := mid) ?_ s2 q2
  intro i j hi hij hj
  rw [p2.2.1 i (.inl (by omega)), p2.2.1 j (.inl hj)]
  exact s1 i j hi hij hj
end
end Go.Proofs.YtnnfhcbopchodaaDoor
namespace Go.Proofs.YtnnfhcbopchodaaDoor
open Go.Shelf Go.RowKit Go.Lib Go.Sort
set_option linter.unusedVariables false
set_option linter.unusedSimpArgs false
section
variable {α : Type} [Inhabited α] {enc : α → List Value} {k : Nat}
theorem holdsK_own {w : World} {base g n cap : Nat} {e : TypeId} {l : List α} (hk : ∀ x, (enc x).length = k) (h0 : 0 < k) (h : w.ownsRow base e k (.slice (some ⟨g, 0, none⟩) n cap) n (l.flatMap enc)) : HoldsK enc k w g 0 l.toArray := by
  intro j hj
  rw [size_flatK] at hj
  have hj2 : j < l.length * k := by simpa using hj
  refine ⟨?_, h.frozenAt _⟩
  have hq : j / k < l.length := Nat.div_lt_of_lt_mul (by rw [Nat.mul_comm]; exact hj2)
  have hr : j % k < k := Nat.mod_lt _ h0
  have e1 := flat_get hk l (j / k) (j % k) hr hq
  rw [show j / k * k + j % k = j by rw [Nat.mul_comm]; exact Nat.div_add_mod j k] at e1
  rw [get_flatK enc k _ j hj]
  have e2 : l.toArray[j / k]! = l[j / k] := by simp [hq]
  rw [e2]
  have hr2 : j % k < (enc l[j / k]).length := by rw [hk]; exact hr
  rw [List.getElem?_eq_getElem hr2] at e1
  have e3 := h.cells (g := g) rfl j _ e1
  rw [Addr.add_lit, Nat.zero_add] at e3
  rw [Nat.zero_add]
  show w.cell? _ = some ((enc l[j / k])[j % k]!)
  rw [getElem!_pos (enc l[j / k]) (j % k) hr2]
  exact e3
theorem SWK.slice {w0 W : World} {g cap : Nat} {d0 d : Array α} (h : SWK enc k w0 g 0 d W) (hk : ∀ x, (enc x).length = k) (h0 : 0 < k) (hH : HoldsK enc k w0 g 0 d0) (hg : g < w0.heap.size) (hs : d.size = d0.size) (hc : d.size ≤ cap ∧ cap ≤ 9223372036854775807) : Sl enc W (.slice (some ⟨g, 0, none⟩) d.size cap) d.toList := by
  have hh := h.holds hg hH hs
  refine ⟨_, cap, by simp, by simpa using hc, (fun e => by cases e), fun _ => ⟨g, 0, rfl, fun j u hu => ?_⟩⟩
  have hj : j < d.size * k := by
    have := (List.getElem?_eq_some_iff.1 hu).1
    rw [flat_length hk] at this
    simpa using this
  have hq : j / k < d.size := Nat.div_lt_of_lt_mul (by rw [Nat.mul_comm]; exact hj)
  have hr : j % k < k := Nat.mod_lt _ h0
  have e1 := flat_get hk d.toList (j / k) (j % k) hr (by simpa using hq)
  rw [show j / k * k + j % k = j by rw [Nat.mul_comm]; exact Nat.div_add_mod j k, hu] at e1
  have hx : d[j / k]! = d.toList[j / k]'(by simpa using hq) := by simp [hq]
  have := HoldsK.cells hh hk hq (j % k) u (by rw [hx]; exact e1.symm)
  rw [Addr.add_lit, Nat.zero_add, show j / k * k + j % k = j by rw [Nat.mul_comm]; exact Nat.div_add_mod j k] at this
  rw [Nat.zero_add]; exact this
theorem SWK.grownBy {w0 W : World} {g : Nat} {d : Array α} (h : SWK enc k w0 g 0 d W) : w0.grownBy W (some g) := by
  obtain ⟨n, os, rfl⟩ := h
  unfold sortWorldK putRowK
  refine ⟨rfl, rfl, rfl, by simp, fun b hk hne => ?_⟩
  rw [heap_grow_old _ _ (by simpa using hk)]
  have : g ≠ b := fun e => hne (by rw [e])
  simp [putRow, mapBlock, Sort.ahead, Array.getElem?_modify, this]
end
end Go.Proofs.YtnnfhcbopchodaaDoor
