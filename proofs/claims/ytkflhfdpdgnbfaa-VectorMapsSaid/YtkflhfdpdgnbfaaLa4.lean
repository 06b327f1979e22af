/- Lists' order: Compare, the code's and the document's. -/
import Derived.Test.YtkflhfdpdgnbfaaLa3
import Derived.Sort.Grow
import Derived.Shelf.SlSortCmp.QuietGrown
import Derived.Deep.DeepCutAuto
namespace Go.Proofs.Ytkflhfdpdgnbfaa
open Go.RowKit
set_option linter.unusedVariables false
set_option linter.unusedSimpArgs false
set_option maxRecDepth 100000

/-- A world with draws and new blocks: nothing else. -/
def Grew (w w' : World) : Prop := ∃ q os, w' = Sort.grow (w.drewN q) os
theorem Grew.refl (w : World) : Grew w w := ⟨0, #[], by rw [Sort.grow_empty]; rfl⟩
theorem Grew.alloc {w w' : World} (h : Grew w w') (o : Obj) : Grew w (w'.alloc o) := by
  obtain ⟨q, os, rfl⟩ := h
  exact ⟨q, os ++ #[o], by rw [Sort.alloc_eq_grow, Sort.grow_grow]⟩
theorem Grew.drewN {w w' : World} (h : Grew w w') (n : Nat) : Grew w (w'.drewN n) := by
  obtain ⟨q, os, rfl⟩ := h
  exact ⟨q + n, os, by rw [← World.drewN_drewN]; rfl⟩
theorem Grew.trans {a b c : World} (h : Grew a b) (k : Grew b c) : Grew a c := by
  obtain ⟨q, os, rfl⟩ := h
  obtain ⟨n, os', rfl⟩ := k
  exact ⟨q + n, os ++ os', by rw [← World.drewN_drewN, ← Sort.grow_grow]; rfl⟩
theorem Grew.below {w w' : World} (h : Grew w w') : Below w.heap.size w w' := by
  obtain ⟨q, os, rfl⟩ := h
  refine ⟨rfl, rfl, rfl, ?_, fun b hb => ?_⟩
  · show w.heap.size ≤ (w.heap ++ os).size
    rw [Array.size_append]; omega
  · show (w.heap ++ os)[b]? = w.heap[b]?
    rw [Array.getElem?_append_left hb]

/-- Of two labels. -/
def cmpP (x y : Lb) : Int := if cmpS x.1 y.1 = 0 then cmpS x.2 y.2 else cmpS x.1 y.1
/-- Of two lists. -/
def cmpL : List Lb → List Lb → Int
  | [], [] => 0
  | [], _ :: _ => -1
  | _ :: _, [] => 1
  | a :: r, b :: t => if cmpP a b = 0 then cmpL r t else cmpP a b
theorem order_qs (a b : ByteArray) (w : World) : Calls Try.prog 62 #[.string a, .string b] w fun e w' => e = .returned (.int .i64 (cmpS a b)) ∧ w = w' := (order_any a b w).mono fun _ _ h => ⟨h.1, h.2.symm⟩
theorem cmpS_ne (a b : ByteArray) : (!(a.toList == b.toList)) = decide (cmpS a b ≠ 0) := by
  rw [ByteArray.toList_eq, ByteArray.toList_eq, Bool.eq_iff_iff]
  simp [cmpS, cb_eq]
theorem cmp1_any (x y : Lb) (w : World) : Calls Try.prog 60 #[.agg (lenc x).toArray, .agg (lenc y).toArray] w fun e w' => e = .returned (.int .i64 (cmpP x y)) ∧ Grew w w' := by
  obtain ⟨a, b⟩ := x
  obtain ⟨c, d⟩ := y
  show Calls Try.prog 60 #[.agg #[.string a, .string b], .agg #[.string c, .string d]] w _
  have h1 : (!(a.toList == c.toList)) = decide (cmpS a c ≠ 0) := cmpS_ne a c
  by_cases h : cmpS a c = 0
  · have h2 : (!(a.toList == c.toList)) = false := by rw [h1]; simp [h]
    have h3 : (a.toList == c.toList) = true := by simpa using h2
    rw [show cmpP (a, b) (c, d) = cmpS b d by simp [cmpP, h]]
    clear h1
    go_enter Try.func60, Try.ntmps60
    go_wp2_with fail
    refine (Try.strings_Compare _ _ _).mono ?_
    rintro e w1 ⟨rfl, rfl⟩
    go_wp2_with fail
    go_ret
    exact ⟨rfl, ((Grew.refl _).alloc _).alloc _⟩
  · have h2 : (!(a.toList == c.toList)) = true := by rw [h1]; simp [h]
    have h3 : (a.toList == c.toList) = false := by simpa using h2
    rw [show cmpP (a, b) (c, d) = cmpS a c by simp [cmpP, h]]
    clear h1
    go_enter Try.func60, Try.ntmps60
    go_wp2_with fail
    refine (Try.strings_Compare _ _ _).mono ?_
    rintro e w1 ⟨rfl, rfl⟩
    go_wp2_with fail
    go_ret
    exact ⟨rfl, ((Grew.refl _).alloc _).alloc _⟩
set_option maxHeartbeats 2000000 in
/-- The document's. -/
theorem rcompare_any (v1 v2 : Value) (xs ys : List Lb) (w : World) (h1 : Sl lenc w v1 xs) (h2 : Sl lenc w v2 ys) :
    Calls Try.prog 34 #[v1, v2] w fun e w' => e = .returned (.int .i64 (cmpL xs ys)) ∧ ∃ n, w' = w.drewN n := by
  obtain ⟨a, cap, rfl, hlen, -, hc⟩ := h1.split lenc_len
  obtain ⟨a2, cap2, rfl, hlen2, -, hc2⟩ := h2.split lenc_len
  have HC := Lib.hid hc
  have HC2 := Lib.hid hc2
  clear hc hc2 h1 h2
  go_enter Try.func34, Try.ntmps34
  go_wp2_with fail
  go_loopw [5] (fun i wr => ∃ k : Nat, k ≤ xs.length ∧ k ≤ ys.length ∧ i = .int .i64 k ∧ Hid (cmpL (xs.drop k) (ys.drop k) = cmpL xs ys) ∧ ∃ n, wr = w.drewN n) (fun i _ => xs.length - (intOf i).toNat)
  case atStart => exact ⟨0, Nat.zero_le _, Nat.zero_le _, rfl, rfl, 0, rfl⟩
  case round =>
    obtain ⟨k, hk, hk2, rfl, HV, n, rfl⟩ := hrel
    by_cases hlt : k < xs.length
    · have hltz : (k : Int) < (xs.length : Int) := by omega
      by_cases hlt2 : k < ys.length
      · have hltz2 : (k : Int) < (ys.length : Int) := by omega
        have h00 : (0 : Int) ≤ (k : Int) := by omega
        obtain ⟨b, off, rfl, hk0, hk1⟩ := lab_cells HC.out (Below.refl _ _) (Nat.le_refl _) hlt
        obtain ⟨b2, off2, rfl, hj0, hj1⟩ := lab_cells HC2.out (Below.refl _ _) (Nat.le_refl _) hlt2
        have HD := Lib.hid (show xs.drop k = lx xs k :: xs.drop (k + 1) by rw [List.drop_eq_getElem_cons hlt]; simp [lx, hlt])
        have HD2 := Lib.hid (show ys.drop k = lx ys k :: ys.drop (k + 1) by rw [List.drop_eq_getElem_cons hlt2]; simp [lx, hlt2])
        go_wp2_with fail
        go_quiet ((go_at_call 62; first | refine qs (order_qs _ _ _) | refine quiet_same (order_qs _ _ _)))
        obtain ⟨p, hp⟩ : ∃ p, p = cmpS (lx xs k).1 (lx ys k).1 := ⟨_, rfl⟩
        rw [← hp]
        by_cases h0 : p = 0
        · have h0b : (p == 0) = true := by simpa using h0
          go_wp2_with fail
          go_quiet ((go_at_call 62; first | refine qs (order_qs _ _ _) | refine quiet_same (order_qs _ _ _)))
          obtain ⟨q, hq⟩ : ∃ q, q = cmpS (lx xs k).2 (lx ys k).2 := ⟨_, rfl⟩
          rw [← hq]
          have hpp : cmpP (lx xs k) (lx ys k) = q := by rw [cmpP, ← hp, if_pos h0, hq]
          have HPP := Lib.hid hpp
          clear hpp hp hq
          by_cases h1 : q = 0
          · have h1b : (q == 0) = true := by simpa using h1
            go_wp2_with fail
            go_roundw
            case rel => exact ⟨k + 1, by omega, by omega, by go_num, by show _ = _; rw [← HV.out, HD.out, HD2.out, cmpL, HPP.out, if_pos h1], _, by first | rfl | (simp only [World.drewN_drewN])⟩
            case measure => simp [intOf]; omega
          · have h1b : (q == 0) = false := by simpa using h1
            go_wp2_with fail
            go_ret
            exact ⟨by rw [← HV.out, HD.out, HD2.out, cmpL, HPP.out, if_neg h1] <;> rfl, _, by first | rfl | (simp only [World.drewN_drewN])⟩
        · have h0b : (p == 0) = false := by simpa using h0
          have hpp : cmpP (lx xs k) (lx ys k) = p := by rw [cmpP, ← hp, if_neg h0]
          have HPP := Lib.hid hpp
          clear hpp hp
          go_wp2_with fail
          go_ret
          exact ⟨by rw [← HV.out, HD.out, HD2.out, cmpL, HPP.out, if_neg h0] <;> rfl, _, by first | rfl | (simp only [World.drewN_drewN])⟩
      · have hltz2 : ¬ (k : Int) < (ys.length : Int) := by omega
        have e2 : ys.drop k = [] := List.drop_eq_nil_of_le (by omega)
        have e1 : xs.drop k = lx xs k :: xs.drop (k + 1) := by rw [List.drop_eq_getElem_cons hlt]; simp [lx, hlt]
        have hz1 : ¬ (xs.length : Int) < (ys.length : Int) := by omega
        have hz2 : (ys.length : Int) < (xs.length : Int) := by omega
        have HE := Lib.hid (show cmpL xs ys = 1 by rw [← HV.out, e1, e2]; rfl)
        clear e1 e2
        go_wp2_with fail
        go_ret
        exact ⟨by rw [HE.out] <;> rfl, _, rfl⟩
    · have hltz : ¬ (k : Int) < (xs.length : Int) := by omega
      have e1 : xs.drop k = [] := List.drop_eq_nil_of_le (by omega)
      by_cases hlt2 : k < ys.length
      · have e2 : ys.drop k = lx ys k :: ys.drop (k + 1) := by rw [List.drop_eq_getElem_cons hlt2]; simp [lx, hlt2]
        have hz1 : (xs.length : Int) < (ys.length : Int) := by omega
        have HE := Lib.hid (show cmpL xs ys = -1 by rw [← HV.out, e1, e2]; rfl)
        clear e1 e2
        go_wp2_with fail
        go_ret
        exact ⟨by rw [HE.out] <;> rfl, _, rfl⟩
      · have e2 : ys.drop k = [] := List.drop_eq_nil_of_le (by omega)
        have hz1 : ¬ (xs.length : Int) < (ys.length : Int) := by omega
        have hz2 : ¬ (ys.length : Int) < (xs.length : Int) := by omega
        have HE := Lib.hid (show cmpL xs ys = 0 by rw [← HV.out, e1, e2]; rfl)
        clear e1 e2
        go_wp2_with fail
        go_ret
        exact ⟨by rw [HE.out] <;> rfl, _, rfl⟩
end Go.Proofs.Ytkflhfdpdgnbfaa
