/- The walk of WindowSmall. -/
import Derived.Test.YtidmbjgnkodiiaaWin12
import Derived.Test.YtidmbjgnkodiiaaWin16
import Derived.Test.YtidmbjgnkodiiaaWin17
namespace Go.Proofs.Ytidmbjgnkodiiaa
open Go.RowKit
set_option linter.unusedVariables false
set_option linter.unusedSimpArgs false

theorem small_in (fn t len : Int) (v : Nat) (h : 1 ≤ len) (h1 : 1 ≤ fn) (h2 : fn ≤ 14) : fnR fn (t - len) t [(t, v)] = if need fn = 2 then (0, false) else (fnV fn.toNat v [] (t - (t - len)), true) := by
  have hv : vals (t - len) t [(t, v)] = [v] := by
    have : inside (t - len) t (t, v) = true := by simp [inside]; omega
    simp [vals, cutL, this]
  unfold fnR
  rw [if_pos ⟨h1, h2, by omega⟩, hv]
  show (if 0 + 1 < need fn then _ else _) = _
  unfold need
  by_cases h : fn = 8 ∨ fn = 9 ∨ fn = 10
  · rw [if_pos h]; rfl
  · rw [if_neg h]; rfl
theorem small_out (fn t len : Int) (v : Nat) : fnR fn t (t + len) [(t, v)] = (0, false) := by
  have hv : vals t (t + len) [(t, v)] = [] := by
    have : inside t (t + len) (t, v) = false := by simp [inside]
    simp [vals, cutL, this]
  unfold fnR
  rw [hv]
  split <;> rfl
theorem lits4 (w : World) (a b c d : Obj) : ((((w.alloc a).alloc b).alloc c).alloc d).heap[w.heap.size]? = some a ∧ ((((w.alloc a).alloc b).alloc c).alloc d).heap[w.heap.size + 1]? = some b ∧
    ((((w.alloc a).alloc b).alloc c).alloc d).heap[w.heap.size + 2]? = some c ∧ ((((w.alloc a).alloc b).alloc c).alloc d).heap[w.heap.size + 3]? = some d := by
  have n0 := heap_new w a
  have n1 := heap_new (w.alloc a) b
  have n2 := heap_new ((w.alloc a).alloc b) c
  have n3 := heap_new (((w.alloc a).alloc b).alloc c) d
  rw [show (w.alloc a).heap.size = w.heap.size + 1 by simp] at n1
  rw [show ((w.alloc a).alloc b).heap.size = w.heap.size + 2 by simp] at n2
  rw [show (((w.alloc a).alloc b).alloc c).heap.size = w.heap.size + 3 by simp] at n3
  refine ⟨?_, ?_, ?_, n3⟩
  · rw [Below.heap_alloc _ _ _ (by simp; omega), Below.heap_alloc _ _ _ (by simp; omega), Below.heap_alloc _ _ _ (by simp)]; exact n0
  · rw [Below.heap_alloc _ _ _ (by simp), Below.heap_alloc _ _ _ (by simp)]; exact n1
  · rw [Below.heap_alloc _ _ _ (by simp)]; exact n2
theorem fnV_small (v : Nat) (d : Int) (hv : v < 18446744073709551616) : fnV 1 v [] d = 4607182418800017408 ∧ fnV 2 v [] d = canon v ∧ fnV 3 v [] d = canon v ∧ fnV 4 v [] d = canon v ∧ fnV 5 v [] d = canon v ∧ fnV 6 v [] d = canon v ∧ fnV 7 v [] d = canon v ∧
    fnV 11 v [] d = 0 ∧ fnV 12 v [] d = 0 := by
  rw [fnV_1, fnV_2, fnV_3, fnV_4, fnV_5, fnV_6, fnV_7, fnV_11, fnV_12]
  have hs : fsum [v] = canon v := rfl
  have e1 : ((([] : List Nat).length : Int) + 1) = 1 := rfl
  have c1 : ∀ f, cnt f [v] = 0 := fun f => rfl
  rw [hs, e1, fenc_one, c1, c1, canon_canon]
  have hq : cop .quo (canon v) 4607182418800017408 = canon v := by
    have := cop_quo_one (canon_lt hv)
    rw [fenc_one, canon_canon] at this
    exact this
  rw [hq, canon_canon]
  refine ⟨by decide +kernel, rfl, rfl, rfl, rfl, rfl, rfl, ?_, ?_⟩ <;> decide +kernel

def W0 (w : World) (t : Int) (v : Nat) : World := w.alloc (.cells #[.int .i64 t, .float .f64 v] 45)
/-- One round of WindowSmall: what the calls of Fn tell. -/
structure Round8 (t len : Int) (v : Nat) (b : Nat) (w : World) : Prop where
  sl : Sl tenc w (.slice (some ⟨b, 0, none⟩) 1 1) [(t, v)]
  ht : -562949953421312 ≤ t ∧ t ≤ 562949953421312
  hlen : 1 ≤ len ∧ len ≤ 562949953421312
  hv : v < 18446744073709551616
theorem Round8.below {t len : Int} {v b : Nat} {w w' : World} (h : Round8 t len v b w) (hb : Below w.heap.size w w') : Round8 t len v b w' := ⟨h.sl.below hb (Nat.le_refl _), h.ht, h.hlen, h.hv⟩
theorem Round8.inn {t len : Int} {v b : Nat} {w : World} (h : Round8 t len v b w) (fn : Int) (h1 : 1 ≤ fn) (h2 : fn ≤ 14) {R : Nat × Bool} (hR : (if need fn = 2 then (0, false) else (fnV fn.toNat v [] (t - (t - len)), true)) = R) :
    Calls Try.prog 10 #[.int .i64 fn, .slice (some ⟨b, 0, none⟩) 1 1, .int .i64 (t - len), .int .i64 t] w fun e w' => e = .returned (.tuple #[.float .f64 R.1, .bool R.2]) ∧ Below w.heap.size w w' := by
  have := fn_any fn _ [(t, v)] (t - len) t w h.sl (by simp) (by have := h.ht; have := h.hlen; omega) (by have := h.ht; have := h.hlen; omega)
  rw [small_in fn t len v h.hlen.1 h1 h2, hR] at this
  exact this
theorem Round8.out {t len : Int} {v b : Nat} {w : World} (h : Round8 t len v b w) (fn : Int) :
    Calls Try.prog 10 #[.int .i64 fn, .slice (some ⟨b, 0, none⟩) 1 1, .int .i64 t, .int .i64 (t + len)] w fun e w' => e = .returned (.tuple #[.float .f64 0, .bool false]) ∧ Below w.heap.size w w' := by
  have := fn_any fn _ [(t, v)] t (t + len) w h.sl (by simp) (by have := h.ht; have := h.hlen; omega) (by have := h.ht; have := h.hlen; omega)
  rw [small_out fn t len v] at this
  exact this
theorem same_two (x y : Nat) (w : World) (h : canon x = canon y) :
    Calls Try.prog 12 #[.agg #[.slice (some ⟨w.heap.size, 0, none⟩) 1 1, .slice (some ⟨w.heap.size + 1, 0, none⟩) 1 1], .agg #[.slice (some ⟨w.heap.size + 2, 0, none⟩) 1 1, .slice (some ⟨w.heap.size + 3, 0, none⟩) 1 1]]
      ((((w.alloc (.cells #[.float .f64 x] 38)).alloc (.cells #[.bool true] 4)).alloc (.cells #[.float .f64 y] 38)).alloc (.cells #[.bool true] 4)) fun e w' => e = .returned (.bool true) ∧ Below w.heap.size w w' := by
  obtain ⟨n0, n1, n2, n3⟩ := lits4 w (.cells #[.float .f64 x] 38) (.cells #[.bool true] 4) (.cells #[.float .f64 y] 38) (.cells #[.bool true] 4)
  have hb : Below w.heap.size w ((((w.alloc (.cells #[.float .f64 x] 38)).alloc (.cells #[.bool true] 4)).alloc (.cells #[.float .f64 y] 38)).alloc (.cells #[.bool true] 4)) :=
    ((((Below.refl _ _).alloc (Nat.le_refl _) _).alloc (by simp) _).alloc (by simp; omega) _).alloc (by simp; omega) _
  refine (same_cols _ _ _ _ [x] [y] [true] _ (Sl.lit n0 rfl rfl (by simp)) (Sl.lit n2 rfl rfl (by simp)) (Sl.lit n1 rfl rfl (by decide)) (Sl.lit n3 rfl rfl (by decide)) (by simp [h])).mono ?_
  rintro e w' ⟨rfl, h2⟩
  exact ⟨rfl, hb.trans (h2.mono hb.size)⟩

end Go.Proofs.Ytidmbjgnkodiiaa
