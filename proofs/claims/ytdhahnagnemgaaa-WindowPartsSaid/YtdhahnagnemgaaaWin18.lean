/- The walk of WindowSmall. -/
import Derived.Test.YtdhahnagnemgaaaWin12
import Derived.Test.YtdhahnagnemgaaaWin16
import Derived.Test.YtdhahnagnemgaaaWin17
namespace Go.Proofs.Ytdhahnagnemgaaa
open Go.RowKit
set_option linter.unusedVariables false
set_option linter.unusedSimpArgs false

theorem small_in (fn t len : Int) (v : Nat) (h : 1 ≤ len) (h1 : 1 ≤ fn) (h2 : fn ≤ 14) : fnR fn (t - len) t [(t, v)] = if need fn = 2 then (0, false) else (fnV fn.toNat v [] (t - (t - len)), true) := by
  have hv : vals (t - len) t [(t, v)] = [v] := by
    have : inside (t - len) t (t, v) = true := by simp [inside]; omega
    simp [vals, cutL, this]
  unfold fnR
  rw [if_pos ⟨h1, h2, by omega⟩, hv]
  show (if 0 + 1 < need fn then _ else _) = _
  unfold need
  by_cases h : fn = 8 ∨ fn = 9 ∨ fn = 10
  · rw [if_pos h]; rfl
  · rw [if_neg h]; rfl
theorem small_out (fn t len : Int) (v : Nat) : fnR fn t (t + len) [(t, v)] = (0, false) := by
  have hv : vals t (t + len) [(t, v)] = [] := by
    have : inside t (t + len) (t, v) = false := by simp [inside]
    simp [vals, cutL, this]
  unfold fnR
  rw [hv]
  split <;> rfl
theorem lits4 (w : World) (a b c d : Obj) : ((((w.alloc a).alloc b).alloc c).alloc d).heap[w.heap.size]? = some a ∧ ((((w.alloc a).alloc b).alloc c).alloc d).heap[w.heap.size + 1]? = some b ∧
    ((((w.alloc a).alloc b).alloc c).alloc d).heap[w.heap.size + 2]? = some c ∧ ((((w.alloc a).alloc b).alloc c).alloc d).heap[w.heap.size + 3]? = some d := by
  have n0 := heap_new w a
  have n1 := heap_new (w.alloc a) b
  have n2 := heap_new ((w.alloc a).alloc b) c
  have n3 := heap_new (((w.alloc a).alloc b).alloc c) d
  rw [show (w.alloc a).heap.size = w.heap.size + 1 by simp] at n1
  rw [show ((w.alloc a).alloc b).heap.size = w.heap.size + 2 by simp] at n2
  rw [show (((w.alloc a).alloc b).alloc c).heap.size = w.heap.size + 3 by simp] at n3
  refine ⟨?_, ?_, ?_, n3⟩
  · rw [Below.heap_alloc _ _ _ (by simp; omega), Below.heap_alloc _ _ _ (by simp; omega), Below.heap_alloc _ _ _ (by simp)]; exact n0
  · rw [Below.heap_alloc _ _ _ (by simp), Below.heap_alloc _ _ _ (by simp)]; exact n1
  · rw [Below.heap_alloc _ _ _ (by simp)]; exact n2
theorem fnV_small (v : Nat) (d : Int) (hv : v < 18446744073709551616) : fnV 1 v [] d = 4607182418800017408 ∧ fnV 2 v [] d = canon v ∧ fnV 3 v [] d = canon v ∧ fnV 4 v [] d = canon v ∧ fnV 5 v [] d = canon v ∧ fnV 6 v [] d = canon v ∧ fnV 7 v [] d = canon v ∧
    fnV 11 v [] d = 0 ∧ fnV 12 v [] d = 0 := by
  rw [fnV_1, fnV_2, fnV_3, fnV_4, fnV_5, fnV_6, fnV_7, fnV_11, fnV_12]
  have hs : fsum [v] = canon v := rfl
  have e1 : ((([] : List Nat).length : Int) + 1) = 1 := rfl
  have c1 : ∀ f, cnt f [v] = 0 := fun f => rfl
  rw [hs, e1, fenc_one, c1, c1, canon_canon]
  have hq : cop .quo (canon v) 4607182418800017408 = canon v := by
    have := cop_quo_one (canon_lt hv)
    rw [fenc_one, canon_canon] at this
    exact this
  rw [hq, canon_canon]
  refine ⟨by decide +kernel, rfl, rfl, rfl, rfl, rfl, rfl, ?_, ?_⟩ <;> decide +kernel

def W0 (w : World) (t : Int) (v : Nat) : World := w.alloc (.cells #[.int .i64 t, .float .f64 v] 85)
/-- One round of WindowSmall: what the calls of Fn tell. -/
structure Round8 (t len : Int) (v : Nat) (b : Nat) (w : World) : Prop where
  sl : Sl tenc w (.slice (some ⟨b, 0, none⟩) 1 1) [(t, v)]
  ht : -562949953421312 ≤ t ∧ t ≤ 562949953421312
  hlen : 1 ≤ len ∧ len ≤ 562949953421312
  hv : v < 18446744073709551616
theorem Round8.below {t len : Int} {v b : Nat} {w w' : World} (h : Round8 t len v b w) (hb : Below w.heap.size w w') : Round8 t len v b w' := ⟨h.sl.below hb (Nat.le_refl _), h.ht, h.hlen, h.hv⟩
theorem Round8.inn {t len : Int} {v b : Nat} {w : World} (h : Round8 t len v b w) (fn : Int) (h1 : 1 ≤ fn) (h2 : fn ≤ 14) {R : Nat × Bool} (hR : (if need fn = 2 then (0, false) else (fnV fn.toNat v [] (t - (t - len)), true)) = R) :
    Calls Try.prog 42 #[.int .i64 fn, .slice (some ⟨b, 0, none⟩) 1 1, .int .i64 (t - len), .int .i64 t] w fun e w' => e = .returned (.tuple #[.float .f64 R.1, .bool R.2]) ∧ Below w.heap.size w w' := by
  have := fn_any fn _ [(t, v)] (t - len) t w h.sl (by simp) (by have := h.ht; have := h.hlen; omega) (by have := h.ht; have := h.hlen; omega)
  rw [small_in fn t len v h.hlen.1 h1 h2, hR] at this
  exact this
theorem Round8.out {t len : Int} {v b : Nat} {w : World} (h : Round8 t len v b w) (fn : Int) :
    Calls Try.prog 42 #[.int .i64 fn, .slice (some ⟨b, 0, none⟩) 1 1, .int .i64 t, .int .i64 (t + len)] w fun e w' => e = .returned (.tuple #[.float .f64 0, .bool false]) ∧ Below w.heap.size w w' := by
  have := fn_any fn _ [(t, v)] t (t + len) w h.sl (by simp) (by have := h.ht; have := h.hlen; omega) (by have := h.ht; have := h.hlen; omega)
  rw [small_out fn t len v] at this
  exact this
theorem same_two (x y : Nat) (w : World) (h : canon x = canon y) :
    Calls Try.prog 52 #[.agg #[.slice (some ⟨w.heap.size, 0, none⟩) 1 1, .slice (some ⟨w.heap.size + 1, 0, none⟩) 1 1], .agg #[.slice (some ⟨w.heap.size + 2, 0, none⟩) 1 1, .slice (some ⟨w.heap.size + 3, 0, none⟩) 1 1]]
      ((((w.alloc (.cells #[.float .f64 x] 28)).alloc (.cells #[.bool true] 4)).alloc (.cells #[.float .f64 y] 28)).alloc (.cells #[.bool true] 4)) fun e w' => e = .returned (.bool true) ∧ Below w.heap.size w w' := by
  obtain ⟨n0, n1, n2, n3⟩ := lits4 w (.cells #[.float .f64 x] 28) (.cells #[.bool true] 4) (.cells #[.float .f64 y] 28) (.cells #[.bool true] 4)
  have hb : Below w.heap.size w ((((w.alloc (.cells #[.float .f64 x] 28)).alloc (.cells #[.bool true] 4)).alloc (.cells #[.float .f64 y] 28)).alloc (.cells #[.bool true] 4)) :=
    ((((Below.refl _ _).alloc (Nat.le_refl _) _).alloc (by simp) _).alloc (by simp; omega) _).alloc (by simp; omega) _
  refine (same_cols _ _ _ _ [x] [y] [true] _ (Sl.lit n0 rfl rfl (by simp)) (Sl.lit n2 rfl rfl (by simp)) (Sl.lit n1 rfl rfl (by decide)) (Sl.lit n3 rfl rfl (by decide)) (by simp [h])).mono ?_
  rintro e w' ⟨rfl, h2⟩
  exact ⟨rfl, hb.trans (h2.mono hb.size)⟩

set_option maxRecDepth 100000 in
set_option maxHeartbeats 8000000 in
theorem windowSmall_walk (t : Int) (v : Nat) (len : Int) (w : World) (_ : (Lit.int .i64 t).wf = true) (hvw : (Lit.float .f64 v).wf = true) (_ : (Lit.int .i64 len).wf = true) :
    Calls Try.prog 13 #[.int .i64 t, .float .f64 v, .int .i64 len] w fun e w' => e = .returned (.bool true) ∧ Below w.heap.size w w' := by
  have hv : v < 18446744073709551616 := by simpa [Lit.wf] using hvw
  clear hvw
  by_cases c1 : t < -562949953421312 ∨ 562949953421312 < t ∨ len < 1 ∨ 562949953421312 < len
  · have br : (t < -562949953421312) ∨ (¬ t < -562949953421312 ∧ 562949953421312 < t) ∨ (¬ t < -562949953421312 ∧ ¬ 562949953421312 < t ∧ len < 1) ∨ (¬ t < -562949953421312 ∧ ¬ 562949953421312 < t ∧ ¬ len < 1 ∧ 562949953421312 < len) := by omega
    clear c1
    rcases br with g1 | ⟨g1, g2⟩ | ⟨g1, g2, g3⟩ | ⟨g1, g2, g3, g4⟩
    all_goals
      go_enter Try.func13, Try.ntmps13
      go_wp2_with fail
      refine (known8 _).mono ?_
      rintro e w1 ⟨rfl, hb1⟩
      go_wp2_with fail
      go_ret
      exact ⟨rfl, hb1⟩
  · have hfv := fnV_small v (t - (t - len)) hv
    have HV := Lib.hid hfv
    obtain ⟨g1, g2, g3, g4⟩ : ¬ t < -562949953421312 ∧ ¬ 562949953421312 < t ∧ ¬ len < 1 ∧ ¬ 562949953421312 < len := by omega
    clear hfv c1
    go_enter Try.func13, Try.ntmps13
    go_wp2_with fail
    refine (known8 _).mono ?_
    rintro e w1 ⟨rfl, hb1⟩
    have HB1 := Lib.hid hb1
    clear hb1
    go_wp2_with fail
    have hr0 : Round8 t len v w1.heap.size (w1.alloc (.cells #[.int .i64 t, .float .f64 v] 85)) := ⟨Sl.lit (heap_new w1 _) rfl rfl (by simp), by omega, by omega, hv⟩
    have hb0 : Below w.heap.size w (w1.alloc (.cells #[.int .i64 t, .float .f64 v] 85)) := HB1.out.alloc HB1.out.size _
    obtain ⟨w2, hw2⟩ : ∃ w2, w2 = w1.alloc (.cells #[.int .i64 t, .float .f64 v] 85) := ⟨_, rfl⟩
    rw [← hw2] at hr0 hb0 ⊢
    have HR0 := Lib.hid hr0
    have HB0 := Lib.hid hb0
    clear hw2 hr0 hb0
    go_loopw [8] (fun i wr => ∃ n : Int, 1 ≤ n ∧ n ≤ 15 ∧ i = .int .i64 n ∧ Below w2.heap.size w2 wr) (fun i _ => 15 - (intOf i).toNat)
    case atStart => exact ⟨1, by omega, by omega, rfl, Below.refl _ _⟩
    case round =>
      obtain ⟨n, hn1, hn2, rfl, hb⟩ := hrel
      have hr : Round8 t len v w1.heap.size wr := HR0.out.below hb
      have hn : n = 1 ∨ n = 2 ∨ n = 3 ∨ n = 4 ∨ n = 5 ∨ n = 6 ∨ n = 7 ∨ n = 8 ∨ n = 9 ∨ n = 10 ∨ n = 11 ∨ n = 12 ∨ n = 13 ∨ n = 14 ∨ n = 15 := by omega
      clear hn1 hn2
      rcases hn with rfl | rfl | rfl | rfl | rfl | rfl | rfl | rfl | rfl | rfl | rfl | rfl | rfl | rfl | rfl
      · have hin := hr.inn 1 (by omega) (by omega) (R := (fnV 1 v [] (t - (t - len)), true)) (by rw [if_neg (by decide)]; rfl)
        have HIN := Lib.hid hin
        have HR := Lib.hid hr
        have HB := Lib.hid hb
        clear hin hr hb
        go_wp2_with fail
        refine HIN.out.mono ?_
        rintro e w3 ⟨rfl, hb3⟩
        have HB3 := Lib.hid hb3
        have HR3 := Lib.hid (HR.out.below hb3)
        clear hb3
        go_wp2_with fail
        refine (HR3.out.out _).mono ?_
        rintro e w4 ⟨rfl, hb4⟩
        have HB4 := Lib.hid (HB.out.trans ((HB3.out.trans (hb4.mono HB3.out.size)).mono HB.out.size))
        clear hb4
        go_wp2_with fail
        refine (same_two _ _ w4 (congrArg canon (HV.out.1))).mono ?_
        rintro e w5 ⟨rfl, hb5⟩
        have HB5 := Lib.hid (HB4.out.trans (hb5.mono HB4.out.size))
        clear hb5
        go_wp2_with fail
        go_roundw
        case rel => exact ⟨2, by omega, by omega, rfl, HB5.out⟩
        case measure => simp [intOf]
      · have hin := hr.inn 2 (by omega) (by omega) (R := (fnV 2 v [] (t - (t - len)), true)) (by rw [if_neg (by decide)]; rfl)
        have HIN := Lib.hid hin
        have HR := Lib.hid hr
        have HB := Lib.hid hb
        clear hin hr hb
        go_wp2_with fail
        refine HIN.out.mono ?_
        rintro e w3 ⟨rfl, hb3⟩
        have HB3 := Lib.hid hb3
        have HR3 := Lib.hid (HR.out.below hb3)
        clear hb3
        go_wp2_with fail
        refine (HR3.out.out _).mono ?_
        rintro e w4 ⟨rfl, hb4⟩
        have HB4 := Lib.hid (HB.out.trans ((HB3.out.trans (hb4.mono HB3.out.size)).mono HB.out.size))
        clear hb4
        go_wp2_with fail
        refine (same_two _ _ w4 ((congrArg canon (HV.out.2.1)).trans (canon_canon _))).mono ?_
        rintro e w5 ⟨rfl, hb5⟩
        have HB5 := Lib.hid (HB4.out.trans (hb5.mono HB4.out.size))
        clear hb5
        go_wp2_with fail
        go_roundw
        case rel => exact ⟨3, by omega, by omega, rfl, HB5.out⟩
        case measure => simp [intOf]
      · have hin := hr.inn 3 (by omega) (by omega) (R := (fnV 3 v [] (t - (t - len)), true)) (by rw [if_neg (by decide)]; rfl)
        have HIN := Lib.hid hin
        have HR := Lib.hid hr
        have HB := Lib.hid hb
        clear hin hr hb
        go_wp2_with fail
        refine HIN.out.mono ?_
        rintro e w3 ⟨rfl, hb3⟩
        have HB3 := Lib.hid hb3
        have HR3 := Lib.hid (HR.out.below hb3)
        clear hb3
        go_wp2_with fail
        refine (HR3.out.out _).mono ?_
        rintro e w4 ⟨rfl, hb4⟩
        have HB4 := Lib.hid (HB.out.trans ((HB3.out.trans (hb4.mono HB3.out.size)).mono HB.out.size))
        clear hb4
        go_wp2_with fail
        refine (same_two _ _ w4 ((congrArg canon (HV.out.2.2.1)).trans (canon_canon _))).mono ?_
        rintro e w5 ⟨rfl, hb5⟩
        have HB5 := Lib.hid (HB4.out.trans (hb5.mono HB4.out.size))
        clear hb5
        go_wp2_with fail
        go_roundw
        case rel => exact ⟨4, by omega, by omega, rfl, HB5.out⟩
        case measure => simp [intOf]
      · have hin := hr.inn 4 (by omega) (by omega) (R := (fnV 4 v [] (t - (t - len)), true)) (by rw [if_neg (by decide)]; rfl)
        have HIN := Lib.hid hin
        have HR := Lib.hid hr
        have HB := Lib.hid hb
        clear hin hr hb
        go_wp2_with fail
        refine HIN.out.mono ?_
        rintro e w3 ⟨rfl, hb3⟩
        have HB3 := Lib.hid hb3
        have HR3 := Lib.hid (HR.out.below hb3)
        clear hb3
        go_wp2_with fail
        refine (HR3.out.out _).mono ?_
        rintro e w4 ⟨rfl, hb4⟩
        have HB4 := Lib.hid (HB.out.trans ((HB3.out.trans (hb4.mono HB3.out.size)).mono HB.out.size))
        clear hb4
        go_wp2_with fail
        refine (same_two _ _ w4 ((congrArg canon (HV.out.2.2.2.1)).trans (canon_canon _))).mono ?_
        rintro e w5 ⟨rfl, hb5⟩
        have HB5 := Lib.hid (HB4.out.trans (hb5.mono HB4.out.size))
        clear hb5
        go_wp2_with fail
        go_roundw
        case rel => exact ⟨5, by omega, by omega, rfl, HB5.out⟩
        case measure => simp [intOf]
      · have hin := hr.inn 5 (by omega) (by omega) (R := (fnV 5 v [] (t - (t - len)), true)) (by rw [if_neg (by decide)]; rfl)
        have HIN := Lib.hid hin
        have HR := Lib.hid hr
        have HB := Lib.hid hb
        clear hin hr hb
        go_wp2_with fail
        refine HIN.out.mono ?_
        rintro e w3 ⟨rfl, hb3⟩
        have HB3 := Lib.hid hb3
        have HR3 := Lib.hid (HR.out.below hb3)
        clear hb3
        go_wp2_with fail
        refine (HR3.out.out _).mono ?_
        rintro e w4 ⟨rfl, hb4⟩
        have HB4 := Lib.hid (HB.out.trans ((HB3.out.trans (hb4.mono HB3.out.size)).mono HB.out.size))
        clear hb4
        go_wp2_with fail
        refine (same_two _ _ w4 ((congrArg canon (HV.out.2.2.2.2.1)).trans (canon_canon _))).mono ?_
        rintro e w5 ⟨rfl, hb5⟩
        have HB5 := Lib.hid (HB4.out.trans (hb5.mono HB4.out.size))
        clear hb5
        go_wp2_with fail
        go_roundw
        case rel => exact ⟨6, by omega, by omega, rfl, HB5.out⟩
        case measure => simp [intOf]
      · have hin := hr.inn 6 (by omega) (by omega) (R := (fnV 6 v [] (t - (t - len)), true)) (by rw [if_neg (by decide)]; rfl)
        have HIN := Lib.hid hin
        have HR := Lib.hid hr
        have HB := Lib.hid hb
        clear hin hr hb
        go_wp2_with fail
        refine HIN.out.mono ?_
        rintro e w3 ⟨rfl, hb3⟩
        have HB3 := Lib.hid hb3
        have HR3 := Lib.hid (HR.out.below hb3)
        clear hb3
        go_wp2_with fail
        refine (HR3.out.out _).mono ?_
        rintro e w4 ⟨rfl, hb4⟩
        have HB4 := Lib.hid (HB.out.trans ((HB3.out.trans (hb4.mono HB3.out.size)).mono HB.out.size))
        clear hb4
        go_wp2_with fail
        refine (same_two _ _ w4 ((congrArg canon (HV.out.2.2.2.2.2.1)).trans (canon_canon _))).mono ?_
        rintro e w5 ⟨rfl, hb5⟩
        have HB5 := Lib.hid (HB4.out.trans (hb5.mono HB4.out.size))
        clear hb5
        go_wp2_with fail
        go_roundw
        case rel => exact ⟨7, by omega, by omega, rfl, HB5.out⟩
        case measure => simp [intOf]
      · have hin := hr.inn 7 (by omega) (by omega) (R := (fnV 7 v [] (t - (t - len)), true)) (by rw [if_neg (by decide)]; rfl)
        have HIN := Lib.hid hin
        have HR := Lib.hid hr
        have HB := Lib.hid hb
        clear hin hr hb
        go_wp2_with fail
        refine HIN.out.mono ?_
        rintro e w3 ⟨rfl, hb3⟩
        have HB3 := Lib.hid hb3
        have HR3 := Lib.hid (HR.out.below hb3)
        clear hb3
        go_wp2_with fail
        refine (HR3.out.out _).mono ?_
        rintro e w4 ⟨rfl, hb4⟩
        have HB4 := Lib.hid (HB.out.trans ((HB3.out.trans (hb4.mono HB3.out.size)).mono HB.out.size))
        clear hb4
        go_wp2_with fail
        refine (same_two _ _ w4 ((congrArg canon (HV.out.2.2.2.2.2.2.1)).trans (canon_canon _))).mono ?_
        rintro e w5 ⟨rfl, hb5⟩
        have HB5 := Lib.hid (HB4.out.trans (hb5.mono HB4.out.size))
        clear hb5
        go_wp2_with fail
        go_roundw
        case rel => exact ⟨8, by omega, by omega, rfl, HB5.out⟩
        case measure => simp [intOf]
      · have hin := hr.inn 8 (by omega) (by omega) (R := (0, false)) (by rw [if_pos (by decide)])
        have HIN := Lib.hid hin
        have HR := Lib.hid hr
        have HB := Lib.hid hb
        clear hin hr hb
        go_wp2_with fail
        refine HIN.out.mono ?_
        rintro e w3 ⟨rfl, hb3⟩
        have HB3 := Lib.hid hb3
        have HR3 := Lib.hid (HR.out.below hb3)
        clear hb3
        go_wp2_with fail
        refine (HR3.out.out _).mono ?_
        rintro e w4 ⟨rfl, hb4⟩
        have HB4 := Lib.hid (HB.out.trans ((HB3.out.trans (hb4.mono HB3.out.size)).mono HB.out.size))
        clear hb4
        go_wp2_with fail
        go_roundw
        case rel => exact ⟨9, by omega, by omega, rfl, HB4.out⟩
        case measure => simp [intOf]
      · have hin := hr.inn 9 (by omega) (by omega) (R := (0, false)) (by rw [if_pos (by decide)])
        have HIN := Lib.hid hin
        have HR := Lib.hid hr
        have HB := Lib.hid hb
        clear hin hr hb
        go_wp2_with fail
        refine HIN.out.mono ?_
        rintro e w3 ⟨rfl, hb3⟩
        have HB3 := Lib.hid hb3
        have HR3 := Lib.hid (HR.out.below hb3)
        clear hb3
        go_wp2_with fail
        refine (HR3.out.out _).mono ?_
        rintro e w4 ⟨rfl, hb4⟩
        have HB4 := Lib.hid (HB.out.trans ((HB3.out.trans (hb4.mono HB3.out.size)).mono HB.out.size))
        clear hb4
        go_wp2_with fail
        go_roundw
        case rel => exact ⟨10, by omega, by omega, rfl, HB4.out⟩
        case measure => simp [intOf]
      · have hin := hr.inn 10 (by omega) (by omega) (R := (0, false)) (by rw [if_pos (by decide)])
        have HIN := Lib.hid hin
        have HR := Lib.hid hr
        have HB := Lib.hid hb
        clear hin hr hb
        go_wp2_with fail
        refine HIN.out.mono ?_
        rintro e w3 ⟨rfl, hb3⟩
        have HB3 := Lib.hid hb3
        have HR3 := Lib.hid (HR.out.below hb3)
        clear hb3
        go_wp2_with fail
        refine (HR3.out.out _).mono ?_
        rintro e w4 ⟨rfl, hb4⟩
        have HB4 := Lib.hid (HB.out.trans ((HB3.out.trans (hb4.mono HB3.out.size)).mono HB.out.size))
        clear hb4
        go_wp2_with fail
        go_roundw
        case rel => exact ⟨11, by omega, by omega, rfl, HB4.out⟩
        case measure => simp [intOf]
      · have hin := hr.inn 11 (by omega) (by omega) (R := (fnV 11 v [] (t - (t - len)), true)) (by rw [if_neg (by decide)]; rfl)
        have HIN := Lib.hid hin
        have HR := Lib.hid hr
        have HB := Lib.hid hb
        clear hin hr hb
        go_wp2_with fail
        refine HIN.out.mono ?_
        rintro e w3 ⟨rfl, hb3⟩
        have HB3 := Lib.hid hb3
        have HR3 := Lib.hid (HR.out.below hb3)
        clear hb3
        go_wp2_with fail
        refine (HR3.out.out _).mono ?_
        rintro e w4 ⟨rfl, hb4⟩
        have HB4 := Lib.hid (HB.out.trans ((HB3.out.trans (hb4.mono HB3.out.size)).mono HB.out.size))
        clear hb4
        go_wp2_with fail
        refine (same_two _ _ w4 (congrArg canon (HV.out.2.2.2.2.2.2.2.1))).mono ?_
        rintro e w5 ⟨rfl, hb5⟩
        have HB5 := Lib.hid (HB4.out.trans (hb5.mono HB4.out.size))
        clear hb5
        go_wp2_with fail
        go_roundw
        case rel => exact ⟨12, by omega, by omega, rfl, HB5.out⟩
        case measure => simp [intOf]
      · have hin := hr.inn 12 (by omega) (by omega) (R := (fnV 12 v [] (t - (t - len)), true)) (by rw [if_neg (by decide)]; rfl)
        have HIN := Lib.hid hin
        have HR := Lib.hid hr
        have HB := Lib.hid hb
        clear hin hr hb
        go_wp2_with fail
        refine HIN.out.mono ?_
        rintro e w3 ⟨rfl, hb3⟩
        have HB3 := Lib.hid hb3
        have HR3 := Lib.hid (HR.out.below hb3)
        clear hb3
        go_wp2_with fail
        refine (HR3.out.out _).mono ?_
        rintro e w4 ⟨rfl, hb4⟩
        have HB4 := Lib.hid (HB.out.trans ((HB3.out.trans (hb4.mono HB3.out.size)).mono HB.out.size))
        clear hb4
        go_wp2_with fail
        refine (same_two _ _ w4 (congrArg canon (HV.out.2.2.2.2.2.2.2.2))).mono ?_
        rintro e w5 ⟨rfl, hb5⟩
        have HB5 := Lib.hid (HB4.out.trans (hb5.mono HB4.out.size))
        clear hb5
        go_wp2_with fail
        go_roundw
        case rel => exact ⟨13, by omega, by omega, rfl, HB5.out⟩
        case measure => simp [intOf]
      · have hin := hr.inn 13 (by omega) (by omega) (R := (fnV 13 v [] (t - (t - len)), true)) (by rw [if_neg (by decide)]; rfl)
        have HIN := Lib.hid hin
        have HR := Lib.hid hr
        have HB := Lib.hid hb
        clear hin hr hb
        go_wp2_with fail
        refine HIN.out.mono ?_
        rintro e w3 ⟨rfl, hb3⟩
        have HB3 := Lib.hid hb3
        have HR3 := Lib.hid (HR.out.below hb3)
        clear hb3
        go_wp2_with fail
        refine (HR3.out.out _).mono ?_
        rintro e w4 ⟨rfl, hb4⟩
        have HB4 := Lib.hid (HB.out.trans ((HB3.out.trans (hb4.mono HB3.out.size)).mono HB.out.size))
        clear hb4
        go_wp2_with fail
        go_roundw
        case rel => exact ⟨14, by omega, by omega, rfl, HB4.out⟩
        case measure => simp [intOf]
      · have hin := hr.inn 14 (by omega) (by omega) (R := (fnV 14 v [] (t - (t - len)), true)) (by rw [if_neg (by decide)]; rfl)
        have HIN := Lib.hid hin
        have HR := Lib.hid hr
        have HB := Lib.hid hb
        clear hin hr hb
        go_wp2_with fail
        refine HIN.out.mono ?_
        rintro e w3 ⟨rfl, hb3⟩
        have HB3 := Lib.hid hb3
        have HR3 := Lib.hid (HR.out.below hb3)
        clear hb3
        go_wp2_with fail
        refine (HR3.out.out _).mono ?_
        rintro e w4 ⟨rfl, hb4⟩
        have HB4 := Lib.hid (HB.out.trans ((HB3.out.trans (hb4.mono HB3.out.size)).mono HB.out.size))
        clear hb4
        go_wp2_with fail
        go_roundw
        case rel => exact ⟨15, by omega, by omega, rfl, HB4.out⟩
        case measure => simp [intOf]
      · have HB := Lib.hid hb
        clear hb hr
        go_wp2_with fail
        go_ret
        exact ⟨rfl, HB0.out.trans (HB.out.mono HB0.out.size)⟩
end Go.Proofs.Ytdhahnagnemgaaa
