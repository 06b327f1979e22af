/- The walk of StampGrids; a grid, opened. -/
import Derived.Test.YtkflhfdpdgnbfaaDoorSt7
import Derived.ProofKit
import Derived.OpenShut
import Derived.Deep.Strs
import Derived.ChangeArms
import Derived.Lib.SmallJoins
namespace Go.Proofs.YtkflhfdpdgnbfaaDoor
open Go Go.RowKit Go.ChangeShapes Go.WideShapes Go.Joins
set_option linter.unusedVariables false
set_option linter.unusedSimpArgs false
set_option maxRecDepth 100000

theorem Tryd.cellsI : Tryd.prog.cellsOf 3 = 1 := by kernel_rfl
theorem Tryd.cellsG : Tryd.prog.cellsOf 34 = 3 := by kernel_rfl
section
variable {H : Type} {enc : TypeId × Value → H} {w : World} {base : Nat} {spare : Nat → Bool} {held : Bool}
theorem open_grid {r : Reach} {b0 : Nat} {v : Value} {d : DataW H} {ps : List MemPlace} (hval : Value.okWide Tryd.prog w r b0 34 v) (h : DataW.Trod enc Tryd.prog w base spare held 34 v d ps) : ∃ s e st, v = .agg #[.int .i64 s, .int .i64 e, .int .i64 st] ∧ (i64B s ∧ i64B e ∧ i64B st) := by
  obtain ⟨cs, rfl, hsz⟩ := okWide_struct Tryd.underlying34 hval
  obtain ⟨fuel, hf⟩ := h
  obtain ⟨y0, y1, y2, m, hx, hl, h0, h1, h2⟩ := Go.Deep.trod_struct3 Tryd.underlying34 hf
  have hl3 : cs.toList.length = 3 := by simpa [Tryd.cellsG] using hsz
  obtain ⟨l, rfl⟩ : ∃ l : List Value, cs = l.toArray := ⟨cs.toList, by simp⟩
  simp only [Value.cells] at h0 h1 h2
  simp only [List.toList_toArray] at hl3 h0 h1 h2
  match l, hl3 with
  | [c0, c1, c2], _ =>
    obtain ⟨s, e0, _, w0⟩ := DataW.trod_int Tryd.underlying3 h0
    obtain ⟨e, e1, _, w1⟩ := DataW.trod_int Tryd.underlying3 h1
    obtain ⟨st, e2, _, w2⟩ := DataW.trod_int Tryd.underlying3 h2
    simp [Tryd.cellsI] at e0 e1 e2
    subst e0 e1 e2
    exact ⟨s, e, st, rfl, i64_wf w0, i64_wf w1, i64_wf w2⟩
end
theorem below_step {a w w' : World} (h : Below a.heap.size a w) (k : Below w.heap.size w w') : Below a.heap.size a w' := h.trans (k.mono h.size)
theorem points_ends {s e st : Int} (h : pointsV s e st ≠ 0) : 1 ≤ pointsV s e st ∧ pointsV s e st ≤ 4096 ∧ atV s e st 0 = (s, true) ∧ (∃ y, atV s e st (pointsV s e st - 1) = (y, true) ∧ y ≤ e ∧ e - y < st ∧ 0 ≤ e - y ∧ e - y ≤ 4611686018427387904) ∧ atV s e st (pointsV s e st) = (0, false) := by
  have hv : pointsV s e st = if checkV s e st = 0 then (e - s) / st + 1 else 0 := rfl
  by_cases hc : checkV s e st = 0
  · have ⟨⟨b0, b1⟩, b2, b3, b4, b5, b6, b7, b8, b9⟩ := checkV_ok hc
    rw [if_pos hc] at hv
    have h2 := Int.emod_lt_of_pos (e - s) (b := st) (by omega)
    have h3 := Int.emod_nonneg (e - s) (b := st) (by omega)
    have h4 := Int.mul_ediv_add_emod (e - s) st
    rw [Int.mul_comm] at h4
    refine ⟨by omega, by omega, ?_, ⟨s + (pointsV s e st - 1) * st, ?_, ?_, ?_, ?_, ?_⟩, ?_⟩
    · rw [atV, if_neg (by omega)]; simp
    · rw [atV, if_neg (by omega)]
    · rw [hv, show (e - s) / st + 1 - 1 = (e - s) / st by omega]; omega
    · rw [hv, show (e - s) / st + 1 - 1 = (e - s) / st by omega]; omega
    · rw [hv, show (e - s) / st + 1 - 1 = (e - s) / st by omega]; omega
    · rw [hv, show (e - s) / st + 1 - 1 = (e - s) / st by omega]; omega
    · rw [atV, if_pos (.inr (Int.le_refl _))]
  · rw [if_neg hc] at hv; exact absurd hv h

set_option maxHeartbeats 8000000 in
theorem grids_walk (s e st i : Int) (w : World) (ht : Tab w) (hs : i64B s) (he : i64B e) (hst : i64B st) (hi : i64B i) :
    Calls Tryd.prog 4 #[.agg #[.int .i64 s, .int .i64 e, .int .i64 st], .int .i64 i] w fun x w' => x = .returned (.bool true) ∧ Below w.heap.size w w' := by
  have HT := Lib.hid ht
  have h1 := fun w => at_any s e st i w hs he hst hi
  have h2 := fun w => rat_any s e st i w hs he hst hi
  have h3 := fun w => points_any s e st w hs he hst
  have h4 := fun w => check_any s e st w hs he hst
  have h5 := fun w => rcheck_any s e st w hs he hst
  have h6 := fun w => rpoints_any s e st w hs he hst
  have hA0 := fun w => at_any s e st 0 w hs he hst (by unfold i64B; omega)
  obtain ⟨A, O, hA⟩ : ∃ A O, atV s e st i = (A, O) := ⟨_, _, rfl⟩
  obtain ⟨C, hC⟩ : ∃ C, checkV s e st = C := ⟨_, rfl⟩
  obtain ⟨N, hN⟩ : ∃ N, pointsV s e st = N := ⟨_, rfl⟩
  rw [hA] at h1 h2
  rw [hN] at h3 h6
  rw [hC] at h4 h5
  have H1 := Lib.hid h1
  have H2 := Lib.hid h2
  have H3 := Lib.hid h3
  have H4 := Lib.hid h4
  have H5 := Lib.hid h5
  have H6 := Lib.hid h6
  have HN := Lib.hid hN
  have hends : N ≠ 0 → _ := fun h => points_ends (s := s) (e := e) (st := st) (by rw [hN]; exact h)
  rw [hN] at hends
  have HE := Lib.hid hends
  have HA0 := Lib.hid hA0
  have HI := Lib.hid (And.intro hs (And.intro he hst))
  clear ht h1 h2 h3 h4 h5 h6 hA hC hN hends hA0 hs he hst hi
  go_enter Tryd.func4, Tryd.ntmps4
  go_wp2_with fail
  obtain ⟨w0, hw0⟩ : ∃ w0, w0 = w.alloc (.cells #[.int .i64 s, .int .i64 e, .int .i64 st] 34) := ⟨_, rfl⟩
  obtain ⟨G, hG⟩ : ∃ G, G = w.heap.size := ⟨_, rfl⟩
  have c0 : w0.cell? ⟨G, 0, none⟩ = some (.int .i64 s) := by rw [hw0, hG]; exact World.cell?_alloc_at _ _ _ _ rfl
  have c1 : w0.cell? ⟨G, 1, none⟩ = some (.int .i64 e) := by rw [hw0, hG]; exact World.cell?_alloc_at _ _ _ _ rfl
  have c2 : w0.cell? ⟨G, 2, none⟩ = some (.int .i64 st) := by rw [hw0, hG]; exact World.cell?_alloc_at _ _ _ _ rfl
  have hb0 : Below w.heap.size w w0 := by rw [hw0]; exact (Below.refl _ _).alloc (Nat.le_refl _) _
  have HB0 := Lib.hid hb0
  have HC0 := Lib.hid (And.intro c0 (And.intro c1 c2))
  have HT0 := Lib.hid (HT.out.below hb0 (Nat.le_refl _))
  rw [← hw0, ← hG]
  clear hw0 hG hb0 HT
  refine (known_any _ HT0.out).mono ?_
  rintro x w1 ⟨rfl, hb1⟩
  have HB1 := Lib.hid hb1
  have p0 := cell_below hb1 (Nat.le_refl _) c0
  have p1 := cell_below hb1 (Nat.le_refl _) c1
  have p2 := cell_below hb1 (Nat.le_refl _) c2
  clear hb1 c0 c1 c2 HT0
  go_wp2_with fail
  refine (H1.out _).mono ?_
  rintro x w2 ⟨rfl, hb2⟩
  have HB2 := Lib.hid (below_step HB1.out hb2)
  replace p0 := cell_below hb2 (Nat.le_refl _) p0
  replace p1 := cell_below hb2 (Nat.le_refl _) p1
  replace p2 := cell_below hb2 (Nat.le_refl _) p2
  clear hb2
  go_wp2_with fail
  refine (H2.out _).mono ?_
  rintro x w3 ⟨rfl, hb3⟩
  have HB3 := Lib.hid (below_step HB2.out hb3)
  replace p0 := cell_below hb3 (Nat.le_refl _) p0
  replace p1 := cell_below hb3 (Nat.le_refl _) p1
  replace p2 := cell_below hb3 (Nat.le_refl _) p2
  clear hb3
  go_wp2_with fail
  refine (H3.out _).mono ?_
  rintro x w4 ⟨rfl, hb4⟩
  have HB4 := Lib.hid (below_step HB3.out hb4)
  replace p0 := cell_below hb4 (Nat.le_refl _) p0
  replace p1 := cell_below hb4 (Nat.le_refl _) p1
  replace p2 := cell_below hb4 (Nat.le_refl _) p2
  clear hb4
  go_wp2_with fail
  go_region_held3 (fun w' => Below w4.heap.size w4 w' ∧ w'.cell? ⟨G, 0, none⟩ = some (.int .i64 s) ∧ w'.cell? ⟨G, 1, none⟩ = some (.int .i64 e) ∧ w'.cell? ⟨G, 2, none⟩ = some (.int .i64 st))
    (exact ⟨by go_grown, cell_below (B := w4.heap.size) (by go_grown) (Nat.le_refl _) p0, cell_below (B := w4.heap.size) (by go_grown) (Nat.le_refl _) p1, cell_below (B := w4.heap.size) (by go_grown) (Nat.le_refl _) p2⟩)
    (first
      | (go_at_call 16
         refine (H4.out _).mono ?_
         rintro x w5 ⟨rfl, hb5⟩
         have hbA : Below w4.heap.size w4 w5 := below_step (by go_grown) hb5)
      | (go_at_call 17
         refine (H5.out _).mono ?_
         rintro x w6 ⟨rfl, hb6⟩
         have hbB : Below w4.heap.size w4 w6 := below_step (by go_grown) hb6)
      | (go_at_call 18
         refine (H6.out _).mono ?_
         rintro x w7 ⟨rfl, hb7⟩
         have hbC : Below w4.heap.size w4 w7 := below_step (by go_grown) hb7))
  have q0 := cell_below hbC (Nat.le_refl _) p0
  have q1 := cell_below hbC (Nat.le_refl _) p1
  have q2 := cell_below hbC (Nat.le_refl _) p2
  have HB7 := Lib.hid (HB4.out.trans (hbC.mono HB4.out.size))
  clear hbA hbB hbC hb5 hb6 hb7 p0 p1 p2
  by_cases hz : N = 0
  · subst hz
    go_wp2_with fail
    go_ret
    exact ⟨rfl, HB0.out.trans (HB7.out.mono HB0.out.size)⟩
  · have ⟨n1, n2, a0, ⟨y, a1, y1, y2, y3, y4⟩, a2⟩ := HE.out hz
    have hx := HA0.out
    have ⟨hs, he, hst⟩ := HI.out
    have hy := fun w => at_any s e st (N - 1) w hs he hst (by unfold i64B; omega)
    have hw := fun w => at_any s e st N w hs he hst (by unfold i64B; omega)
    rw [a0] at hx
    rw [a1] at hy
    rw [a2] at hw
    have HX := Lib.hid hx
    have HY := Lib.hid hy
    have HW := Lib.hid hw
    have hz2 : (N == 0) = false := by simpa using hz
    clear hx hy hw hz a0 a1 a2 hs he hst
    go_wp2_with fail
    refine (HX.out _).mono ?_
    rintro x w8 ⟨rfl, hb8⟩
    have HB8 := Lib.hid (below_step HB7.out hb8)
    replace q0 := cell_below hb8 (Nat.le_refl _) q0
    replace q1 := cell_below hb8 (Nat.le_refl _) q1
    replace q2 := cell_below hb8 (Nat.le_refl _) q2
    clear hb8
    go_wp2_with fail
    refine (HY.out _).mono ?_
    rintro x w9 ⟨rfl, hb9⟩
    have HB9 := Lib.hid (below_step HB8.out hb9)
    replace q0 := cell_below hb9 (Nat.le_refl _) q0
    replace q1 := cell_below hb9 (Nat.le_refl _) q1
    replace q2 := cell_below hb9 (Nat.le_refl _) q2
    clear hb9
    go_wp2_with fail
    refine (HW.out _).mono ?_
    rintro x w10 ⟨rfl, hb10⟩
    have HB10 := Lib.hid (below_step HB9.out hb10)
    replace q0 := cell_below hb10 (Nat.le_refl _) q0
    replace q1 := cell_below hb10 (Nat.le_refl _) q1
    replace q2 := cell_below hb10 (Nat.le_refl _) q2
    clear hb10
    go_wp2_with fail
    all_goals
      go_ret
      exact ⟨rfl, HB0.out.trans (HB10.out.mono HB0.out.size)⟩
theorem stampGrids_walk (s e st i : Int) (w : World) (ht : Tab w) (hg : i64B s ∧ i64B e ∧ i64B st) (hi : (Lit.int .i64 i).wf = true) :
    Calls Tryd.prog 4 #[.agg #[.int .i64 s, .int .i64 e, .int .i64 st], .int .i64 i] w fun x w' => x = .returned (.bool true) ∧ Below w.heap.size w w' := grids_walk s e st i w ht hg.1 hg.2.1 hg.2.2 (i64_wf hi)
end Go.Proofs.YtkflhfdpdgnbfaaDoor
