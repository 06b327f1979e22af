/- Label, whole; the document's Map, Scaled, Label. -/
import Derived.Test.YtkflhfdpdgnbfaaVw1
import Derived.Test.YtkflhfdpdgnbfaaVq3
namespace Go.Proofs.Ytkflhfdpdgnbfaa
open Go Go.RowKit
set_option linter.unusedVariables false
set_option linter.unusedSimpArgs false
set_option maxRecDepth 100000
/-- What Label does of a point. -/
def labF (name value : ByteArray) (p : Pt) : Option Pt := some (withL p.1 name value, p.2)
def labArg (name value : ByteArray) : Bool := nameB name && decide (value.size ≤ 256)
set_option maxHeartbeats 4000000 in
theorem label1_any (lv : Value) (l : List Lb) (y : Nat) (name value : ByteArray) (pn pv : Nat) (w : World) (h : Sl lenc w lv l) (hl : l.length ≤ 100000)
    (hn : w.cell? ⟨pn, 0, none⟩ = some (.string name)) (hv : w.cell? ⟨pv, 0, none⟩ = some (.string value)) :
    Calls Try.prog 52 #[.agg #[lv, .float .f64 y], .pointer (some ⟨pn, 0, none⟩), .pointer (some ⟨pv, 0, none⟩)] w fun e w' => S1R lv (labF name value) (l, y) w e w' := by
  have HS := Lib.hid h
  obtain ⟨a2, c2, rfl, -, -⟩ := h
  obtain ⟨n2, hn2⟩ : ∃ n, n = l.length := ⟨_, rfl⟩
  rw [← hn2] at HS ⊢
  clear hn2
  have hbn : pn < w.heap.size := World.block_lt_of_cell? w _ hn
  have hbv : pv < w.heap.size := World.block_lt_of_cell? w _ hv
  have HNL := Lib.hid (fun w' (hb : Below w.heap.size w w') => with_fresh (.slice a2 n2 c2) l name value w' (HS.out.below hb (Nat.le_refl _)) hl)
  go_enter Try.func52, Try.ntmps52
  go_wp2_with fail
  have q0 : ((w.alloc (.cells #[.slice a2 n2 c2, .float .f64 y] 35)).alloc (.cells #[.slice none 0 0, .float .f64 0] 35)).cell? ⟨w.heap.size, 0, none⟩ = some (.slice a2 n2 c2) := by simp
  have q1 : ((w.alloc (.cells #[.slice a2 n2 c2, .float .f64 y] 35)).alloc (.cells #[.slice none 0 0, .float .f64 0] 35)).cell? ⟨w.heap.size, 1, none⟩ = some (.float .f64 y) := by simp
  have hblk : ((w.alloc (.cells #[.slice a2 n2 c2, .float .f64 y] 35)).alloc (.cells #[.slice none 0 0, .float .f64 0] 35)).heap[w.heap.size + 1]? = some (.cells #[.slice none 0 0, .float .f64 0] 35 (0, 0)) := by
    have := heap_new (w.alloc (.cells #[.slice a2 n2 c2, .float .f64 y] 35)) (.cells #[.slice none 0 0, .float .f64 0] 35); simpa using this
  have hb1 : Below w.heap.size w ((w.alloc (.cells #[.slice a2 n2 c2, .float .f64 y] 35)).alloc (.cells #[.slice none 0 0, .float .f64 0] 35)) := ((Below.refl _ _).alloc (Nat.le_refl _) _).alloc (by simp) _
  have e1 := cell_below hb1 (Nat.le_refl _) hn
  have e2 := cell_below hb1 (Nat.le_refl _) hv
  obtain ⟨g5, hg5⟩ : ∃ g, g = w.heap.size := ⟨_, rfl⟩
  obtain ⟨g6, hg6⟩ : ∃ g, g = w.heap.size + 1 := ⟨_, rfl⟩
  have hsz : ((w.alloc (.cells #[.slice a2 n2 c2, .float .f64 y] 35)).alloc (.cells #[.slice none 0 0, .float .f64 0] 35)).heap.size = g6 + 1 := by simp; omega
  rw [← hg5] at q0 q1
  rw [← hg6] at hblk
  rw [← hg6, ← hg5]
  generalize ((w.alloc (.cells #[.slice a2 n2 c2, .float .f64 y] 35)).alloc (.cells #[.slice none 0 0, .float .f64 0] 35)) = w3 at q0 q1 hblk hb1 e1 e2 hsz ⊢
  have hg56 : g5 < g6 := by omega
  have hn6 : pn < g6 := by omega
  have hv6 : pv < g6 := by omega
  have HB2 := Lib.hid hb1
  have HG6 := Lib.hid hg6
  have HSZ := Lib.hid hsz
  have c0 : w3.cell? ⟨g6, 0, none⟩ = some (.slice none 0 0) := by rw [cell_of_row w3 g6 0 _ _ _ hblk]; rfl
  have c1 : w3.cell? ⟨g6, 1, none⟩ = some (.float .f64 0) := by rw [cell_of_row w3 g6 1 _ _ _ hblk]; rfl
  have z0 : w3.frozen? ⟨g6, 0, none⟩ = false := by simp [World.frozen?, hblk]
  have z1 : w3.frozen? ⟨g6, 1, none⟩ = false := by simp [World.frozen?, hblk]
  have hg6w : g6 ≤ w3.heap.size := by omega
  clear hb1 hg5 hg6 hn hv hsz
  go_region_held3 (fun w' => w'.cell? ⟨g5, 0, none⟩ = some (.slice a2 n2 c2) ∧ w'.cell? ⟨g5, 1, none⟩ = some (.float .f64 y) ∧ w'.cell? ⟨pn, 0, none⟩ = some (.string name) ∧ w'.cell? ⟨pv, 0, none⟩ = some (.string value))
    (first
      | exact ⟨q0, q1, e1, e2⟩
      | exact ⟨cell_lt hbS hg56 q0, cell_lt hbS hg56 q1, cell_lt hbS hn6 e1, cell_lt hbS hv6 e2⟩
      | exact ⟨cell_below (B := w3.heap.size) (by go_grown) (Nat.le_refl _) q0, cell_below (B := w3.heap.size) (by go_grown) (Nat.le_refl _) q1, cell_below (B := w3.heap.size) (by go_grown) (Nat.le_refl _) e1, cell_below (B := w3.heap.size) (by go_grown) (Nat.le_refl _) e2⟩)
    (first
      | (go_at_call 53
         refine (HNL.out _ (Below.trans HB2.out (Below.mono (by go_grown) HB2.out.size))).mono ?_
         rintro e w4 ⟨v4, rfl, hs9, hb9, ho9⟩
         obtain ⟨a9, c9, rfl, hcc9⟩ := id hs9
         obtain ⟨n9, hn9⟩ : ∃ n, n = (withL l name value).length := ⟨_, rfl⟩
         rw [← hn9] at hs9 ho9
         try rw [← hn9]
         clear hcc9 hn9
         have hbA : Below w3.heap.size w3 w4 := Below.trans (by go_grown) (hb9.mono (by first | exact Nat.le_refl _ | (simp; done)))
         have hblk3 : w4.heap[g6]? = some (.cells #[.slice none 0 0, .float .f64 0] 35 (0, 0)) := (hbA.block g6 (Array.getElem?_eq_some_iff.1 hblk).1).trans hblk
         have k2 : w4.cell? ⟨g6, 0, none⟩ = some (.slice none 0 0) := by rw [cell_of_row w4 g6 0 _ _ _ hblk3]; rfl
         have k3 : w4.cell? ⟨g6, 1, none⟩ = some (.float .f64 0) := by rw [cell_of_row w4 g6 1 _ _ _ hblk3]; rfl
         have z2 : w4.frozen? ⟨g6, 0, none⟩ = false := by simp [World.frozen?, hblk3]
         have z3 : w4.frozen? ⟨g6, 1, none⟩ = false := by simp [World.frozen?, hblk3]
         have hbS : Below g6 w3 ((w4.setCell ⟨g6, 0, none⟩ (.slice a9 n9 c9)).setCell ⟨g6, 1, none⟩ (.float .f64 y)) := ((hbA.mono hg6w).setCell (p := ⟨g6, 0, none⟩) (Nat.le_refl _) _).setCell (p := ⟨g6, 1, none⟩) (Nat.le_refl _) _))
  have hb4 : Below w.heap.size w w4 := HB2.out.trans (hbA.mono HB2.out.size)
  have hfr : ∀ j, (Value.slice a9 n9 c9).ownBlock = some j → g6 + 1 ≤ j := fun j hj => by
    have h1 : w3.heap.size ≤ j := ho9 j hj
    have h2 := HSZ.out
    omega
  have HIE := Lib.hid (inner_end (lv := .slice a2 n2 c2) (q := (withL l name value, y)) (z := y) (f := labF name value) (p := (l, y)) hb4 (by have := HG6.out; omega) hblk3 hs9 rfl (fun j hj => ⟨by have := hfr j hj; omega, .inr (by have := hfr j hj; have := HG6.out; omega)⟩) rfl)
  clear hb4 hfr hbS hbA hs9 hb9 ho9
  go_wp2_with fail
  obtain ⟨w9, e9, s0, s1, hS⟩ := HIE.out
  rw [← e9]
  refine bodyPost_ret (results_cell (t := 35) rfl _ _ _ _ rfl (loadPt _ _ _ _ (by exact s0) (by exact s1))) rfl ?_
  first
    | exact hS 1
    | (have h0 := hS 0; rw [World.drewN_zero] at h0; exact h0)
set_option maxHeartbeats 4000000 in
theorem label_any (v : Value) (ps : List Pt) (name value : ByteArray) (w : World) (h : VS w v ps) (hl : ps.length ≤ 100000) (hz : ∀ p ∈ ps, p.1.length ≤ 100000) :
    Calls Try.prog 21 #[v, .string name, .string value] w fun e w' => Below w.heap.size w w' ∧ NRor (labArg name value) (ps.filterMap (labF name value)) e w' := by
  have hmf : ∀ (fn : Fn) (first cap : Array Value) (w : World), (Instr.makeFunc fn first cap).run Try.prog w = .ok (.func fn first cap) w := fun _ _ _ _ => rfl
  obtain ⟨w4, hw4, hb4, c0, c1⟩ := two_boxes w (.string name) (.string value) 9 9
  have HNM := Lib.hid (fun w => name_any name w)
  have HVS := Lib.hid h
  obtain ⟨a, cap, rfl, hlen, -⟩ := h.split
  obtain ⟨N, hN⟩ : ∃ N, N = ps.length := ⟨_, rfl⟩
  rw [← hN] at HVS hlen ⊢
  have HB4 := Lib.hid hb4
  have HW4 := Lib.hid hw4
  have HC0 := Lib.hid c0
  have HC1 := Lib.hid c1
  have HHZ := Lib.hid hz
  have hN2 : N ≤ 100000 := by omega
  have HN := Lib.hid hN
  have k1 : w4.cell? ⟨w.heap.size + 1, 0, none⟩ = some (.string value) := c1
  clear h hb4 hw4 c0 c1 hz hN
  obtain ⟨nb, hnb⟩ : ∃ b, b = nameB name := ⟨_, rfl⟩
  rw [← hnb] at HNM
  have hthree : (nb = false ∧ labArg name value = false) ∨ (nb = true ∧ 256 < value.size ∧ labArg name value = false) ∨ (nb = true ∧ value.size ≤ 256 ∧ labArg name value = true) := by
    unfold labArg
    rw [← hnb]
    cases nb
    · exact .inl ⟨rfl, rfl⟩
    · by_cases h : value.size ≤ 256
      · exact .inr (.inr ⟨rfl, h, by rw [decide_eq_true h]; rfl⟩)
      · exact .inr (.inl ⟨rfl, by omega, by rw [decide_eq_false h]; rfl⟩)
  clear hnb
  rcases hthree with ⟨rfl, hA⟩ | ⟨rfl, hz, hA⟩ | ⟨rfl, hz, hA⟩
  · rw [hA]
    clear hA
    go_enter Try.func21, Try.ntmps21
    go_wp2_with fail
    rw [← HW4.out]
    refine (HNM.out _).mono ?_
    rintro e w1 ⟨rfl, rfl⟩
    go_wp2_with fail
    go_ret2
    exact ⟨HB4.out, rfl⟩
  · rw [hA]
    have hzz : (256 : Int) < (value.size : Int) := by omega
    have hzb : decide ((256 : Int) < (value.size : Int)) = true := decide_eq_true hzz
    have hzb2 : decide (256 < value.size) = true := decide_eq_true hz
    clear hA
    go_enter Try.func21, Try.ntmps21
    go_wp2_with fail
    rw [← HW4.out]
    refine (HNM.out _).mono ?_
    rintro e w1 ⟨rfl, rfl⟩
    go_wp2_with fail
    go_ret2
    exact ⟨HB4.out, rfl⟩
  · rw [hA]
    have hzz : ¬ (256 : Int) < (value.size : Int) := by omega
    have hzb : decide ((256 : Int) < (value.size : Int)) = false := decide_eq_false hzz
    have hzb2 : decide (256 < value.size) = false := decide_eq_false (by omega)
    have HE := Lib.hid (each_any 52 #[.pointer (some ⟨w.heap.size, 0, none⟩), .pointer (some ⟨w.heap.size + 1, 0, none⟩)] (fun args w => by rfl) (labF name value) _ ps w4 (HVS.out.below HB4.out (Nat.le_refl _)) (by rw [← HN.out]; exact hN2) (fun p hp lv hs W hb =>
      (label1_any lv p.1 p.2 name value _ _ W (hs.below hb (Nat.le_refl _)) (HHZ.out p hp) (cell_below hb (Nat.le_refl _) HC0.out) (cell_below hb (Nat.le_refl _) HC1.out)).mono fun e w' h => fc_of hs h))
    clear hA
    go_enter Try.func21, Try.ntmps21
    go_wp2_with fail
    rw [← HW4.out]
    refine (HNM.out _).mono ?_
    rintro e w1 ⟨rfl, rfl⟩
    go_wp2_with fail
    refine HE.out.mono ?_
    rintro e w2 ⟨hb2, hn⟩
    have HB2 := Lib.hid (HB4.out.trans (hb2.mono HB4.out.size))
    have HNR := Lib.hid hn
    rcases hn with ⟨-, rfl⟩ | ⟨-, -, rfl⟩ | ⟨-, qs, v', -, -, rfl, hv⟩
    · go_wp2_with fail
      go_ret2
      exact ⟨HB2.out, HNR.out⟩
    · go_wp2_with fail
      go_ret2
      exact ⟨HB2.out, HNR.out⟩
    · obtain ⟨a5, c5, rfl, -, -⟩ := hv.split
      clear hv
      go_wp2_with fail
      go_ret2
      exact ⟨HB2.out, HNR.out⟩
end Go.Proofs.Ytkflhfdpdgnbfaa
