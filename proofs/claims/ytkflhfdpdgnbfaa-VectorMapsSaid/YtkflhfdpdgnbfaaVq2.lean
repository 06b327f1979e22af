/- The inner functions of Scaled (operators), Map, Label. -/
import Derived.Test.YtkflhfdpdgnbfaaVq1
namespace Go.Proofs.Ytkflhfdpdgnbfaa
open Go Go.RowKit
set_option linter.unusedVariables false
set_option linter.unusedSimpArgs false
set_option maxRecDepth 100000
theorem grown_set2 (w : World) (g : Nat) (u v : Value) : w.grownBy ((w.setCell ⟨g, 0, none⟩ u).setCell ⟨g, 1, none⟩ v) (some g) := by
  have hb := ((Below.refl 0 w).setCell (p := ⟨g, 0, none⟩) (Nat.zero_le _) u).setCell (p := ⟨g, 1, none⟩) (Nat.zero_le _) v
  refine ⟨hb.os, hb.tape, hb.output, hb.size, fun k hk hne => ?_⟩
  have h : k ≠ g := fun e => hne (by rw [e])
  rw [Below.heap_setCell _ _ _ _ h, Below.heap_setCell _ _ _ _ h]
/-- What is told at the end of an inner function, of its result's cell. -/
theorem inner_end {w w4 : World} {g6 n9 z : Nat} {a9 : Option Addr} {c9 : Nat} {q : Pt} {lv : Value} {f : Pt → Option Pt} {p : Pt} (hb : Below w.heap.size w w4) (hg : w.heap.size ≤ g6)
    (hblk : w4.heap[g6]? = some (.cells #[.slice none 0 0, .float .f64 0] 35 (0, 0))) (hs : Sl lenc w4 (.slice a9 n9 c9) q.1) (hz : z = q.2) (ho : ∀ j, (Value.slice a9 n9 c9).ownBlock = some j → j ≠ g6 ∧ (.slice a9 n9 c9 = lv ∨ w.heap.size ≤ j)) (hf : f p = some q) :
    ∃ w9, w9 = (w4.setCell ⟨g6, 0, none⟩ (.slice a9 n9 c9)).setCell ⟨g6, 1, none⟩ (.float .f64 z) ∧ w9.cell? ⟨g6, 0, none⟩ = some (.slice a9 n9 c9) ∧ w9.cell? ⟨g6, 1, none⟩ = some (.float .f64 z) ∧
      ∀ n, S1R lv f p w (.returned (.tuple #[.agg #[.slice a9 n9 c9, .float .f64 z], .bool true])) (w9.drewN n) := by
  have c0 : w4.cell? ⟨g6, 0, none⟩ = some (.slice none 0 0) := by rw [cell_of_row w4 g6 0 _ _ _ hblk]; rfl
  have c1 : w4.cell? ⟨g6, 1, none⟩ = some (.float .f64 0) := by rw [cell_of_row w4 g6 1 _ _ _ hblk]; rfl
  refine ⟨_, rfl, by simp [go_sem, c0, c1], by simp [go_sem, c0, c1], fun n => ?_⟩
  have hb9 : Below w.heap.size w ((w4.setCell ⟨g6, 0, none⟩ (.slice a9 n9 c9)).setCell ⟨g6, 1, none⟩ (.float .f64 z)) := (hb.setCell hg _).setCell hg _
  refine ⟨below_drewN hb9 n, a9, n9, c9, z, by rw [hf]; rfl, fun q' hq => ?_⟩
  rw [hf] at hq
  injection hq with hq
  subst hq
  exact ⟨hz, (hs.grown (fun _ he => (ho g6 he).1 rfl) (grown_set2 _ _ _ _)).drewN n, fun j hj => (ho j hj).2⟩
set_option maxHeartbeats 4000000 in
theorem scaled1_map (lv : Value) (l : List Lb) (y x : Nat) (left flag : Bool) (op : Int) (px pl po pf : Nat) (w : World) (h : Sl lenc w lv l) (hl : l.length ≤ 1000000) (h1 : 1 ≤ op) (h10 : op ≤ 10) (hm : ¬ (5 ≤ op ∧ flag = false))
    (hx : w.cell? ⟨px, 0, none⟩ = some (.float .f64 x)) (hlf : w.cell? ⟨pl, 0, none⟩ = some (.bool left)) (ho : w.cell? ⟨po, 0, none⟩ = some (.int .i64 op)) (hf : w.cell? ⟨pf, 0, none⟩ = some (.bool flag)) :
    Calls Try.prog 38 #[.agg #[lv, .float .f64 y], .pointer (some ⟨px, 0, none⟩), .pointer (some ⟨pl, 0, none⟩), .pointer (some ⟨po, 0, none⟩), .pointer (some ⟨pf, 0, none⟩)] w fun e w' => S1R lv (mapF op x left) (l, y) w e w' := by
  have HS := Lib.hid h
  obtain ⟨a2, c2, rfl, -, -⟩ := h
  obtain ⟨n2, hn2⟩ : ∃ n, n = l.length := ⟨_, rfl⟩
  rw [← hn2] at HS ⊢
  clear hn2
  have hbx : px < w.heap.size := World.block_lt_of_cell? w _ hx
  have hbl : pl < w.heap.size := World.block_lt_of_cell? w _ hlf
  have hbo : po < w.heap.size := World.block_lt_of_cell? w _ ho
  have hbf : pf < w.heap.size := World.block_lt_of_cell? w _ hf
  have hnx : px ≠ w.heap.size := by omega
  have hnl : pl ≠ w.heap.size := by omega
  have hno : po ≠ w.heap.size := by omega
  have hnf : pf ≠ w.heap.size := by omega
  have hnx1 : px ≠ w.heap.size + 1 := by omega
  have hnl1 : pl ≠ w.heap.size + 1 := by omega
  have hno1 : po ≠ w.heap.size + 1 := by omega
  have hnf1 : pf ≠ w.heap.size + 1 := by omega
  have HH := Lib.hid (fun w => op_any op (sideF left x y).1 (sideF left x y).2 w)
  have hok : opOk op = true := by unfold opOk; rw [Bool.and_eq_true]; exact ⟨decide_eq_true h1, decide_eq_true h10⟩
  rw [hok] at HH
  obtain ⟨z, hz⟩ : ∃ z, z = opV op (sideF left x y).1 (sideF left x y).2 := ⟨_, rfl⟩
  rw [← hz] at HH
  have HZ := Lib.hid hz
  have HNL := Lib.hid (fun w' (hb : Below w.heap.size w w') => nameless_any (.slice a2 n2 c2) l w' (HS.out.below hb (Nat.le_refl _)) hl)
  clear hz
  have hmode : (op < 5) ∨ (5 ≤ op ∧ flag = true) := by
    by_cases h : op < 5
    · exact .inl h
    · refine .inr ⟨by omega, ?_⟩
      cases flag
      · exact absurd ⟨by omega, rfl⟩ hm
      · rfl
  clear hm
  rcases hmode with hlo | ⟨hhi, rfl⟩
  case' inl =>
    have h5b : decide (5 ≤ op) = false := decide_eq_false (by omega)
    clear hlo
  case' inr =>
    have h5b : decide (5 ≤ op) = true := decide_eq_true hhi
    clear hhi
  all_goals
    cases left
  all_goals
    simp only [sideF, if_true, if_false, Bool.false_eq_true] at HH
    go_enter Try.func38, Try.ntmps38
    go_wp2_with fail
    have q0 : ((w.alloc (.cells #[.slice a2 n2 c2, .float .f64 y] 35)).alloc (.cells #[.slice none 0 0, .float .f64 0] 35)).cell? ⟨w.heap.size, 0, none⟩ = some (.slice a2 n2 c2) := by simp
    have q1 : ((w.alloc (.cells #[.slice a2 n2 c2, .float .f64 y] 35)).alloc (.cells #[.slice none 0 0, .float .f64 0] 35)).cell? ⟨w.heap.size, 1, none⟩ = some (.float .f64 y) := by simp
    have hblk : ((w.alloc (.cells #[.slice a2 n2 c2, .float .f64 y] 35)).alloc (.cells #[.slice none 0 0, .float .f64 0] 35)).heap[w.heap.size + 1]? = some (.cells #[.slice none 0 0, .float .f64 0] 35 (0, 0)) := by
      have := heap_new (w.alloc (.cells #[.slice a2 n2 c2, .float .f64 y] 35)) (.cells #[.slice none 0 0, .float .f64 0] 35); simpa using this
    have hb1 : Below w.heap.size w ((w.alloc (.cells #[.slice a2 n2 c2, .float .f64 y] 35)).alloc (.cells #[.slice none 0 0, .float .f64 0] 35)) := ((Below.refl _ _).alloc (Nat.le_refl _) _).alloc (by simp) _
    obtain ⟨g5, hg5⟩ : ∃ g, g = w.heap.size := ⟨_, rfl⟩
    obtain ⟨g6, hg6⟩ : ∃ g, g = w.heap.size + 1 := ⟨_, rfl⟩
    have e1 := cell_below hb1 (Nat.le_refl _) hx
    have e2 := cell_below hb1 (Nat.le_refl _) hlf
    have e3 := cell_below hb1 (Nat.le_refl _) ho
    have e4 := cell_below hb1 (Nat.le_refl _) hf
    rw [← hg5] at q0 q1 hnx hnl hno hnf
    rw [← hg6] at hblk hnx1 hnl1 hno1 hnf1
    rw [← hg6, ← hg5]
    generalize ((w.alloc (.cells #[.slice a2 n2 c2, .float .f64 y] 35)).alloc (.cells #[.slice none 0 0, .float .f64 0] 35)) = w1 at q0 q1 hblk hb1 e1 e2 e3 e4 ⊢
    have hne : g5 ≠ g6 := by omega
    have HB1 := Lib.hid hb1
    have HG5 := Lib.hid hg5
    have HG6 := Lib.hid hg6
    clear hb1 hg5 hg6 hx hlf ho hf
    go_quiet (fail)
    go_wp2_with fail
    have r0 : (w1.drewN nq).cell? ⟨g5, 0, none⟩ = some (.slice a2 n2 c2) := q0
    have f3 : (w1.drewN nq).cell? ⟨po, 0, none⟩ = some (.int .i64 op) := e3
    have hblk2 : (w1.drewN nq).heap[g6]? = some (.cells #[.slice none 0 0, .float .f64 0] 35 (0, 0)) := hblk
    have HB2 := Lib.hid (below_drewN HB1.out nq)
    clear q0 q1 e1 e2 e3 e4 hblk
    generalize w1.drewN nq = w2 at r0 f3 hblk2 HB2 ⊢
    refine (HH.out _).mono ?_
    rintro e w3 ⟨rfl, n3, rfl⟩
    have r0 : (w2.drewN n3).cell? ⟨g5, 0, none⟩ = some (.slice a2 n2 c2) := r0
    have hblk2 : (w2.drewN n3).heap[g6]? = some (.cells #[.slice none 0 0, .float .f64 0] 35 (0, 0)) := hblk2
    have HB2 := Lib.hid (below_drewN HB2.out n3)
    clear f3
    generalize w2.drewN n3 = w3 at r0 hblk2 HB2 ⊢
    go_wp2_with fail
    refine (HNL.out _ HB2.out).mono ?_
    rintro e w4 ⟨a9, n9, c9, rfl, hs9, ho9, hb9⟩
    have hblk3 : w4.heap[g6]? = some (.cells #[.slice none 0 0, .float .f64 0] 35 (0, 0)) := (hb9.block g6 (Array.getElem?_eq_some_iff.1 hblk2).1).trans hblk2
    have c0 : w4.cell? ⟨g6, 0, none⟩ = some (.slice none 0 0) := by rw [cell_of_row w4 g6 0 _ _ _ hblk3]; rfl
    have c1 : w4.cell? ⟨g6, 1, none⟩ = some (.float .f64 0) := by rw [cell_of_row w4 g6 1 _ _ _ hblk3]; rfl
    have z0 : w4.frozen? ⟨g6, 0, none⟩ = false := by simp [World.frozen?, hblk3]
    have z1 : w4.frozen? ⟨g6, 1, none⟩ = false := by simp [World.frozen?, hblk3]
    have HB4 := Lib.hid (HB2.out.trans (hb9.mono HB2.out.size))
    have hg63 : g6 < w3.heap.size := (Array.getElem?_eq_some_iff.1 hblk2).1
    have hg9 : ∀ j, (Value.slice a9 n9 c9).ownBlock = some j → w.heap.size ≤ j := fun j hj => Nat.le_trans HB2.out.size (ho9 j hj)
    have HO9 := Lib.hid hg9
    have hap9 : ∀ j, (Value.slice a9 n9 c9).ownBlock = some j → j ≠ g6 := fun j hj => by have := ho9 j hj; omega
    have HAP9 := Lib.hid hap9
    have HS9 := Lib.hid hs9
    clear hb9 hs9 ho9 hg9 hap9
    go_wp2_with fail
    obtain ⟨w9, e9, s0, s1, hS⟩ := inner_end (lv := .slice a2 n2 c2) (q := (namelessL l, z)) (f := mapF op x _) (p := (l, y)) HB4.out (by have := HG6.out; omega) hblk3 HS9.out rfl (fun j hj => ⟨HAP9.out j hj, .inr (HO9.out j hj)⟩) (by unfold mapF; rw [HZ.out])
    rw [← e9]
    have h0 := hS 0
    rw [World.drewN_zero] at h0
    refine bodyPost_ret (results_cell (t := 35) rfl _ _ _ _ rfl (loadPt _ _ _ _ s0 s1)) rfl ?_
    exact h0
set_option maxHeartbeats 4000000 in
theorem map1_any (lv : Value) (l : List Lb) (y arg : Nat) (fn : Int) (pf pa : Nat) (w : World) (h : Sl lenc w lv l) (hl : l.length ≤ 1000000) (hok : fnOk fn = true)
    (hf : w.cell? ⟨pf, 0, none⟩ = some (.int .i64 fn)) (ha : w.cell? ⟨pa, 0, none⟩ = some (.float .f64 arg)) :
    Calls Try.prog 46 #[.agg #[lv, .float .f64 y], .pointer (some ⟨pf, 0, none⟩), .pointer (some ⟨pa, 0, none⟩)] w fun e w' => S1R lv (fun p => some (namelessL p.1, fnV fn p.2 arg)) (l, y) w e w' := by
  have HS := Lib.hid h
  obtain ⟨a2, c2, rfl, -, -⟩ := h
  obtain ⟨n2, hn2⟩ : ∃ n, n = l.length := ⟨_, rfl⟩
  rw [← hn2] at HS ⊢
  clear hn2
  have hbf : pf < w.heap.size := World.block_lt_of_cell? w _ hf
  have hba : pa < w.heap.size := World.block_lt_of_cell? w _ ha
  have hnf : pf ≠ w.heap.size := by omega
  have hna : pa ≠ w.heap.size := by omega
  have hnf1 : pf ≠ w.heap.size + 1 := by omega
  have hna1 : pa ≠ w.heap.size + 1 := by omega
  have HH := Lib.hid (fun w => fn_any fn y arg w)
  rw [hok] at HH
  have HNL := Lib.hid (fun w' (hb : Below w.heap.size w w') => nameless_any (.slice a2 n2 c2) l w' (HS.out.below hb (Nat.le_refl _)) hl)
  go_enter Try.func46, Try.ntmps46
  go_wp2_with fail
  refine (HH.out _).mono ?_
  rintro e w1 ⟨⟨z, rfl, hz⟩, n1, rfl⟩
  have q0 : (((w.alloc (.cells #[.slice a2 n2 c2, .float .f64 y] 35)).alloc (.cells #[.slice none 0 0, .float .f64 0] 35)).drewN n1).cell? ⟨w.heap.size, 0, none⟩ = some (.slice a2 n2 c2) := by simp
  have hblk : (((w.alloc (.cells #[.slice a2 n2 c2, .float .f64 y] 35)).alloc (.cells #[.slice none 0 0, .float .f64 0] 35)).drewN n1).heap[w.heap.size + 1]? = some (.cells #[.slice none 0 0, .float .f64 0] 35 (0, 0)) := by
    have := heap_new (w.alloc (.cells #[.slice a2 n2 c2, .float .f64 y] 35)) (.cells #[.slice none 0 0, .float .f64 0] 35); simpa using this
  have hb1 : Below w.heap.size w (((w.alloc (.cells #[.slice a2 n2 c2, .float .f64 y] 35)).alloc (.cells #[.slice none 0 0, .float .f64 0] 35)).drewN n1) := below_drewN (((Below.refl _ _).alloc (Nat.le_refl _) _).alloc (by simp) _) _
  obtain ⟨g5, hg5⟩ : ∃ g, g = w.heap.size := ⟨_, rfl⟩
  obtain ⟨g6, hg6⟩ : ∃ g, g = w.heap.size + 1 := ⟨_, rfl⟩
  rw [← hg5] at q0
  rw [← hg6] at hblk
  rw [← hg6, ← hg5]
  generalize (((w.alloc (.cells #[.slice a2 n2 c2, .float .f64 y] 35)).alloc (.cells #[.slice none 0 0, .float .f64 0] 35)).drewN n1) = w3 at q0 hblk hb1 ⊢
  have HB2 := Lib.hid hb1
  have HG6 := Lib.hid hg6
  have HZ := Lib.hid (hz trivial)
  clear hb1 hg5 hg6 hf ha hz
  go_wp2_with fail
  refine (HNL.out _ HB2.out).mono ?_
  rintro e w4 ⟨a9, n9, c9, rfl, hs9, ho9, hb9⟩
  have hblk3 : w4.heap[g6]? = some (.cells #[.slice none 0 0, .float .f64 0] 35 (0, 0)) := (hb9.block g6 (Array.getElem?_eq_some_iff.1 hblk).1).trans hblk
  have c0 : w4.cell? ⟨g6, 0, none⟩ = some (.slice none 0 0) := by rw [cell_of_row w4 g6 0 _ _ _ hblk3]; rfl
  have c1 : w4.cell? ⟨g6, 1, none⟩ = some (.float .f64 0) := by rw [cell_of_row w4 g6 1 _ _ _ hblk3]; rfl
  have z0 : w4.frozen? ⟨g6, 0, none⟩ = false := by simp [World.frozen?, hblk3]
  have z1 : w4.frozen? ⟨g6, 1, none⟩ = false := by simp [World.frozen?, hblk3]
  have HB4 := Lib.hid (HB2.out.trans (hb9.mono HB2.out.size))
  have hg63 : g6 < w3.heap.size := (Array.getElem?_eq_some_iff.1 hblk).1
  have hg9 : ∀ j, (Value.slice a9 n9 c9).ownBlock = some j → w.heap.size ≤ j := fun j hj => Nat.le_trans HB2.out.size (ho9 j hj)
  have HO9 := Lib.hid hg9
  have hap9 : ∀ j, (Value.slice a9 n9 c9).ownBlock = some j → j ≠ g6 := fun j hj => by have := ho9 j hj; omega
  have HAP9 := Lib.hid hap9
  have HS9 := Lib.hid hs9
  clear hb9 hs9 ho9 hg9 hap9
  go_wp2_with fail
  obtain ⟨w9, e9, s0, s1, hS⟩ := inner_end (lv := .slice a2 n2 c2) (q := (namelessL l, z)) (f := fun p : Pt => some (namelessL p.1, fnV fn p.2 arg)) (p := (l, y)) HB4.out (by have := HG6.out; omega) hblk3 HS9.out rfl (fun j hj => ⟨HAP9.out j hj, .inr (HO9.out j hj)⟩) (by rw [HZ.out])
  rw [← e9]
  have h0 := hS 0
  rw [World.drewN_zero] at h0
  refine bodyPost_ret (results_cell (t := 35) rfl _ _ _ _ rfl (loadPt _ _ _ _ s0 s1)) rfl ?_
  exact h0
end Go.Proofs.Ytkflhfdpdgnbfaa
