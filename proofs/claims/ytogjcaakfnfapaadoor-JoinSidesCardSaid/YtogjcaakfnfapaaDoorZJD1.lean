/- JoinSides: the walk (printed by gen_jl3.py). (Several texts in one file, by merge.py.) -/
import Derived.Test.YtogjcaakfnfapaaDoorZJ7
import Derived.Test.YtogjcaakfnfapaaDoorZJ8
namespace Go.Proofs.YtogjcaakfnfapaaDoor
open Go Go.RowKit
set_option linter.unusedVariables false
set_option linter.unusedSimpArgs false
set_option maxRecDepth 100000
def mirT (k : Nat) : Int := ([0, 1, 0, 3, 0, 5, 6, 8, 7, 10, 9] : List Int).getD k 0
theorem mirT_op {k : Nat} (h : 1 ≤ k ∧ k ≤ 10) (h0 : mirT k ≠ 0) : mirT k = mirO k ∧ ((k : Int) = 1 ∨ (k : Int) = 3 ∨ (5 ≤ (k : Int) ∧ (k : Int) ≤ 10)) := by
  obtain rfl | rfl | rfl | rfl | rfl | rfl | rfl | rfl | rfl | rfl : k = 1 ∨ k = 2 ∨ k = 3 ∨ k = 4 ∨ k = 5 ∨ k = 6 ∨ k = 7 ∨ k = 8 ∨ k = 9 ∨ k = 10 := by omega
  all_goals first | exact absurd rfl h0 | exact ⟨rfl, by omega⟩
theorem rvsame_J (v u : Value) (q : List Pt) (w : World) (h : VS w v q) (h' : VS w u q) :
    Calls Tryd.prog 15 #[v, u] w fun e w' => e = .returned (.bool true) ∧ Below w.heap.size w w' := by
  refine (rvsame_any v u q q w h h').mono ?_
  rintro e w' ⟨rfl, n, rfl⟩
  exact ⟨by rw [vsame_refl], below_drewN (Below.refl _ _) n⟩
/-- Two answers of an operator and its mirror are one. -/
theorem bin_two {op card how : Int} {names incl : List ByteArray} {ps qs : List Pt} {e f : Ending} {w w' W : World} (ho : op = 1 ∨ op = 3 ∨ (5 ≤ op ∧ op ≤ 10))
    (h : BinR op card how names incl true ps qs e w) (h' : BinR (mirO op) (mirC card) how names incl true qs ps f w') (hb : Below w.heap.size w W) (hb' : Below w'.heap.size w' W) :
    ∃ v u q n, e = .returned (.tuple #[v, .int .i64 n]) ∧ f = .returned (.tuple #[u, .int .i64 n]) ∧ VS W v q ∧ VS W u q := by
  have hm : 1 ≤ mirO op ∧ mirO op ≤ 10 := by unfold mirO; (repeat' split) <;> omega
  have ho2 : 1 ≤ op ∧ op ≤ 10 := by omega
  have hk := mchk_mir how names card incl
  rcases h with ⟨h1, rfl⟩ | ⟨⟨-, -, h1⟩, h2, rfl⟩ | ⟨⟨-, -, h1⟩, h2, h3⟩
  · have hc : mchkL how names card incl ≠ 0 := by omega
    rcases h' with ⟨-, rfl⟩ | ⟨⟨-, -, g1⟩, -⟩ | ⟨⟨-, -, g1⟩, -⟩
    · exact ⟨_, _, [], 1, rfl, rfl, VS.nil _, VS.nil _⟩
    · rw [hk] at g1; exact absurd g1 hc
    · rw [hk] at g1; exact absurd g1 hc
  all_goals
    have hcc := mchk_card h1
    have e1 : mirC card ≠ 1 ↔ card ≠ 2 := by unfold mirC; split; omega; split <;> omega
    have e2 : mirC card ≠ 2 ↔ card ≠ 1 := by unfold mirC; split; omega; split <;> omega
  · rcases h' with ⟨g1, -⟩ | ⟨-, g2, rfl⟩ | ⟨-, g2, -⟩
    · rw [hk] at g1; omega
    · exact ⟨_, _, [], 5, rfl, rfl, VS.nil _, VS.nil _⟩
    · rw [e1, e2] at g2
      exact absurd (Or.symm h2) g2
  · rcases h' with ⟨g1, -⟩ | ⟨-, g2, -⟩ | ⟨-, g2, g3⟩
    · rw [hk] at g1; omega
    · rw [e1, e2] at g2
      exact absurd (Or.symm g2) h2
    · obtain ⟨v, u, q, n, a, b, c, d, -⟩ := nr_two h3 (nr_perm (bin_mir ps qs ho hcc).symm g3) hb hb'
      exact ⟨v, u, q, n, a, b, c, d⟩
set_option maxHeartbeats 32000000 in
theorem joinSides_walk (op how : Int) (vn : Value) (names : List ByteArray) (card : Int) (vi : Value) (incl : List ByteArray) (va : Value) (ps : List Pt) (vb : Value) (qs : List Pt) (w : World) (ht : Tab w) (h0 : (Lit.int .i64 op).wf = true) (hn : Sl senc1 w vn names) (hii : Sl senc1 w vi incl) (hva : VS w va ps ∧ ∀ p ∈ ps, (Lit.float .f64 p.2).wf = true) (hvb : VS w vb qs ∧ ∀ p ∈ qs, (Lit.float .f64 p.2).wf = true) :
    Calls Tryd.prog 7 #[.int .i64 op, .agg #[.int .i64 how, vn, .int .i64 card, vi], va, vb] w fun e w' => e = .returned (.bool true) ∧ Below w.heap.size w w' := by
  obtain ⟨hvsa, hwfa⟩ := hva
  obtain ⟨hvsb, hwfb⟩ := hvb
  have HN := Lib.hid hn
  have HI := Lib.hid hii
  have HVA := Lib.hid hvsa
  have HVB := Lib.hid hvsb
  have HWFA := Lib.hid hwfa
  have HWFB := Lib.hid hwfb
  have HT := Lib.hid ht
  obtain ⟨an, cn, rfl, hlen, -⟩ := hn.strings
  obtain ⟨ai, ci, rfl, hleni, -⟩ := hii.strings
  obtain ⟨aa, ca, rfl, hlva, -⟩ := hvsa.split
  obtain ⟨ab, cb, rfl, hlvb, -⟩ := hvsb.split
  obtain ⟨nn, hnn⟩ : ∃ n, n = names.length := ⟨_, rfl⟩
  rw [← hnn] at HN hlen ⊢
  obtain ⟨ni, hni⟩ : ∃ n, n = incl.length := ⟨_, rfl⟩
  rw [← hni] at HI hleni ⊢
  obtain ⟨na, hna⟩ : ∃ n, n = ps.length := ⟨_, rfl⟩
  rw [← hna] at HVA hlva ⊢
  obtain ⟨nb, hnb⟩ : ∃ n, n = qs.length := ⟨_, rfl⟩
  rw [← hnb] at HVB hlvb ⊢
  obtain ⟨w0, hw0⟩ : ∃ w0, w0 = w.alloc (.cells #[.int .i64 how, .slice an nn cn, .int .i64 card, .slice ai ni ci] 55) := ⟨_, rfl⟩
  have hb0 : Below w.heap.size w w0 := by rw [hw0]; exact (Below.refl _ _).alloc (Nat.le_refl _) _
  obtain ⟨mb, hmb⟩ : ∃ b, b = w.heap.size := ⟨_, rfl⟩
  have q0 : w0.cell? ⟨mb, 0, none⟩ = some (.int .i64 how) := by rw [hw0, hmb]; simp
  have q1 : w0.cell? ⟨mb, 1, none⟩ = some (.slice an nn cn) := by rw [hw0, hmb]; simp
  have q2 : w0.cell? ⟨mb, 2, none⟩ = some (.int .i64 card) := by rw [hw0, hmb]; simp
  have q3 : w0.cell? ⟨mb, 3, none⟩ = some (.slice ai ni ci) := by rw [hw0, hmb]; simp
  have HW0 := Lib.hid hw0
  have HB0 := Lib.hid hb0
  have HMB := Lib.hid hmb
  have HK := Lib.hid (jknown_any w0 (HT.out.below hb0 (Nat.le_refl _)))
  have HRA := Lib.hid (fun w' (hb : Below w.heap.size w w') => lright_any _ ps w' (HVA.out.below hb (Nat.le_refl _)))
  have HRB := Lib.hid (fun w' (hb : Below w.heap.size w w') => lright_any _ qs w' (HVB.out.below hb (Nat.le_refl _)))
  have HCT := Lib.hid (fun w' (hb : Below w.heap.size w w') => mcount_any how card _ _ names incl w' (HN.out.below hb (Nat.le_refl _)) (HI.out.below hb (Nat.le_refl _)))
  obtain ⟨ra, hra⟩ : ∃ r, r = (vfewL ps && vrightL ps) := ⟨_, rfl⟩
  rw [← hra] at HRA
  obtain ⟨rb, hrb⟩ : ∃ r, r = (vfewL qs && vrightL qs) := ⟨_, rfl⟩
  rw [← hrb] at HRB
  obtain ⟨ct, hct⟩ : ∃ r, r = (decide (names.length ≤ 40) && decide (incl.length ≤ 40)) := ⟨_, rfl⟩
  rw [← hct] at HCT
  have HFA := Lib.hid hra
  have HFB := Lib.hid hrb
  have HCC := Lib.hid hct
  clear ht h0 hn hii hvsa hvsb hwfa hwfb hnn hni hna hnb hw0 hb0 hmb hra hrb hct
  go_enter Tryd.func7, Tryd.ntmps7
  go_wp2_with fail
  rw [← HW0.out, ← HMB.out]
  refine HK.out.mono ?_
  rintro e w1 ⟨rfl, hb1⟩
  have q0 := cell_below hb1 (Nat.le_refl _) q0
  have q1 := cell_below hb1 (Nat.le_refl _) q1
  have q2 := cell_below hb1 (Nat.le_refl _) q2
  have q3 := cell_below hb1 (Nat.le_refl _) q3
  have hb01 := HB0.out.trans (hb1.mono HB0.out.size)
  obtain ⟨w2, hw2⟩ : ∃ w2, w2 = w1.alloc (.cells #[.int .i64 0, .int .i64 1, .int .i64 0, .int .i64 3, .int .i64 0, .int .i64 5, .int .i64 6, .int .i64 8, .int .i64 7, .int .i64 10, .int .i64 9] 3) := ⟨_, rfl⟩
  obtain ⟨bm, hbm⟩ : ∃ b, b = w1.heap.size := ⟨_, rfl⟩
  have hb12 : Below w1.heap.size w1 w2 := by rw [hw2]; exact (Below.refl _ _).alloc (Nat.le_refl _) _
  have q0 := cell_below hb12 (Nat.le_refl _) q0
  have q1 := cell_below hb12 (Nat.le_refl _) q1
  have q2 := cell_below hb12 (Nat.le_refl _) q2
  have q3 := cell_below hb12 (Nat.le_refl _) q3
  have HMI := Lib.hid (show ∀ k, k < 11 → w2.cell? ⟨bm, k, none⟩ = some (.int .i64 (mirT k)) by
    intro k hk
    rw [hw2, hbm]
    obtain rfl | rfl | rfl | rfl | rfl | rfl | rfl | rfl | rfl | rfl | rfl : k = 0 ∨ k = 1 ∨ k = 2 ∨ k = 3 ∨ k = 4 ∨ k = 5 ∨ k = 6 ∨ k = 7 ∨ k = 8 ∨ k = 9 ∨ k = 10 := by omega
    all_goals (simp; rfl))
  have HB2 := Lib.hid (hb01.trans (hb12.mono hb01.size))
  have HW2 := Lib.hid hw2
  have HBM := Lib.hid hbm
  clear hb1 hb01 hb12 hw2 hbm
  go_wp2_with fail
  rw [← HW2.out, ← HBM.out]
  refine (HRA.out _ HB2.out).mono ?_
  rintro e w3 ⟨rfl, n3, rfl⟩
  cases ra with
  | false =>
    go_wp2_with fail
    go_ret
    exact ⟨rfl, below_drewN HB2.out n3⟩
  | true =>
    have q0 : (w2.drewN n3).cell? ⟨mb, 0, none⟩ = some (.int .i64 how) := q0
    have q1 : (w2.drewN n3).cell? ⟨mb, 1, none⟩ = some (.slice an nn cn) := q1
    have q2 : (w2.drewN n3).cell? ⟨mb, 2, none⟩ = some (.int .i64 card) := q2
    have q3 : (w2.drewN n3).cell? ⟨mb, 3, none⟩ = some (.slice ai ni ci) := q3
    have hb := below_drewN HB2.out n3
    have hx := below_drewN (Below.refl w2.heap.size w2) n3
    generalize w2.drewN n3 = w3 at q0 q1 q2 q3 hb hx ⊢
    have HB3 := Lib.hid hb
    have HX3 := Lib.hid hx
    clear hb hx
    go_wp2_with fail
    refine (HRB.out _ HB3.out).mono ?_
    rintro e w4 ⟨rfl, n4, rfl⟩
    cases rb with
    | false =>
      go_wp2_with fail
      go_ret
      exact ⟨rfl, below_drewN HB3.out n4⟩
    | true =>
      have q0 : (w3.drewN n4).cell? ⟨mb, 0, none⟩ = some (.int .i64 how) := q0
      have q1 : (w3.drewN n4).cell? ⟨mb, 1, none⟩ = some (.slice an nn cn) := q1
      have q2 : (w3.drewN n4).cell? ⟨mb, 2, none⟩ = some (.int .i64 card) := q2
      have q3 : (w3.drewN n4).cell? ⟨mb, 3, none⟩ = some (.slice ai ni ci) := q3
      have hb := below_drewN HB3.out n4
      have hx := below_drewN HX3.out n4
      generalize w3.drewN n4 = w4 at q0 q1 q2 q3 hb hx ⊢
      have HB4 := Lib.hid hb
      have HX4 := Lib.hid hx
      clear hb hx
      go_wp2_with fail
      refine (HCT.out _ HB4.out).mono ?_
      rintro e w5 ⟨rfl, hb5⟩
      have q0 := cell_below hb5 (Nat.le_refl _) q0
      have q1 := cell_below hb5 (Nat.le_refl _) q1
      have q2 := cell_below hb5 (Nat.le_refl _) q2
      have q3 := cell_below hb5 (Nat.le_refl _) q3
      have HB5 := Lib.hid (HB4.out.trans (hb5.mono HB4.out.size))
      have HX5 := Lib.hid (HX4.out.trans (hb5.mono HX4.out.size))
      clear hb5
      cases ct with
      | false =>
        go_wp2_with fail
        go_ret
        exact ⟨rfl, HB5.out⟩
      | true =>
        have hn40 : names.length ≤ 40 ∧ incl.length ≤ 40 := by have := HCC.out.symm; rw [Bool.and_eq_true] at this; exact ⟨of_decide_eq_true this.1, of_decide_eq_true this.2⟩
        have HMF := Lib.hid (mfew_any how card _ _ names incl w5 (HN.out.below HB5.out (Nat.le_refl _)) (HI.out.below HB5.out (Nat.le_refl _)) hn40.1 hn40.2)
        clear hn40
        go_wp2_with fail
        refine HMF.out.mono ?_
        rintro e w6 ⟨fb, rfl, hfb, hb6⟩
        have q0 := cell_below hb6 (Nat.le_refl _) q0
        have q1 := cell_below hb6 (Nat.le_refl _) q1
        have q2 := cell_below hb6 (Nat.le_refl _) q2
        have q3 := cell_below hb6 (Nat.le_refl _) q3
        have HB6 := Lib.hid (HB5.out.trans (hb6.mono HB5.out.size))
        have HX6 := Lib.hid (HX5.out.trans (hb6.mono HX5.out.size))
        have HFBB := Lib.hid hfb
        clear hb6 HMF hfb
        cases fb with
        | false =>
          go_wp2_with fail
          go_ret
          exact ⟨rfl, HB6.out⟩
        | true =>
          by_cases h1 : op < 1
          · go_wp2_with fail
            go_ret
            exact ⟨rfl, HB6.out⟩
          · by_cases h2 : 10 < op
            · have h3 : 1 ≤ op := by omega
              clear h1
              go_wp2_with fail
              go_ret
              exact ⟨rfl, HB6.out⟩
            · obtain ⟨k, rfl⟩ : ∃ k : Nat, op = k := ⟨op.toNat, by omega⟩
              have hk1 : 1 ≤ k ∧ k ≤ 10 := by omega
              have hk11 : k < 11 := by omega
              have c1 : (1 : Int) ≤ (k : Int) := by omega
              have c2 : (k : Int) ≤ 10 := by omega
              have c3 : (0 : Int) ≤ (k : Int) := by omega
              have c4 : (k : Int) < 11 := by omega
              have b1 : decide ((k : Int) < 1) = false := decide_eq_false h1
              have b2 : decide (10 < (k : Int)) = false := decide_eq_false h2
              have mk := cell_below HX6.out (Nat.le_refl _) (HMI.out k hk11)
              obtain ⟨mv, hmv⟩ : ∃ m, m = mirT k := ⟨_, rfl⟩
              rw [← hmv] at mk
              have HMV := Lib.hid hmv
              clear h1 h2 hmv
              by_cases hm0 : mv = 0
              · subst hm0
                go_wp2_with fail
                go_ret
                exact ⟨rfl, HB6.out⟩
              · have hm1 : (mv == 0) = false := by simpa using hm0
                obtain ⟨hmo, hop⟩ := mirT_op hk1 (by rw [← HMV.out]; exact hm0)
                rw [← HMV.out] at hmo
                have HMO := Lib.hid hmo
                have HOP := Lib.hid hop
                have hmw : mb < w6.heap.size := World.block_lt_of_cell? w6 _ q0
                have hbw : bm < w6.heap.size := World.block_lt_of_cell? w6 _ mk
                have hmn : mb ≠ w6.heap.size := by omega
                have hbn : bm ≠ w6.heap.size := by omega
                clear hm0 hmo hop
                by_cases hd1 : card = 1
                · subst hd1
                  have HMC := Lib.hid (show mirC 1 = 2 by decide)
                  have hra2 : vfewL ps = true ∧ vrightL ps = true := by have := HFA.out.symm; rwa [Bool.and_eq_true] at this
                  have hrb2 : vfewL qs = true ∧ vrightL qs = true := by have := HFB.out.symm; rwa [Bool.and_eq_true] at this
                  obtain ⟨hoka, hla3⟩ := few_ok hra2.1 HWFA.out
                  obtain ⟨hokb, hlb3⟩ := few_ok hrb2.1 HWFB.out
                  have hgz : (∀ s ∈ names, s.size ≤ maxLen) ∧ ∀ s ∈ incl, s.size ≤ maxLen := by
                    have h := HFBB.out (by first | trivial | rfl)
                    exact ⟨fun s hs => by have := h.1 s hs; unfold maxLen; omega, fun s hs => by have := h.2 s hs; unfold maxLen; omega⟩
                  obtain ⟨w7, hw7⟩ : ∃ w7, w7 = w6.alloc (.cells #[.int .i64 how, .slice an nn cn, .int .i64 2, .slice ai ni ci] 55) := ⟨_, rfl⟩
                  obtain ⟨wb, hwb⟩ : ∃ b, b = w6.heap.size := ⟨_, rfl⟩
                  have hb7 : Below w6.heap.size w6 w7 := by rw [hw7]; exact (Below.refl _ _).alloc (Nat.le_refl _) _
                  have d0 : w7.cell? ⟨wb, 0, none⟩ = some (.int .i64 how) := by rw [hw7, hwb]; simp
                  have d1 : w7.cell? ⟨wb, 1, none⟩ = some (.slice an nn cn) := by rw [hw7, hwb]; simp
                  have d2 : w7.cell? ⟨wb, 2, none⟩ = some (.int .i64 2) := by rw [hw7, hwb]; simp
                  have d3 : w7.cell? ⟨wb, 3, none⟩ = some (.slice ai ni ci) := by rw [hw7, hwb]; simp
                  have mk7 := cell_below hb7 (Nat.le_refl _) mk
                  have hb07 := HB6.out.trans (hb7.mono HB6.out.size)
                  have HB7 := Lib.hid hb07
                  have HW7 := Lib.hid hw7
                  have HWB := Lib.hid hwb
                  have HBIN := Lib.hid (bin_go k 1 how true _ _ _ _ names incl ps qs w7 (HVA.out.below hb07 (Nat.le_refl _)) (HVB.out.below hb07 (Nat.le_refl _)) (HN.out.below hb07 (Nat.le_refl _)) (HI.out.below hb07 (Nat.le_refl _)) hgz.1 hgz.2 hoka hokb hla3 hlb3 (HT.out.below hb07 (Nat.le_refl _)))
                  have HBIN2 := Lib.hid (fun w' (hb : Below w.heap.size w w') => bin_go mv 2 how true _ _ _ _ names incl qs ps w' (HVB.out.below hb (Nat.le_refl _)) (HVA.out.below hb (Nat.le_refl _)) (HN.out.below hb (Nat.le_refl _)) (HI.out.below hb (Nat.le_refl _)) hgz.1 hgz.2 hokb hoka hlb3 hla3 (HT.out.below hb (Nat.le_refl _)))
                  clear hra2 hrb2 hoka hla3 hokb hlb3 hgz hw7 hwb hb7 hb07
                  go_wp2_with fail
                  rw [← HW7.out, ← HWB.out]
                  refine HBIN.out.mono ?_
                  rintro e w8 ⟨hb8, hr8⟩
                  obtain ⟨v8, n8, rfl⟩ := bin_tuple hr8
                  have d0 := cell_below hb8 (Nat.le_refl _) d0
                  have d1 := cell_below hb8 (Nat.le_refl _) d1
                  have d2 := cell_below hb8 (Nat.le_refl _) d2
                  have d3 := cell_below hb8 (Nat.le_refl _) d3
                  have mk8 := cell_below hb8 (Nat.le_refl _) mk7
                  have HB8 := Lib.hid (HB7.out.trans (hb8.mono HB7.out.size))
                  have HR8 := Lib.hid hr8
                  have HBIN3 := Lib.hid (fun w' (hb : Below w8.heap.size w8 w') => HBIN2.out w' (HB8.out.trans (hb.mono HB8.out.size)))
                  clear hb8 hr8 HBIN HBIN2 mk mk7 q0 q1 q2 q3
                  go_wp2_with fail
                  have hbA : Below w8.heap.size w8 w8 := Below.refl _ _
                  have hsA := hbA.size
                  go_region_held3 (fun w' => w'.cell? ⟨bm, k, none⟩ = some (.int .i64 mv) ∧ w'.cell? ⟨wb, 0, none⟩ = some (.int .i64 how) ∧ w'.cell? ⟨wb, 1, none⟩ = some (.slice an nn cn) ∧ w'.cell? ⟨wb, 2, none⟩ = some (.int .i64 2) ∧ w'.cell? ⟨wb, 3, none⟩ = some (.slice ai ni ci))
                    (exact ⟨cell_below (B := w8.heap.size) (by go_grown) (Nat.le_refl _) mk8, cell_below (B := w8.heap.size) (by go_grown) (Nat.le_refl _) d0, cell_below (B := w8.heap.size) (by go_grown) (Nat.le_refl _) d1, cell_below (B := w8.heap.size) (by go_grown) (Nat.le_refl _) d2, cell_below (B := w8.heap.size) (by go_grown) (Nat.le_refl _) d3⟩)
                    (first
                      | (go_at_call 31
                         refine (HBIN3.out _ (by go_grown)).mono ?_
                         rintro e w9 ⟨hb9, hr9⟩
                         obtain ⟨v9, n9, rfl⟩ := bin_tuple hr9
                         have hbA : Below w8.heap.size w8 w9 := Below.trans (by go_grown) (hb9.mono (by first | exact Nat.le_refl _ | (simp; done) | (simp; omega)))
                         have hsA := hbA.size))
                  have hr9' : BinR (mirO (k : Int)) (mirC 1) how names incl true qs ps (.returned (.tuple #[v9, .int .i64 n9])) w9 := by rw [HMC.out, ← HMO.out]; exact hr9
                  obtain ⟨v5, u5, q5, n5, e1, e2, hv5, hu5⟩ := bin_two HOP.out HR8.out hr9' hbA (Below.refl _ _)
                  injection e1 with e1
                  injection e1 with e1
                  injection e2 with e2
                  injection e2 with e2
                  simp only [Array.mk.injEq, List.cons.injEq, Value.int.injEq, true_and, and_true] at e1 e2
                  obtain ⟨rfl, rfl⟩ := e1
                  obtain ⟨rfl, rfl⟩ := e2
                  have HSM := Lib.hid (rvsame_J _ _ q5 w9 hv5 hu5)
                  have HB9 := Lib.hid (HB8.out.trans (hbA.mono HB8.out.size))
                  have enn : (n9 == n9) = true := by simp
                  clear hr9 hr9' hv5 hu5 hbA hsA hb9 mk8 d0 d1 d2 d3
                  go_wp2_with fail
                  refine HSM.out.mono ?_
                  rintro e w10 ⟨rfl, hb10⟩
                  have HB10 := Lib.hid (HB9.out.trans (hb10.mono HB9.out.size))
                  clear hb10
                  go_wp2_with fail
                  go_ret
                  exact ⟨by first | rfl | (simp; done), HB10.out⟩
                · have e1 : (card == 1) = false := by simpa using hd1
                  by_cases hd2 : card = 2
                  · subst hd2
                    have HMC := Lib.hid (show mirC 2 = 1 by decide)
                    have hra2 : vfewL ps = true ∧ vrightL ps = true := by have := HFA.out.symm; rwa [Bool.and_eq_true] at this
                    have hrb2 : vfewL qs = true ∧ vrightL qs = true := by have := HFB.out.symm; rwa [Bool.and_eq_true] at this
                    obtain ⟨hoka, hla3⟩ := few_ok hra2.1 HWFA.out
                    obtain ⟨hokb, hlb3⟩ := few_ok hrb2.1 HWFB.out
                    have hgz : (∀ s ∈ names, s.size ≤ maxLen) ∧ ∀ s ∈ incl, s.size ≤ maxLen := by
                      have h := HFBB.out (by first | trivial | rfl)
                      exact ⟨fun s hs => by have := h.1 s hs; unfold maxLen; omega, fun s hs => by have := h.2 s hs; unfold maxLen; omega⟩
                    obtain ⟨w7, hw7⟩ : ∃ w7, w7 = w6.alloc (.cells #[.int .i64 how, .slice an nn cn, .int .i64 1, .slice ai ni ci] 55) := ⟨_, rfl⟩
                    obtain ⟨wb, hwb⟩ : ∃ b, b = w6.heap.size := ⟨_, rfl⟩
                    have hb7 : Below w6.heap.size w6 w7 := by rw [hw7]; exact (Below.refl _ _).alloc (Nat.le_refl _) _
                    have d0 : w7.cell? ⟨wb, 0, none⟩ = some (.int .i64 how) := by rw [hw7, hwb]; simp
                    have d1 : w7.cell? ⟨wb, 1, none⟩ = some (.slice an nn cn) := by rw [hw7, hwb]; simp
                    have d2 : w7.cell? ⟨wb, 2, none⟩ = some (.int .i64 1) := by rw [hw7, hwb]; simp
                    have d3 : w7.cell? ⟨wb, 3, none⟩ = some (.slice ai ni ci) := by rw [hw7, hwb]; simp
                    have mk7 := cell_below hb7 (Nat.le_refl _) mk
                    have hb07 := HB6.out.trans (hb7.mono HB6.out.size)
                    have HB7 := Lib.hid hb07
                    have HW7 := Lib.hid hw7
                    have HWB := Lib.hid hwb
                    have HBIN := Lib.hid (bin_go k 2 how true _ _ _ _ names incl ps qs w7 (HVA.out.below hb07 (Nat.le_refl _)) (HVB.out.below hb07 (Nat.le_refl _)) (HN.out.below hb07 (Nat.le_refl _)) (HI.out.below hb07 (Nat.le_refl _)) hgz.1 hgz.2 hoka hokb hla3 hlb3 (HT.out.below hb07 (Nat.le_refl _)))
                    have HBIN2 := Lib.hid (fun w' (hb : Below w.heap.size w w') => bin_go mv 1 how true _ _ _ _ names incl qs ps w' (HVB.out.below hb (Nat.le_refl _)) (HVA.out.below hb (Nat.le_refl _)) (HN.out.below hb (Nat.le_refl _)) (HI.out.below hb (Nat.le_refl _)) hgz.1 hgz.2 hokb hoka hlb3 hla3 (HT.out.below hb (Nat.le_refl _)))
                    clear hra2 hrb2 hoka hla3 hokb hlb3 hgz hw7 hwb hb7 hb07
                    go_wp2_with fail
                    rw [← HW7.out, ← HWB.out]
                    refine HBIN.out.mono ?_
                    rintro e w8 ⟨hb8, hr8⟩
                    obtain ⟨v8, n8, rfl⟩ := bin_tuple hr8
                    have d0 := cell_below hb8 (Nat.le_refl _) d0
                    have d1 := cell_below hb8 (Nat.le_refl _) d1
                    have d2 := cell_below hb8 (Nat.le_refl _) d2
                    have d3 := cell_below hb8 (Nat.le_refl _) d3
                    have mk8 := cell_below hb8 (Nat.le_refl _) mk7
                    have HB8 := Lib.hid (HB7.out.trans (hb8.mono HB7.out.size))
                    have HR8 := Lib.hid hr8
                    have HBIN3 := Lib.hid (fun w' (hb : Below w8.heap.size w8 w') => HBIN2.out w' (HB8.out.trans (hb.mono HB8.out.size)))
                    clear hb8 hr8 HBIN HBIN2 mk mk7 q0 q1 q2 q3
                    go_wp2_with fail
                    have hbA : Below w8.heap.size w8 w8 := Below.refl _ _
                    have hsA := hbA.size
                    go_region_held3 (fun w' => w'.cell? ⟨bm, k, none⟩ = some (.int .i64 mv) ∧ w'.cell? ⟨wb, 0, none⟩ = some (.int .i64 how) ∧ w'.cell? ⟨wb, 1, none⟩ = some (.slice an nn cn) ∧ w'.cell? ⟨wb, 2, none⟩ = some (.int .i64 1) ∧ w'.cell? ⟨wb, 3, none⟩ = some (.slice ai ni ci))
                      (exact ⟨cell_below (B := w8.heap.size) (by go_grown) (Nat.le_refl _) mk8, cell_below (B := w8.heap.size) (by go_grown) (Nat.le_refl _) d0, cell_below (B := w8.heap.size) (by go_grown) (Nat.le_refl _) d1, cell_below (B := w8.heap.size) (by go_grown) (Nat.le_refl _) d2, cell_below (B := w8.heap.size) (by go_grown) (Nat.le_refl _) d3⟩)
                      (first
                        | (go_at_call 31
                           refine (HBIN3.out _ (by go_grown)).mono ?_
                           rintro e w9 ⟨hb9, hr9⟩
                           obtain ⟨v9, n9, rfl⟩ := bin_tuple hr9
                           have hbA : Below w8.heap.size w8 w9 := Below.trans (by go_grown) (hb9.mono (by first | exact Nat.le_refl _ | (simp; done) | (simp; omega)))
                           have hsA := hbA.size))
                    have hr9' : BinR (mirO (k : Int)) (mirC 2) how names incl true qs ps (.returned (.tuple #[v9, .int .i64 n9])) w9 := by rw [HMC.out, ← HMO.out]; exact hr9
                    obtain ⟨v5, u5, q5, n5, e1, e2, hv5, hu5⟩ := bin_two HOP.out HR8.out hr9' hbA (Below.refl _ _)
                    injection e1 with e1
                    injection e1 with e1
                    injection e2 with e2
                    injection e2 with e2
                    simp only [Array.mk.injEq, List.cons.injEq, Value.int.injEq, true_and, and_true] at e1 e2
                    obtain ⟨rfl, rfl⟩ := e1
                    obtain ⟨rfl, rfl⟩ := e2
                    have HSM := Lib.hid (rvsame_J _ _ q5 w9 hv5 hu5)
                    have HB9 := Lib.hid (HB8.out.trans (hbA.mono HB8.out.size))
                    have enn : (n9 == n9) = true := by simp
                    clear hr9 hr9' hv5 hu5 hbA hsA hb9 mk8 d0 d1 d2 d3
                    go_wp2_with fail
                    refine HSM.out.mono ?_
                    rintro e w10 ⟨rfl, hb10⟩
                    have HB10 := Lib.hid (HB9.out.trans (hb10.mono HB9.out.size))
                    clear hb10
                    go_wp2_with fail
                    go_ret
                    exact ⟨by first | rfl | (simp; done), HB10.out⟩
                  · have e2 : (card == 2) = false := by simpa using hd2
                    have HMC := Lib.hid (show mirC card = card by unfold mirC; rw [if_neg hd1, if_neg hd2])
                    have hra2 : vfewL ps = true ∧ vrightL ps = true := by have := HFA.out.symm; rwa [Bool.and_eq_true] at this
                    have hrb2 : vfewL qs = true ∧ vrightL qs = true := by have := HFB.out.symm; rwa [Bool.and_eq_true] at this
                    obtain ⟨hoka, hla3⟩ := few_ok hra2.1 HWFA.out
                    obtain ⟨hokb, hlb3⟩ := few_ok hrb2.1 HWFB.out
                    have hgz : (∀ s ∈ names, s.size ≤ maxLen) ∧ ∀ s ∈ incl, s.size ≤ maxLen := by
                      have h := HFBB.out (by first | trivial | rfl)
                      exact ⟨fun s hs => by have := h.1 s hs; unfold maxLen; omega, fun s hs => by have := h.2 s hs; unfold maxLen; omega⟩
                    obtain ⟨w7, hw7⟩ : ∃ w7, w7 = w6.alloc (.cells #[.int .i64 how, .slice an nn cn, .int .i64 card, .slice ai ni ci] 55) := ⟨_, rfl⟩
                    obtain ⟨wb, hwb⟩ : ∃ b, b = w6.heap.size := ⟨_, rfl⟩
                    have hb7 : Below w6.heap.size w6 w7 := by rw [hw7]; exact (Below.refl _ _).alloc (Nat.le_refl _) _
                    have d0 : w7.cell? ⟨wb, 0, none⟩ = some (.int .i64 how) := by rw [hw7, hwb]; simp
                    have d1 : w7.cell? ⟨wb, 1, none⟩ = some (.slice an nn cn) := by rw [hw7, hwb]; simp
                    have d2 : w7.cell? ⟨wb, 2, none⟩ = some (.int .i64 card) := by rw [hw7, hwb]; simp
                    have d3 : w7.cell? ⟨wb, 3, none⟩ = some (.slice ai ni ci) := by rw [hw7, hwb]; simp
                    have mk7 := cell_below hb7 (Nat.le_refl _) mk
                    have hb07 := HB6.out.trans (hb7.mono HB6.out.size)
                    have HB7 := Lib.hid hb07
                    have HW7 := Lib.hid hw7
                    have HWB := Lib.hid hwb
                    have HBIN := Lib.hid (bin_go k card how true _ _ _ _ names incl ps qs w7 (HVA.out.below hb07 (Nat.le_refl _)) (HVB.out.below hb07 (Nat.le_refl _)) (HN.out.below hb07 (Nat.le_refl _)) (HI.out.below hb07 (Nat.le_refl _)) hgz.1 hgz.2 hoka hokb hla3 hlb3 (HT.out.below hb07 (Nat.le_refl _)))
                    have HBIN2 := Lib.hid (fun w' (hb : Below w.heap.size w w') => bin_go mv card how true _ _ _ _ names incl qs ps w' (HVB.out.below hb (Nat.le_refl _)) (HVA.out.below hb (Nat.le_refl _)) (HN.out.below hb (Nat.le_refl _)) (HI.out.below hb (Nat.le_refl _)) hgz.1 hgz.2 hokb hoka hlb3 hla3 (HT.out.below hb (Nat.le_refl _)))
                    clear hra2 hrb2 hoka hla3 hokb hlb3 hgz hw7 hwb hb7 hb07
                    go_wp2_with fail
                    rw [← HW7.out, ← HWB.out]
                    refine HBIN.out.mono ?_
                    rintro e w8 ⟨hb8, hr8⟩
                    obtain ⟨v8, n8, rfl⟩ := bin_tuple hr8
                    have d0 := cell_below hb8 (Nat.le_refl _) d0
                    have d1 := cell_below hb8 (Nat.le_refl _) d1
                    have d2 := cell_below hb8 (Nat.le_refl _) d2
                    have d3 := cell_below hb8 (Nat.le_refl _) d3
                    have mk8 := cell_below hb8 (Nat.le_refl _) mk7
                    have HB8 := Lib.hid (HB7.out.trans (hb8.mono HB7.out.size))
                    have HR8 := Lib.hid hr8
                    have HBIN3 := Lib.hid (fun w' (hb : Below w8.heap.size w8 w') => HBIN2.out w' (HB8.out.trans (hb.mono HB8.out.size)))
                    clear hb8 hr8 HBIN HBIN2 mk mk7 q0 q1 q2 q3
                    go_wp2_with fail
                    have hbA : Below w8.heap.size w8 w8 := Below.refl _ _
                    have hsA := hbA.size
                    go_region_held3 (fun w' => w'.cell? ⟨bm, k, none⟩ = some (.int .i64 mv) ∧ w'.cell? ⟨wb, 0, none⟩ = some (.int .i64 how) ∧ w'.cell? ⟨wb, 1, none⟩ = some (.slice an nn cn) ∧ w'.cell? ⟨wb, 2, none⟩ = some (.int .i64 card) ∧ w'.cell? ⟨wb, 3, none⟩ = some (.slice ai ni ci))
                      (exact ⟨cell_below (B := w8.heap.size) (by go_grown) (Nat.le_refl _) mk8, cell_below (B := w8.heap.size) (by go_grown) (Nat.le_refl _) d0, cell_below (B := w8.heap.size) (by go_grown) (Nat.le_refl _) d1, cell_below (B := w8.heap.size) (by go_grown) (Nat.le_refl _) d2, cell_below (B := w8.heap.size) (by go_grown) (Nat.le_refl _) d3⟩)
                      (first
                        | (go_at_call 31
                           refine (HBIN3.out _ (by go_grown)).mono ?_
                           rintro e w9 ⟨hb9, hr9⟩
                           obtain ⟨v9, n9, rfl⟩ := bin_tuple hr9
                           have hbA : Below w8.heap.size w8 w9 := Below.trans (by go_grown) (hb9.mono (by first | exact Nat.le_refl _ | (simp; done) | (simp; omega)))
                           have hsA := hbA.size))
                    have hr9' : BinR (mirO (k : Int)) (mirC card) how names incl true qs ps (.returned (.tuple #[v9, .int .i64 n9])) w9 := by rw [HMC.out, ← HMO.out]; exact hr9
                    obtain ⟨v5, u5, q5, n5, e1, e2, hv5, hu5⟩ := bin_two HOP.out HR8.out hr9' hbA (Below.refl _ _)
                    injection e1 with e1
                    injection e1 with e1
                    injection e2 with e2
                    injection e2 with e2
                    simp only [Array.mk.injEq, List.cons.injEq, Value.int.injEq, true_and, and_true] at e1 e2
                    obtain ⟨rfl, rfl⟩ := e1
                    obtain ⟨rfl, rfl⟩ := e2
                    have HSM := Lib.hid (rvsame_J _ _ q5 w9 hv5 hu5)
                    have HB9 := Lib.hid (HB8.out.trans (hbA.mono HB8.out.size))
                    have enn : (n9 == n9) = true := by simp
                    clear hr9 hr9' hv5 hu5 hbA hsA hb9 mk8 d0 d1 d2 d3
                    go_wp2_with fail
                    refine HSM.out.mono ?_
                    rintro e w10 ⟨rfl, hb10⟩
                    have HB10 := Lib.hid (HB9.out.trans (hb10.mono HB9.out.size))
                    clear hb10
                    go_wp2_with fail
                    go_ret
                    exact ⟨by first | rfl | (simp; done), HB10.out⟩
end Go.Proofs.YtogjcaakfnfapaaDoor
