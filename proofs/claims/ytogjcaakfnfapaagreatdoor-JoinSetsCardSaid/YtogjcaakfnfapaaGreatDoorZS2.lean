/- JoinSets: the walk (printed by gen_jl4.py). (Several texts in one file, by merge.py.) -/
import Derived.Test.YtogjcaakfnfapaaGreatDoorZC15
import Derived.Test.YtogjcaakfnfapaaGreatDoorZS1
namespace Go.Proofs.YtogjcaakfnfapaaGreatDoor
open Go Go.RowKit
set_option linter.unusedVariables false
set_option linter.unusedSimpArgs false
set_option maxRecDepth 100000
theorem rvsame_J (v u : Value) (q : List Pt) (w : World) (h : VS w v q) (h' : VS w u q) :
    Calls Tryz.prog 11 #[v, u] w fun e w' => e = .returned (.bool true) ∧ Below w.heap.size w w' := by
  refine (rvsame_any v u q q w h h').mono ?_
  rintro e w' ⟨rfl, n, rfl⟩
  exact ⟨by rw [vsame_refl], below_drewN (Below.refl _ _) n⟩
/-- Two answers of one set operator are one. -/
theorem setr_two {op how : Int} {names : List ByteArray} {ps qs : List Pt} {e f : Ending} {w w' W : World}
    (h : SetR op how names ps qs e w) (h' : SetR op how names ps qs f w') (hb : Below w.heap.size w W) (hb' : Below w'.heap.size w' W) :
    ∃ v u q n, e = .returned (.tuple #[v, .int .i64 n]) ∧ f = .returned (.tuple #[u, .int .i64 n]) ∧ VS W v q ∧ VS W u q := by
  rcases h with ⟨h1, rfl⟩ | ⟨h1, h3⟩
  · rcases h' with ⟨-, rfl⟩ | ⟨g1, -⟩
    · exact ⟨_, _, [], 1, rfl, rfl, VS.nil _, VS.nil _⟩
    · omega
  · rcases h' with ⟨g1, -⟩ | ⟨-, g3⟩
    · omega
    · obtain ⟨v, u, q, n, a, b, c, d, -⟩ := nr_two h3 g3 hb hb'
      exact ⟨v, u, q, n, a, b, c, d⟩
set_option maxHeartbeats 32000000 in
theorem joinSets_walk (op how : Int) (vn : Value) (names : List ByteArray) (va : Value) (ps : List Pt) (vb : Value) (qs : List Pt) (w : World) (ht : Tab w) (h0 : (Lit.int .i64 op).wf = true) (hn : Sl senc1 w vn names) (hva : VS w va ps ∧ ∀ p ∈ ps, (Lit.float .f64 p.2).wf = true) (hvb : VS w vb qs ∧ ∀ p ∈ qs, (Lit.float .f64 p.2).wf = true) :
    Calls Tryz.prog 4 #[.int .i64 op, .agg #[.int .i64 how, vn], va, vb] w fun e w' => e = .returned (.bool true) ∧ Below w.heap.size w w' := by
  obtain ⟨hvsa, hwfa⟩ := hva
  obtain ⟨hvsb, hwfb⟩ := hvb
  have HN := Lib.hid hn
  have HVA := Lib.hid hvsa
  have HVB := Lib.hid hvsb
  have HWFA := Lib.hid hwfa
  have HWFB := Lib.hid hwfb
  have HT := Lib.hid ht
  obtain ⟨an, cn, rfl, hlen, -⟩ := hn.strings
  obtain ⟨aa, ca, rfl, hlva, -⟩ := hvsa.split
  obtain ⟨ab, cb, rfl, hlvb, -⟩ := hvsb.split
  obtain ⟨nn, hnn⟩ : ∃ n, n = names.length := ⟨_, rfl⟩
  rw [← hnn] at HN hlen ⊢
  obtain ⟨na, hna⟩ : ∃ n, n = ps.length := ⟨_, rfl⟩
  rw [← hna] at HVA hlva ⊢
  obtain ⟨nb, hnb⟩ : ∃ n, n = qs.length := ⟨_, rfl⟩
  rw [← hnb] at HVB hlvb ⊢
  obtain ⟨w0, hw0⟩ : ∃ w0, w0 = w.alloc (.cells #[.int .i64 how, .slice an nn cn] 24) := ⟨_, rfl⟩
  have hb0 : Below w.heap.size w w0 := by rw [hw0]; exact (Below.refl _ _).alloc (Nat.le_refl _) _
  obtain ⟨bg, hbg⟩ : ∃ b, b = w.heap.size := ⟨_, rfl⟩
  have k0 : w0.cell? ⟨bg, 0, none⟩ = some (.int .i64 how) := by rw [hw0, hbg]; simp
  have k1 : w0.cell? ⟨bg, 1, none⟩ = some (.slice an nn cn) := by rw [hw0, hbg]; simp
  have HBG := Lib.hid hbg
  have HW0 := Lib.hid hw0
  have HB0 := Lib.hid hb0
  have HK := Lib.hid (jknown_any w0 (HT.out.below hb0 (Nat.le_refl _)))
  have HRA := Lib.hid (fun w' (hb : Below w.heap.size w w') => lright_any _ ps w' (HVA.out.below hb (Nat.le_refl _)))
  have HRB := Lib.hid (fun w' (hb : Below w.heap.size w w') => lright_any _ qs w' (HVB.out.below hb (Nat.le_refl _)))
  have HCT := Lib.hid (fun w' (hb : Below w.heap.size w w') => mcount_any how 0 _ (.slice none 0 0) names [] w' (HN.out.below hb (Nat.le_refl _)) (Sl.nil _))
  obtain ⟨ra, hra⟩ : ∃ r, r = (vfewL ps && vrightL ps) := ⟨_, rfl⟩
  rw [← hra] at HRA
  obtain ⟨rb, hrb⟩ : ∃ r, r = (vfewL qs && vrightL qs) := ⟨_, rfl⟩
  rw [← hrb] at HRB
  obtain ⟨ct, hct⟩ : ∃ r, r = (decide (names.length ≤ 40) && decide (([] : List ByteArray).length ≤ 40)) := ⟨_, rfl⟩
  rw [← hct] at HCT
  have HFA := Lib.hid hra
  have HFB := Lib.hid hrb
  have HCC := Lib.hid hct
  clear ht h0 hn  hvsa hvsb hwfa hwfb hnn  hna hnb hw0 hb0 hbg hra hrb hct
  go_enter Tryz.func4, Tryz.ntmps4
  go_wp2_with fail
  rw [← HW0.out, ← HBG.out]
  refine HK.out.mono ?_
  rintro e w1 ⟨rfl, hb1⟩
  have k0 := cell_below hb1 (Nat.le_refl _) k0
  have k1 := cell_below hb1 (Nat.le_refl _) k1
  have hb01 := HB0.out.trans (hb1.mono HB0.out.size)
  obtain ⟨w2, hw2⟩ : ∃ w2, w2 = w1.alloc (.cells #[.int .i64 how, .slice an nn cn, .int .i64 0, .slice none 0 0] 26) := ⟨_, rfl⟩
  obtain ⟨mb, hmb⟩ : ∃ b, b = w1.heap.size := ⟨_, rfl⟩
  have hb12 : Below w1.heap.size w1 w2 := by rw [hw2]; exact (Below.refl _ _).alloc (Nat.le_refl _) _
  have k0 := cell_below hb12 (Nat.le_refl _) k0
  have k1 := cell_below hb12 (Nat.le_refl _) k1
  have q0 : w2.cell? ⟨mb, 0, none⟩ = some (.int .i64 how) := by rw [hw2, hmb]; simp
  have q1 : w2.cell? ⟨mb, 1, none⟩ = some (.slice an nn cn) := by rw [hw2, hmb]; simp
  have q2 : w2.cell? ⟨mb, 2, none⟩ = some (.int .i64 0) := by rw [hw2, hmb]; simp
  have q3 : w2.cell? ⟨mb, 3, none⟩ = some (.slice none 0 0) := by rw [hw2, hmb]; simp
  have HB2 := Lib.hid (hb01.trans (hb12.mono hb01.size))
  have HW2 := Lib.hid hw2
  have HMB := Lib.hid hmb
  clear hb1 hb01 hb12 hw2 hmb
  go_wp2_with fail
  rw [← HW2.out, ← HMB.out]
  refine (HRA.out _ HB2.out).mono ?_
  rintro e w3 ⟨rfl, n3, rfl⟩
  cases ra with
  | false =>
    go_wp2_with fail
    go_ret
    exact ⟨rfl, below_drewN HB2.out n3⟩
  | true =>
    have k0 : (w2.drewN n3).cell? ⟨bg, 0, none⟩ = some (.int .i64 how) := k0
    have k1 : (w2.drewN n3).cell? ⟨bg, 1, none⟩ = some (.slice an nn cn) := k1
    have q0 : (w2.drewN n3).cell? ⟨mb, 0, none⟩ = some (.int .i64 how) := q0
    have q1 : (w2.drewN n3).cell? ⟨mb, 1, none⟩ = some (.slice an nn cn) := q1
    have q2 : (w2.drewN n3).cell? ⟨mb, 2, none⟩ = some (.int .i64 0) := q2
    have q3 : (w2.drewN n3).cell? ⟨mb, 3, none⟩ = some (.slice none 0 0) := q3
    have hb := below_drewN HB2.out n3
    generalize w2.drewN n3 = w3 at k0 k1 q0 q1 q2 q3 hb ⊢
    have HB3 := Lib.hid hb
    clear hb
    go_wp2_with fail
    refine (HRB.out _ HB3.out).mono ?_
    rintro e w4 ⟨rfl, n4, rfl⟩
    cases rb with
    | false =>
      go_wp2_with fail
      go_ret
      exact ⟨rfl, below_drewN HB3.out n4⟩
    | true =>
      have k0 : (w3.drewN n4).cell? ⟨bg, 0, none⟩ = some (.int .i64 how) := k0
      have k1 : (w3.drewN n4).cell? ⟨bg, 1, none⟩ = some (.slice an nn cn) := k1
      have q0 : (w3.drewN n4).cell? ⟨mb, 0, none⟩ = some (.int .i64 how) := q0
      have q1 : (w3.drewN n4).cell? ⟨mb, 1, none⟩ = some (.slice an nn cn) := q1
      have q2 : (w3.drewN n4).cell? ⟨mb, 2, none⟩ = some (.int .i64 0) := q2
      have q3 : (w3.drewN n4).cell? ⟨mb, 3, none⟩ = some (.slice none 0 0) := q3
      have hb := below_drewN HB3.out n4
      generalize w3.drewN n4 = w4 at k0 k1 q0 q1 q2 q3 hb ⊢
      have HB4 := Lib.hid hb
      clear hb
      go_wp2_with fail
      refine (HCT.out _ HB4.out).mono ?_
      rintro e w5 ⟨rfl, hb5⟩
      have k0 := cell_below hb5 (Nat.le_refl _) k0
      have k1 := cell_below hb5 (Nat.le_refl _) k1
      have q0 := cell_below hb5 (Nat.le_refl _) q0
      have q1 := cell_below hb5 (Nat.le_refl _) q1
      have q2 := cell_below hb5 (Nat.le_refl _) q2
      have q3 := cell_below hb5 (Nat.le_refl _) q3
      have HB5 := Lib.hid (HB4.out.trans (hb5.mono HB4.out.size))
      clear hb5
      cases ct with
      | false =>
        go_wp2_with fail
        go_ret
        exact ⟨rfl, HB5.out⟩
      | true =>
        have hn40 : names.length ≤ 40 ∧ ([] : List ByteArray).length ≤ 40 := by have := HCC.out.symm; rw [Bool.and_eq_true] at this; exact ⟨of_decide_eq_true this.1, of_decide_eq_true this.2⟩
        have HMF := Lib.hid (mfew_any how 0 _ (.slice none 0 0) names [] w5 (HN.out.below HB5.out (Nat.le_refl _)) (Sl.nil _) hn40.1 hn40.2)
        have HN4 := Lib.hid hn40
        clear hn40
        go_wp2_with fail
        refine HMF.out.mono ?_
        rintro e w6 ⟨fb, rfl, hfb, hb6⟩
        have k0 := cell_below hb6 (Nat.le_refl _) k0
        have k1 := cell_below hb6 (Nat.le_refl _) k1
        have q0 := cell_below hb6 (Nat.le_refl _) q0
        have q1 := cell_below hb6 (Nat.le_refl _) q1
        have q2 := cell_below hb6 (Nat.le_refl _) q2
        have q3 := cell_below hb6 (Nat.le_refl _) q3
        have HB6 := Lib.hid (HB5.out.trans (hb6.mono HB5.out.size))
        have HFBB := Lib.hid hfb
        clear hb6 HMF hfb
        cases fb with
        | false =>
          go_wp2_with fail
          go_ret
          exact ⟨rfl, HB6.out⟩
        | true =>
          have hgz : (∀ s ∈ names, s.size ≤ maxLen) ∧ ∀ s ∈ ([] : List ByteArray), s.size ≤ maxLen := by
            have h := HFBB.out (by first | trivial | rfl)
            exact ⟨fun s hs => by have := h.1 s hs; unfold maxLen; omega, fun s hs => by have := h.2 s hs; unfold maxLen; omega⟩
          have hra2 : vfewL ps = true ∧ vrightL ps = true := by have := HFA.out.symm; rwa [Bool.and_eq_true] at this
          have hrb2 : vfewL qs = true ∧ vrightL qs = true := by have := HFB.out.symm; rwa [Bool.and_eq_true] at this
          obtain ⟨hoka, hla3⟩ := few_ok hra2.1 HWFA.out
          obtain ⟨hokb, hlb3⟩ := few_ok hrb2.1 HWFB.out
          have HC1 := Lib.hid (fun w' (hb : Below w.heap.size w w') => set_go op how _ _ _ names ps qs w' (HVA.out.below hb (Nat.le_refl _)) (HVB.out.below hb (Nat.le_refl _)) (HN.out.below hb (Nat.le_refl _)) hgz.1 hoka hokb hla3 hlb3 (HT.out.below hb (Nat.le_refl _)))
          have HC2 := Lib.hid (fun w' (hb : Below w.heap.size w w') => rset_go op how _ _ _ names ps qs w' (HVA.out.below hb (Nat.le_refl _)) (HVB.out.below hb (Nat.le_refl _)) (HN.out.below hb (Nat.le_refl _)) (by have := HN4.out.1; omega) hoka hokb hla3 hlb3)
          clear hgz hra2 hrb2 hoka hla3 hokb hlb3
          go_wp2_with fail
          refine (HC1.out _ HB6.out).mono ?_
          rintro e w8 ⟨hb8, hr8⟩
          obtain ⟨v8, n8, rfl⟩ := set_tuple hr8
          have k0 := cell_below hb8 (Nat.le_refl _) k0
          have k1 := cell_below hb8 (Nat.le_refl _) k1
          have HB8 := Lib.hid (HB6.out.trans (hb8.mono HB6.out.size))
          have HR8 := Lib.hid hr8
          clear hb8 hr8 HC1
          go_wp2_with fail
          refine (HC2.out _ HB8.out).mono ?_
          rintro e w9 ⟨hb9, hr9⟩
          obtain ⟨v9, n9, rfl⟩ := set_tuple hr9
          have k0 := cell_below hb9 (Nat.le_refl _) k0
          have k1 := cell_below hb9 (Nat.le_refl _) k1
          have HB9 := Lib.hid (HB8.out.trans (hb9.mono HB8.out.size))
          obtain ⟨v5, u5, q5, n5, e1, e2, hv5, hu5⟩ := setr_two HR8.out hr9 hb9 (Below.refl _ _)
          injection e1 with e1
          injection e1 with e1
          injection e2 with e2
          injection e2 with e2
          simp only [Array.mk.injEq, List.cons.injEq, Value.int.injEq, true_and, and_true] at e1 e2
          obtain ⟨rfl, rfl⟩ := e1
          obtain ⟨rfl, rfl⟩ := e2
          have enn : (n9 == n9) = true := by simp
          have HSM := Lib.hid (fun w' (hb : Below w9.heap.size w9 w') => rvsame_J _ _ q5 w' (hv5.below hb (Nat.le_refl _)) (hu5.below hb (Nat.le_refl _)))
          clear hr9 hv5 hu5 hb9
          go_wp2_with fail
          refine (HSM.out _ (Below.refl _ _)).mono ?_
          rintro e w10 ⟨rfl, hb10⟩
          have HB10 := Lib.hid (HB9.out.trans (hb10.mono HB9.out.size))
          clear hb10
          go_wp2_with fail
          go_ret
          exact ⟨by first | rfl | (simp; done), HB10.out⟩
end Go.Proofs.YtogjcaakfnfapaaGreatDoor
