/- AggDoes: the walk. (Several texts in one file, by merge.py.) -/
import Derived.Test.YtogjcaakfnfapaaDoorZB1
namespace Go.Proofs.YtogjcaakfnfapaaDoor
open Go Go.RowKit
set_option linter.unusedVariables false
set_option linter.unusedSimpArgs false
set_option maxRecDepth 100000
theorem rvsame_S (v u : Value) (q : List Pt) (w : World) (h : VS w v q) (h' : VS w u q) :
    Calls Tryd.prog 15 #[v, u] w fun e w' => e = .returned (.bool true) ∧ Below w.heap.size w w' := by
  refine (rvsame_any v u q q w h h').mono ?_
  rintro e w' ⟨rfl, n, rfl⟩
  exact ⟨by rw [vsame_refl], below_drewN (Below.refl _ _) n⟩
theorem aggr_tuple {op how : Int} {names : List ByteArray} {k : Nat} {ps : List Pt} {e : Ending} {w : World} (h : AggR op how names k ps e w) : ∃ v n, e = .returned (.tuple #[v, .int .i64 n]) := by
  rcases h with ⟨-, rfl⟩ | ⟨-, -, h3⟩
  · exact ⟨_, _, rfl⟩
  · exact nr_tuple h3
set_option maxHeartbeats 16000000 in
theorem aggDoes_walk (op how : Int) (vn : Value) (names : List ByteArray) (k : Nat) (v : Value) (ps : List Pt) (w : World) (ht : Tab w) (h0 : (Lit.int .i64 op).wf = true) (hn : Sl senc1 w vn names) (hk : (Lit.float .f64 k).wf = true) (hv : VS w v ps ∧ ∀ p ∈ ps, (Lit.float .f64 p.2).wf = true) :
    Calls Tryd.prog 3 #[.int .i64 op, .agg #[.int .i64 how, vn], .float .f64 k, v] w fun e w' => e = .returned (.bool true) ∧ Below w.heap.size w w' := by
  obtain ⟨hvs, hwf⟩ := hv
  have HN := Lib.hid hn
  have HVS := Lib.hid hvs
  have HT := Lib.hid ht
  have HWF := Lib.hid hwf
  obtain ⟨an, cn, rfl, hlen, -⟩ := hn.strings
  obtain ⟨av, cv, rfl, hlv, -⟩ := hvs.split
  obtain ⟨nn, hnn⟩ : ∃ n, n = names.length := ⟨_, rfl⟩
  rw [← hnn] at HN hlen ⊢
  obtain ⟨nv, hnv⟩ : ∃ n, n = ps.length := ⟨_, rfl⟩
  rw [← hnv] at HVS hlv ⊢
  have HNN := Lib.hid hnn
  have HNV := Lib.hid hnv
  obtain ⟨w0, hw0⟩ : ∃ w0, w0 = w.alloc (.cells #[.int .i64 how, .slice an nn cn] 24) := ⟨_, rfl⟩
  have hb0 : Below w.heap.size w w0 := by rw [hw0]; exact (Below.refl _ _).alloc (Nat.le_refl _) _
  obtain ⟨bg, hbg⟩ : ∃ b, b = w.heap.size := ⟨_, rfl⟩
  have g0 : w0.cell? ⟨bg, 0, none⟩ = some (.int .i64 how) := by rw [hw0, hbg]; simp
  have g1 : w0.cell? ⟨bg, 1, none⟩ = some (.slice an nn cn) := by rw [hw0, hbg]; simp
  have HW0 := Lib.hid hw0
  have HB0 := Lib.hid hb0
  have HBG := Lib.hid hbg
  have G0 := Lib.hid g0
  have G1 := Lib.hid g1
  have HK := Lib.hid (known_any w0 (HT.out.below hb0 (Nat.le_refl _)))
  have HRT := Lib.hid (fun w' (hb : Below w.heap.size w w') => lright_any _ ps w' (HVS.out.below hb (Nat.le_refl _)))
  have HFW := Lib.hid (fun w' (hb : Below w.heap.size w w') => gfew_any how _ names w' (HN.out.below hb (Nat.le_refl _)))
  obtain ⟨rr, hrr⟩ : ∃ r, r = (vfewL ps && vrightL ps) := ⟨_, rfl⟩
  rw [← hrr] at HRT
  have HRR := Lib.hid hrr
  clear ht h0 hn hk hvs hwf hnn hnv hw0 hb0 hbg g0 g1 hrr
  cases rr with
  | false =>
    go_enter Tryd.func3, Tryd.ntmps3
    go_wp2_with fail
    rw [← HW0.out, ← HBG.out]
    refine HK.out.mono ?_
    rintro e w1 ⟨rfl, hb1⟩
    have HB1 := Lib.hid (HB0.out.trans (hb1.mono HB0.out.size))
    clear hb1
    go_wp2_with fail
    refine (HRT.out _ HB1.out).mono ?_
    rintro e w2 ⟨rfl, n2, rfl⟩
    go_wp2_with fail
    go_ret
    exact ⟨rfl, below_drewN HB1.out n2⟩
  | true =>
    go_enter Tryd.func3, Tryd.ntmps3
    go_wp2_with fail
    rw [← HW0.out, ← HBG.out]
    refine HK.out.mono ?_
    rintro e w1 ⟨rfl, hb1⟩
    have HB1 := Lib.hid (HB0.out.trans (hb1.mono HB0.out.size))
    have g0 := cell_below hb1 (Nat.le_refl _) G0.out
    have g1 := cell_below hb1 (Nat.le_refl _) G1.out
    have HB01 := Lib.hid hb1
    clear hb1
    go_wp2_with fail
    refine (HRT.out _ HB1.out).mono ?_
    rintro e w2 ⟨rfl, n2, rfl⟩
    have g0 : (w1.drewN n2).cell? ⟨bg, 0, none⟩ = some (.int .i64 how) := g0
    have g1 : (w1.drewN n2).cell? ⟨bg, 1, none⟩ = some (.slice an nn cn) := g1
    have hb2 := below_drewN HB1.out n2
    have hb02 := below_drewN HB01.out n2
    generalize w1.drewN n2 = w2 at g0 g1 hb2 hb02 ⊢
    have HB2 := Lib.hid hb2
    have HB02 := Lib.hid hb02
    clear hb2 hb02
    go_wp2_with fail
    refine (HFW.out _ HB2.out).mono ?_
    rintro e w3 ⟨fb, rfl, hfb, hb3⟩
    have HB3 := Lib.hid (HB2.out.trans (hb3.mono HB2.out.size))
    have HB03 := Lib.hid (HB02.out.trans (hb3.mono HB02.out.size))
    have HFB := Lib.hid hfb
    clear hfb hb3 g0 g1
    cases fb with
    | false =>
      go_wp2_with fail
      go_ret
      exact ⟨rfl, HB3.out⟩
    | true =>
      obtain ⟨hf1, hf2⟩ := HFB.out rfl
      have hrt : vfewL ps = true ∧ vrightL ps = true := by have := HRR.out.symm; rwa [Bool.and_eq_true] at this
      obtain ⟨hok, hl3⟩ := few_ok hrt.1 HWF.out
      have hgz : ∀ s ∈ names, s.size ≤ maxLen := fun s hs => by have := hf2 s hs; unfold maxLen; omega
      have HA := Lib.hid (fun (o : Int) w' (hb : Below w.heap.size w w') => agg_go o how k _ _ names ps w' (HVS.out.below hb (Nat.le_refl _)) (HN.out.below hb (Nat.le_refl _)) hgz hok hl3 (HT.out.below hb (Nat.le_refl _)))
      have HR := Lib.hid (fun (o : Int) w' (hb : Below w.heap.size w w') => ragg_go o how k _ _ names ps w' (HVS.out.below hb (Nat.le_refl _)) (HN.out.below hb (Nat.le_refl _)) (by omega) hok hl3)
      have HC1 := Lib.hid (fun w' (hb : Below w.heap.size w w') => check_any how _ names w' (HN.out.below hb (Nat.le_refl _)) hgz)
      have HC2 := Lib.hid (fun w' (hb : Below w.heap.size w w') => rcheck_any how _ names w' (HN.out.below hb (Nat.le_refl _)))
      clear hf1 hf2 hrt hok hl3 hgz
      go_wp2_with fail
      go_loopw [9] (fun i wr => ∃ o : Nat, o ≤ 10 ∧ i = .int .i64 o ∧ Hid (Below w.heap.size w wr) ∧ Hid (Below w0.heap.size w0 wr)) (fun i _ => 10 - (intOf i).toNat)
      case atStart => exact ⟨0, by omega, rfl, HB3.out, HB03.out⟩
      case round =>
        obtain ⟨o, ho, rfl, HB, HBW⟩ := hrel
        have g0 := cell_below HBW.out (Nat.le_refl _) G0.out
        have g1 := cell_below HBW.out (Nat.le_refl _) G1.out
        by_cases hlt : o ≤ 9
        · have hltz : (o : Int) ≤ 9 := by omega
          go_wp2_with fail
          refine (HA.out _ _ HB.out).mono ?_
          rintro e w4 ⟨hb4, hr4⟩
          obtain ⟨v4, n4, rfl⟩ := aggr_tuple hr4
          have HR4 := Lib.hid hr4
          have HB4 := Lib.hid (HB.out.trans (hb4.mono HB.out.size))
          have HBW4 := Lib.hid (HBW.out.trans (hb4.mono HBW.out.size))
          have g0 := cell_below hb4 (Nat.le_refl _) g0
          have g1 := cell_below hb4 (Nat.le_refl _) g1
          clear hr4 hb4
          go_wp2_with fail
          refine (HR.out _ _ HB4.out).mono ?_
          rintro e w5 ⟨hb5, hr5⟩
          obtain ⟨v5, u5, q5, n5, e1, rfl, hv5, hu5⟩ := aggr_two HR4.out hr5 hb5 (Below.refl _ _)
          injection e1 with e1
          injection e1 with e1
          simp only [Array.mk.injEq, List.cons.injEq, Value.int.injEq, true_and, and_true] at e1
          obtain ⟨rfl, rfl⟩ := e1
          have HSM := Lib.hid (rvsame_S v4 u5 q5 w5 hv5 hu5)
          have HB5 := Lib.hid (HB4.out.trans (hb5.mono HB4.out.size))
          have HBW5 := Lib.hid (HBW4.out.trans (hb5.mono HBW4.out.size))
          have g0 := cell_below hb5 (Nat.le_refl _) g0
          have g1 := cell_below hb5 (Nat.le_refl _) g1
          have enn : (n4 == n4) = true := by simp
          have enb : (n4 != n4) = false := by simp
          clear hr5 hb5 hv5 hu5
          go_wp2_with fail
          refine HSM.out.mono ?_
          rintro e w6 ⟨rfl, hb6⟩
          have HB6 := Lib.hid (HB5.out.trans (hb6.mono HB5.out.size))
          have HBW6 := Lib.hid (HBW5.out.trans (hb6.mono HBW5.out.size))
          clear hb6
          go_wp2_with fail
          go_roundw
          case rel => exact ⟨o + 1, by omega, by go_num, HB6.out, HBW6.out⟩
          case measure => simp [intOf]; omega
        · have hltz : ¬ (o : Int) ≤ 9 := by omega
          go_wp2_with fail
          refine (HA.out _ _ HB.out).mono ?_
          rintro e w4 ⟨hb4, hr4⟩
          obtain ⟨v4, n4, rfl⟩ := aggr_tuple hr4
          have HR4 := Lib.hid hr4
          have HB4 := Lib.hid (HB.out.trans (hb4.mono HB.out.size))
          have HBW4 := Lib.hid (HBW.out.trans (hb4.mono HBW.out.size))
          have g0 := cell_below hb4 (Nat.le_refl _) g0
          have g1 := cell_below hb4 (Nat.le_refl _) g1
          clear hr4 hb4
          go_wp2_with fail
          refine (HR.out _ _ HB4.out).mono ?_
          rintro e w5 ⟨hb5, hr5⟩
          obtain ⟨v5, u5, q5, n5, e1, rfl, hv5, hu5⟩ := aggr_two HR4.out hr5 hb5 (Below.refl _ _)
          injection e1 with e1
          injection e1 with e1
          simp only [Array.mk.injEq, List.cons.injEq, Value.int.injEq, true_and, and_true] at e1
          obtain ⟨rfl, rfl⟩ := e1
          have HSM := Lib.hid (rvsame_S v4 u5 q5 w5 hv5 hu5)
          have HB5 := Lib.hid (HB4.out.trans (hb5.mono HB4.out.size))
          have HBW5 := Lib.hid (HBW4.out.trans (hb5.mono HBW4.out.size))
          have g0 := cell_below hb5 (Nat.le_refl _) g0
          have g1 := cell_below hb5 (Nat.le_refl _) g1
          have enn : (n4 == n4) = true := by simp
          have enb : (n4 != n4) = false := by simp
          clear hr5 hb5
          go_wp2_with fail
          have hbA : Below w5.heap.size w5 w5 := Below.refl _ _
          have hsA := hbA.size
          obtain ⟨ck, hck⟩ : ∃ c, c = chkL how names := ⟨_, rfl⟩
          rw [← hck] at HC1 HC2
          have ecc : (ck == ck) = true := by simp
          clear hck
          go_region_held3 (fun w' => w'.cell? ⟨bg, 0, none⟩ = some (.int .i64 how) ∧ w'.cell? ⟨bg, 1, none⟩ = some (.slice an nn cn))
            (exact ⟨cell_below (B := w5.heap.size) (by go_grown) (Nat.le_refl _) g0, cell_below (B := w5.heap.size) (by go_grown) (Nat.le_refl _) g1⟩)
            (first
              | (go_at_call 15
                 refine (rvsame_S v4 u5 q5 _ (hv5.below (by go_grown) (Nat.le_refl _)) (hu5.below (by go_grown) (Nat.le_refl _))).mono ?_
                 rintro e w6 ⟨rfl, hb6⟩
                 have hbA : Below w5.heap.size w5 w6 := Below.trans (by go_grown) (hb6.mono (by first | exact Nat.le_refl _ | (simp; done) | (simp; omega)))
                 have hsA := hbA.size)
              | (go_at_call 16
                 refine (HC1.out _ (HB5.out.trans (hbA.mono HB5.out.size))).mono ?_
                 rintro e w7 ⟨rfl, hb7⟩
                 have hbA : Below w5.heap.size w5 w7 := hbA.trans (hb7.mono hsA)
                 have hsA := hbA.size)
              | (go_at_call 17
                 refine (HC2.out _ (HB5.out.trans (hbA.mono HB5.out.size))).mono ?_
                 rintro e w8 ⟨rfl, hb8⟩
                 have hbA : Below w5.heap.size w5 w8 := hbA.trans (hb8.mono hsA)
                 have hsA := hbA.size))
          have HBA := Lib.hid hbA
          clear hbA
          go_wp2_with fail
          go_ret
          exact ⟨rfl, HB5.out.trans (HBA.out.mono HB5.out.size)⟩
end Go.Proofs.YtogjcaakfnfapaaDoor
