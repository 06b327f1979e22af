/- JoinSigns: the walk. (Several texts in one file, by merge.py.) -/
import Derived.Test.YtogjcaakfnfapaaDoorZJ7
namespace Go.Proofs.YtogjcaakfnfapaaDoor
open Go Go.RowKit
set_option linter.unusedVariables false
set_option linter.unusedSimpArgs false
set_option maxRecDepth 100000
set_option maxHeartbeats 16000000 in
theorem joinSigns_walk (v : Value) (ls : List Lb) (how : Int) (vn : Value) (names : List ByteArray) (op : Int) (s : ByteArray) (w : World) (ht : Tab w) (hl : Sl lenc w v ls) (hn : Sl senc1 w vn names) (h0 : (Lit.int .i64 op).wf = true) (h1 : s.size ≤ 9223372036854775807) :
    Calls Tryd.prog 8 #[v, .agg #[.int .i64 how, vn], .int .i64 op, .string s] w fun e w' => e = .returned (.bool true) ∧ Below w.heap.size w w' := by
  have HN := Lib.hid hn
  have HL := Lib.hid hl
  have HT := Lib.hid ht
  obtain ⟨an, cn, rfl, hlen, -⟩ := hn.strings
  obtain ⟨av, cv, rfl, hlv, -⟩ := hl.len lenc_pos
  obtain ⟨nn, hnn⟩ : ∃ n, n = names.length := ⟨_, rfl⟩
  rw [← hnn] at HN hlen ⊢
  obtain ⟨nv, hnv⟩ : ∃ n, n = ls.length := ⟨_, rfl⟩
  rw [← hnv] at HL hlv ⊢
  have HNN := Lib.hid hnn
  have HNV := Lib.hid hnv
  obtain ⟨w0, hw0⟩ : ∃ w0, w0 = w.alloc (.cells #[.int .i64 how, .slice an nn cn] 24) := ⟨_, rfl⟩
  have hb0 : Below w.heap.size w w0 := by rw [hw0]; exact (Below.refl _ _).alloc (Nat.le_refl _) _
  obtain ⟨bg, hbg⟩ : ∃ b, b = w.heap.size := ⟨_, rfl⟩
  have g0 : w0.cell? ⟨bg, 0, none⟩ = some (.int .i64 how) := by rw [hw0, hbg]; simp
  have g1 : w0.cell? ⟨bg, 1, none⟩ = some (.slice an nn cn) := by rw [hw0, hbg]; simp
  have HW0 := Lib.hid hw0
  have HB0 := Lib.hid hb0
  have HBG := Lib.hid hbg
  have G0 := Lib.hid g0
  have G1 := Lib.hid g1
  have HK := Lib.hid (jknown_any w0 (HT.out.below hb0 (Nat.le_refl _)))
  have HFW := Lib.hid (fun w' (hb : Below w.heap.size w w') => few_any _ ls w' (HL.out.below hb (Nat.le_refl _)))
  have HRT := Lib.hid (fun w' (hb : Below w.heap.size w w') => rright_any _ ls w' (HL.out.below hb (Nat.le_refl _)))
  have HCT := Lib.hid (fun w' (hb : Below w.heap.size w w') => mcount_any how 0 _ (.slice none 0 0) names [] w' (HN.out.below hb (Nat.le_refl _)) (Sl.nil _))
  obtain ⟨fw, hfw⟩ : ∃ r, r = fewL ls := ⟨_, rfl⟩
  rw [← hfw] at HFW
  obtain ⟨rt, hrt⟩ : ∃ r, r = rightL ls := ⟨_, rfl⟩
  rw [← hrt] at HRT
  obtain ⟨ct, hct⟩ : ∃ r, r = (decide (names.length ≤ 40) && decide (([] : List ByteArray).length ≤ 40)) := ⟨_, rfl⟩
  rw [← hct] at HCT
  have HFF := Lib.hid hfw
  have HCC := Lib.hid hct
  clear ht h0 hn hl hnn hnv hw0 hb0 hbg g0 g1 hfw hrt hct
  go_enter Tryd.func8, Tryd.ntmps8
  go_wp2_with fail
  rw [← HW0.out, ← HBG.out]
  refine HK.out.mono ?_
  rintro e w1 ⟨rfl, hb1⟩
  have g0 := cell_below hb1 (Nat.le_refl _) G0.out
  have g1 := cell_below hb1 (Nat.le_refl _) G1.out
  have hb01 := HB0.out.trans (hb1.mono HB0.out.size)
  obtain ⟨w2, hw2⟩ : ∃ w2, w2 = w1.alloc (.cells #[.int .i64 how, .slice an nn cn, .int .i64 0, .slice none 0 0] 55) := ⟨_, rfl⟩
  obtain ⟨mb, hmb⟩ : ∃ b, b = w1.heap.size := ⟨_, rfl⟩
  have hb12 : Below w1.heap.size w1 w2 := by rw [hw2]; exact (Below.refl _ _).alloc (Nat.le_refl _) _
  have k0 := cell_below hb12 (Nat.le_refl _) g0
  have k1 := cell_below hb12 (Nat.le_refl _) g1
  have q0 : w2.cell? ⟨mb, 0, none⟩ = some (.int .i64 how) := by rw [hw2, hmb]; simp
  have q1 : w2.cell? ⟨mb, 1, none⟩ = some (.slice an nn cn) := by rw [hw2, hmb]; simp
  have q2 : w2.cell? ⟨mb, 2, none⟩ = some (.int .i64 0) := by rw [hw2, hmb]; simp
  have q3 : w2.cell? ⟨mb, 3, none⟩ = some (.slice none 0 0) := by rw [hw2, hmb]; simp
  have HB2 := Lib.hid (hb01.trans (hb12.mono hb01.size))
  have HW2 := Lib.hid hw2
  have HMB := Lib.hid hmb
  clear hb1 hb01 hb12 hw2 hmb
  go_wp2_with fail
  rw [← HW2.out, ← HMB.out]
  refine (HFW.out _ HB2.out).mono ?_
  rintro e w3 ⟨rfl, rfl⟩
  cases fw with
  | false =>
    go_wp2_with fail
    go_ret
    exact ⟨rfl, HB2.out⟩
  | true =>
    go_wp2_with fail
    refine (HRT.out _ HB2.out).mono ?_
    rintro e w4 ⟨rfl, n4, rfl⟩
    cases rt with
    | false =>
      go_wp2_with fail
      go_ret
      exact ⟨rfl, below_drewN HB2.out n4⟩
    | true =>
      have k0 : (w3.drewN n4).cell? ⟨bg, 0, none⟩ = some (.int .i64 how) := k0
      have k1 : (w3.drewN n4).cell? ⟨bg, 1, none⟩ = some (.slice an nn cn) := k1
      have q0 : (w3.drewN n4).cell? ⟨mb, 0, none⟩ = some (.int .i64 how) := q0
      have q1 : (w3.drewN n4).cell? ⟨mb, 1, none⟩ = some (.slice an nn cn) := q1
      have q2 : (w3.drewN n4).cell? ⟨mb, 2, none⟩ = some (.int .i64 0) := q2
      have q3 : (w3.drewN n4).cell? ⟨mb, 3, none⟩ = some (.slice none 0 0) := q3
      have hb4 := below_drewN HB2.out n4
      generalize w3.drewN n4 = w4 at k0 k1 q0 q1 q2 q3 hb4 ⊢
      have HB4 := Lib.hid hb4
      clear hb4
      go_wp2_with fail
      refine (HCT.out _ HB4.out).mono ?_
      rintro e w5 ⟨rfl, hb5⟩
      have k0 := cell_below hb5 (Nat.le_refl _) k0
      have k1 := cell_below hb5 (Nat.le_refl _) k1
      have q0 := cell_below hb5 (Nat.le_refl _) q0
      have q1 := cell_below hb5 (Nat.le_refl _) q1
      have q2 := cell_below hb5 (Nat.le_refl _) q2
      have q3 := cell_below hb5 (Nat.le_refl _) q3
      have HB5 := Lib.hid (HB4.out.trans (hb5.mono HB4.out.size))
      clear hb5
      cases ct with
      | false =>
        go_wp2_with fail
        go_ret
        exact ⟨rfl, HB5.out⟩
      | true =>
        have hn40 : names.length ≤ 40 := by have := HCC.out.symm; rw [Bool.and_eq_true] at this; exact of_decide_eq_true this.1
        have hv80 : ls.length ≤ 80 := few_len HFF.out.symm
        have HMF := Lib.hid (mfew_any how 0 _ (.slice none 0 0) names [] w5 (HN.out.below HB5.out (Nat.le_refl _)) (Sl.nil _) hn40 (by decide))
        have HN4 := Lib.hid hn40
        have HV8 := Lib.hid hv80
        clear hn40 hv80
        go_wp2_with fail
        refine HMF.out.mono ?_
        rintro e w6 ⟨fb, rfl, -, hb6⟩
        have k0 := cell_below hb6 (Nat.le_refl _) k0
        have k1 := cell_below hb6 (Nat.le_refl _) k1
        have HB6 := Lib.hid (HB5.out.trans (hb6.mono HB5.out.size))
        clear hb6 HMF q0 q1 q2 q3
        cases fb with
        | false =>
          go_wp2_with fail
          go_ret
          exact ⟨rfl, HB6.out⟩
        | true =>
          have H1 := Lib.hid (fun w => jnNamed_any s w)
          have H2 := Lib.hid (fun w => jnrnamed_any s w)
          obtain ⟨⟨n, b⟩, hnb⟩ : ∃ x, x = jnNamedI s := ⟨_, rfl⟩
          rw [← hnb] at H1 H2
          clear hnb
          go_wp2_with fail
          refine (H1.out _).mono ?_
          rintro e w7 ⟨rfl, hb7⟩
          have k0 := cell_below hb7 (Nat.le_refl _) k0
          have k1 := cell_below hb7 (Nat.le_refl _) k1
          have HB7 := Lib.hid (HB6.out.trans (hb7.mono HB6.out.size))
          clear hb7
          go_wp2_with fail
          refine (H2.out _).mono ?_
          rintro e w8 ⟨rfl, hb8⟩
          have k0 := cell_below hb8 (Nat.le_refl _) k0
          have k1 := cell_below hb8 (Nat.le_refl _) k1
          have HB8 := Lib.hid (HB7.out.trans (hb8.mono HB7.out.size))
          clear hb8
          have H3 := Lib.hid (fun w => jnName_any op w)
          have H4 := Lib.hid (fun w => jnrname_any op w)
          have H5 := Lib.hid (fun w => level_any op w)
          have H6 := Lib.hid (fun w => rlevel_any op w)
          obtain ⟨nm, hnm⟩ : ∃ x, x = jnNameOf op := ⟨_, rfl⟩
          rw [← hnm] at H3 H4
          obtain ⟨lv, hlvl⟩ : ∃ x, x = levelL op := ⟨_, rfl⟩
          rw [← hlvl] at H5 H6
          have HSG := Lib.hid (fun w' (hb : Below w8.heap.size w8 w') => sign_S how _ _ ls names w' ((HL.out.below HB8.out (Nat.le_refl _)).below hb (Nat.le_refl _)) ((HN.out.below HB8.out (Nat.le_refl _)).below hb (Nat.le_refl _)) (by have := HV8.out; omega))
          have HRG := Lib.hid (fun w' (hb : Below w8.heap.size w8 w') => rsign_S how _ _ ls names w' ((HL.out.below HB8.out (Nat.le_refl _)).below hb (Nat.le_refl _)) ((HN.out.below HB8.out (Nat.le_refl _)).below hb (Nat.le_refl _)) (by have := HV8.out; omega) (by have := HN4.out; omega))
          obtain ⟨sg, hsg⟩ : ∃ x, x = signL how names ls := ⟨_, rfl⟩
          rw [← hsg] at HSG HRG
          have HSM := Lib.hid (fun v1 v2 w' (h1 : Sl lenc w' v1 sg) (h2 : Sl lenc w' v2 sg) => (rsame_S v1 v2 sg sg w' h1 h2).mono (R' := fun e w'' => e = .returned (.bool true) ∧ Below w'.heap.size w' w'') fun _ _ ⟨he, hb⟩ => ⟨by rw [he]; simp, hb⟩)
          have e1 : (n == n) = true := by simp
          have e2 : (b == b) = true := by simp
          have e3 : (nm.toList == nm.toList) = true := by simp
          have e4 : (lv == lv) = true := by simp
          clear hnm hlvl hsg
          go_wp2_with fail
          have hbA : Below w8.heap.size w8 w8 := Below.refl _ _
          have hsA := hbA.size
          go_region_held3 (fun w' => w'.cell? ⟨bg, 0, none⟩ = some (.int .i64 how) ∧ w'.cell? ⟨bg, 1, none⟩ = some (.slice an nn cn))
            (exact ⟨cell_below (B := w8.heap.size) (by go_grown) (Nat.le_refl _) k0, cell_below (B := w8.heap.size) (by go_grown) (Nat.le_refl _) k1⟩)
            (first
              | (go_at_call 36
                 refine (HSG.out _ (by go_grown)).mono ?_
                 rintro e w9 ⟨a9, n9, c9, rfl, hs9, -, hb9⟩
                 have hbA : Below w8.heap.size w8 w9 := Below.trans (by go_grown) (hb9.mono (by first | exact Nat.le_refl _ | (simp; done) | (simp; omega)))
                 have hsA := hbA.size)
              | (go_at_call 37
                 refine (HRG.out _ hbA).mono ?_
                 rintro e w10 ⟨a10, n10, c10, rfl, hs10, -, hb10⟩
                 have hs9 := Sl.below hs9 hb10 (Nat.le_refl _)
                 have hbA : Below w8.heap.size w8 w10 := hbA.trans (hb10.mono hsA)
                 have hsA := hbA.size)
              | (go_at_call 18
                 refine (HSM.out _ _ _ hs9 hs10).mono ?_
                 rintro e w11 ⟨rfl, hb11⟩
                 have hbA : Below w8.heap.size w8 w11 := hbA.trans (hb11.mono hsA)
                 have hsA := hbA.size)
              | (go_at_call 38
                 refine (H3.out _).mono ?_
                 rintro e w12 ⟨rfl, hb12⟩
                 have hbA : Below w8.heap.size w8 w12 := hbA.trans (hb12.mono hsA)
                 have hsA := hbA.size)
              | (go_at_call 39
                 refine (H4.out _).mono ?_
                 rintro e w13 ⟨rfl, hb13⟩
                 have hbA : Below w8.heap.size w8 w13 := hbA.trans (hb13.mono hsA)
                 have hsA := hbA.size)
              | (go_at_call 40
                 refine (H5.out _).mono ?_
                 rintro e w14 ⟨rfl, rfl⟩)
              | (go_at_call 41
                 refine (H6.out _).mono ?_
                 rintro e w15 ⟨rfl, rfl⟩))
          have HBA := Lib.hid hbA
          clear hbA
          go_wp2_with fail
          go_ret
          exact ⟨by first | rfl | (simp; done), HB8.out.trans (HBA.out.mono HB8.out.size)⟩
end Go.Proofs.YtogjcaakfnfapaaDoor
