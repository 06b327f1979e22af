/- JoinParts: the walk (printed by gen_jl2.py). (Several texts in one file, by merge.py.) -/
import Derived.Test.YtogjcaakfnfapaaDoorZJ7
import Derived.Test.YtogjcaakfnfapaaDoorZJ8
namespace Go.Proofs.YtogjcaakfnfapaaDoor
open Go Go.RowKit
set_option linter.unusedVariables false
set_option linter.unusedSimpArgs false
set_option maxRecDepth 100000
theorem and_ans {how : Int} {names : List ByteArray} {ps qs : List Pt} {e : Ending} {w : World} (hr : ∀ p ∈ ps, rightL p.1 = true) (hs : Strict ps) (h0 : chkL how names = 0) (h : SetR 11 how names ps qs e w) :
    ∃ v, e = .returned (.tuple #[v, .int .i64 0]) ∧ VS w v ((ps.filter fun p => hasSg (sgP how names) qs (sgP how names p)).map canonP) := by
  rcases h with ⟨h, -⟩ | ⟨-, h⟩
  · omega
  · rw [set_and] at h; exact nr_part hr hs h
theorem less_ans {how : Int} {names : List ByteArray} {ps qs : List Pt} {e : Ending} {w : World} (hr : ∀ p ∈ ps, rightL p.1 = true) (hs : Strict ps) (h0 : chkL how names = 0) (h : SetR 13 how names ps qs e w) :
    ∃ v, e = .returned (.tuple #[v, .int .i64 0]) ∧ VS w v ((setP 13 how names ps qs).map canonP) := by
  rcases h with ⟨h, -⟩ | ⟨-, h⟩
  · omega
  · rw [set_less] at h ⊢; exact nr_part hr hs h
theorem or_ans {how : Int} {names : List ByteArray} {ps qs : List Pt} {e : Ending} {w : World} (h0 : chkL how names = 0) (h : SetR 12 how names ps qs e w) : NR (setP 12 how names ps qs) e w := by
  rcases h with ⟨h, -⟩ | ⟨-, h⟩
  · omega
  · exact h
theorem or_two {how : Int} {names : List ByteArray} {ps qs Z : List Pt} {e : Ending} {w : World} (hz : Z = (setP 13 how names qs ps).map canonP) (h : NR (ps ++ Z) e w) : NR (setP 12 how names ps qs) e w := by
  rw [set_or]
  refine nr_congr ?_ h
  rw [hz, List.map_append, List.map_append, canonP_map]
theorem csame_S (v u : Value) (ps qs : List Pt) (w : World) (hs : vsameL ps qs = true) (h : VS w v ps) (h' : VS w u qs) :
    Calls Tryd.prog 45 #[v, u] w fun e w' => e = .returned (.bool true) ∧ Below w.heap.size w w' := by
  refine (csame_any v u ps qs w h h').mono ?_
  rintro e w' ⟨rfl, hb⟩
  exact ⟨by rw [hs], hb⟩
theorem mchk_chk {how card : Int} {names incl : List ByteArray} (h : mchkL how names card incl = 0) : chkL how names = 0 := by
  unfold mchkL at h
  split at h
  · cases h
  · rename_i h2
    exact Classical.byContradiction fun hx => h2 (.inl hx)
set_option maxHeartbeats 32000000 in
theorem joinParts_walk (how : Int) (vn : Value) (names : List ByteArray) (va : Value) (ps : List Pt) (vb : Value) (qs : List Pt) (w : World) (ht : Tab w) (hn : Sl senc1 w vn names) (hva : VS w va ps ∧ ∀ p ∈ ps, (Lit.float .f64 p.2).wf = true) (hvb : VS w vb qs ∧ ∀ p ∈ qs, (Lit.float .f64 p.2).wf = true) :
    Calls Tryd.prog 9 #[.agg #[.int .i64 how, vn], va, vb] w fun e w' => e = .returned (.bool true) ∧ Below w.heap.size w w' := by
  obtain ⟨i0, hi, hz0, hz1, hz2⟩ := info_parts Tryd.infoPt
  obtain ⟨hvsa, hwfa⟩ := hva
  obtain ⟨hvsb, hwfb⟩ := hvb
  have HN := Lib.hid hn
  have HVA := Lib.hid hvsa
  have HVB := Lib.hid hvsb
  have HWFA := Lib.hid hwfa
  have HWFB := Lib.hid hwfb
  have HT := Lib.hid ht
  obtain ⟨an, cn, rfl, hlen, -⟩ := hn.strings
  obtain ⟨aa, ca, rfl, hlva, -⟩ := hvsa.split
  obtain ⟨ab, cb, rfl, hlvb, -⟩ := hvsb.split
  obtain ⟨nn, hnn⟩ : ∃ n, n = names.length := ⟨_, rfl⟩
  rw [← hnn] at HN hlen ⊢
  obtain ⟨na, hna⟩ : ∃ n, n = ps.length := ⟨_, rfl⟩
  rw [← hna] at HVA hlva ⊢
  obtain ⟨nb, hnb⟩ : ∃ n, n = qs.length := ⟨_, rfl⟩
  rw [← hnb] at HVB hlvb ⊢
  have HNN := Lib.hid hnn
  have HNA := Lib.hid hna
  have HNB := Lib.hid hnb
  obtain ⟨w0, hw0⟩ : ∃ w0, w0 = w.alloc (.cells #[.int .i64 how, .slice an nn cn] 24) := ⟨_, rfl⟩
  have hb0 : Below w.heap.size w w0 := by rw [hw0]; exact (Below.refl _ _).alloc (Nat.le_refl _) _
  obtain ⟨bg, hbg⟩ : ∃ b, b = w.heap.size := ⟨_, rfl⟩
  have g0 : w0.cell? ⟨bg, 0, none⟩ = some (.int .i64 how) := by rw [hw0, hbg]; simp
  have g1 : w0.cell? ⟨bg, 1, none⟩ = some (.slice an nn cn) := by rw [hw0, hbg]; simp
  have HW0 := Lib.hid hw0
  have HB0 := Lib.hid hb0
  have HBG := Lib.hid hbg
  have G0 := Lib.hid g0
  have G1 := Lib.hid g1
  have HK := Lib.hid (jknown_any w0 (HT.out.below hb0 (Nat.le_refl _)))
  have HRA := Lib.hid (fun w' (hb : Below w.heap.size w w') => lright_any _ ps w' (HVA.out.below hb (Nat.le_refl _)))
  have HRB := Lib.hid (fun w' (hb : Below w.heap.size w w') => lright_any _ qs w' (HVB.out.below hb (Nat.le_refl _)))
  have HCT := Lib.hid (fun w' (hb : Below w.heap.size w w') => mcount_any how 0 _ (.slice none 0 0) names [] w' (HN.out.below hb (Nat.le_refl _)) (Sl.nil _))
  have HRC := Lib.hid (fun w' (hb : Below w.heap.size w w') => rmcheck_any how 0 _ (.slice none 0 0) names [] w' (HN.out.below hb (Nat.le_refl _)) (Sl.nil _))
  obtain ⟨ra, hra⟩ : ∃ r, r = (vfewL ps && vrightL ps) := ⟨_, rfl⟩
  rw [← hra] at HRA
  obtain ⟨rb, hrb⟩ : ∃ r, r = (vfewL qs && vrightL qs) := ⟨_, rfl⟩
  rw [← hrb] at HRB
  obtain ⟨ct, hct⟩ : ∃ r, r = (decide (names.length ≤ 40) && decide (([] : List ByteArray).length ≤ 40)) := ⟨_, rfl⟩
  rw [← hct] at HCT
  obtain ⟨mk, hmk⟩ : ∃ r, r = mchkL how names 0 [] := ⟨_, rfl⟩
  rw [← hmk] at HRC
  have HFA := Lib.hid hra
  have HFB := Lib.hid hrb
  have HCC := Lib.hid hct
  have HMK := Lib.hid hmk
  clear ht hn hvsa hvsb hwfa hwfb hnn hna hnb hw0 hb0 hbg g0 g1 hra hrb hct hmk
  go_enter Tryd.func9, Tryd.ntmps9
  go_wp2_with fail
  rw [← HW0.out, ← HBG.out]
  refine HK.out.mono ?_
  rintro e w1 ⟨rfl, hb1⟩
  have g0 := cell_below hb1 (Nat.le_refl _) G0.out
  have g1 := cell_below hb1 (Nat.le_refl _) G1.out
  have hb01 := HB0.out.trans (hb1.mono HB0.out.size)
  obtain ⟨w2, hw2⟩ : ∃ w2, w2 = w1.alloc (.cells #[.int .i64 how, .slice an nn cn, .int .i64 0, .slice none 0 0] 55) := ⟨_, rfl⟩
  obtain ⟨mb, hmb⟩ : ∃ b, b = w1.heap.size := ⟨_, rfl⟩
  have hb12 : Below w1.heap.size w1 w2 := by rw [hw2]; exact (Below.refl _ _).alloc (Nat.le_refl _) _
  have k0 := cell_below hb12 (Nat.le_refl _) g0
  have k1 := cell_below hb12 (Nat.le_refl _) g1
  have q0 : w2.cell? ⟨mb, 0, none⟩ = some (.int .i64 how) := by rw [hw2, hmb]; simp
  have q1 : w2.cell? ⟨mb, 1, none⟩ = some (.slice an nn cn) := by rw [hw2, hmb]; simp
  have q2 : w2.cell? ⟨mb, 2, none⟩ = some (.int .i64 0) := by rw [hw2, hmb]; simp
  have q3 : w2.cell? ⟨mb, 3, none⟩ = some (.slice none 0 0) := by rw [hw2, hmb]; simp
  have HB2 := Lib.hid (hb01.trans (hb12.mono hb01.size))
  have HW2 := Lib.hid hw2
  have HMB := Lib.hid hmb
  clear hb1 hb01 hb12 hw2 hmb
  go_wp2_with fail
  rw [← HW2.out, ← HMB.out]
  refine (HRA.out _ HB2.out).mono ?_
  rintro e w3 ⟨rfl, n3, rfl⟩
  cases ra with
  | false =>
    go_wp2_with fail
    go_ret
    exact ⟨rfl, below_drewN HB2.out n3⟩
  | true =>
    have k0 : (w2.drewN n3).cell? ⟨bg, 0, none⟩ = some (.int .i64 how) := k0
    have k1 : (w2.drewN n3).cell? ⟨bg, 1, none⟩ = some (.slice an nn cn) := k1
    have q0 : (w2.drewN n3).cell? ⟨mb, 0, none⟩ = some (.int .i64 how) := q0
    have q1 : (w2.drewN n3).cell? ⟨mb, 1, none⟩ = some (.slice an nn cn) := q1
    have q2 : (w2.drewN n3).cell? ⟨mb, 2, none⟩ = some (.int .i64 0) := q2
    have q3 : (w2.drewN n3).cell? ⟨mb, 3, none⟩ = some (.slice none 0 0) := q3
    have hb := below_drewN HB2.out n3
    generalize w2.drewN n3 = w3 at k0 k1 q0 q1 q2 q3 hb ⊢
    have HB3 := Lib.hid hb
    clear hb
    go_wp2_with fail
    refine (HRB.out _ HB3.out).mono ?_
    rintro e w4 ⟨rfl, n4, rfl⟩
    cases rb with
    | false =>
      go_wp2_with fail
      go_ret
      exact ⟨rfl, below_drewN HB3.out n4⟩
    | true =>
      have k0 : (w3.drewN n4).cell? ⟨bg, 0, none⟩ = some (.int .i64 how) := k0
      have k1 : (w3.drewN n4).cell? ⟨bg, 1, none⟩ = some (.slice an nn cn) := k1
      have q0 : (w3.drewN n4).cell? ⟨mb, 0, none⟩ = some (.int .i64 how) := q0
      have q1 : (w3.drewN n4).cell? ⟨mb, 1, none⟩ = some (.slice an nn cn) := q1
      have q2 : (w3.drewN n4).cell? ⟨mb, 2, none⟩ = some (.int .i64 0) := q2
      have q3 : (w3.drewN n4).cell? ⟨mb, 3, none⟩ = some (.slice none 0 0) := q3
      have hb := below_drewN HB3.out n4
      generalize w3.drewN n4 = w4 at k0 k1 q0 q1 q2 q3 hb ⊢
      have HB4 := Lib.hid hb
      clear hb
      go_wp2_with fail
      refine (HCT.out _ HB4.out).mono ?_
      rintro e w5 ⟨rfl, hb5⟩
      have k0 := cell_below hb5 (Nat.le_refl _) k0
      have k1 := cell_below hb5 (Nat.le_refl _) k1
      have q0 := cell_below hb5 (Nat.le_refl _) q0
      have q1 := cell_below hb5 (Nat.le_refl _) q1
      have q2 := cell_below hb5 (Nat.le_refl _) q2
      have q3 := cell_below hb5 (Nat.le_refl _) q3
      have HB5 := Lib.hid (HB4.out.trans (hb5.mono HB4.out.size))
      clear hb5
      cases ct with
      | false =>
        go_wp2_with fail
        go_ret
        exact ⟨rfl, HB5.out⟩
      | true =>
        have hn40 : names.length ≤ 40 := by have := HCC.out.symm; rw [Bool.and_eq_true] at this; exact of_decide_eq_true this.1
        have HMF := Lib.hid (mfew_any how 0 _ (.slice none 0 0) names [] w5 (HN.out.below HB5.out (Nat.le_refl _)) (Sl.nil _) hn40 (by decide))
        have HN4 := Lib.hid hn40
        clear hn40
        go_wp2_with fail
        refine HMF.out.mono ?_
        rintro e w6 ⟨fb, rfl, hfb, hb6⟩
        have k0 := cell_below hb6 (Nat.le_refl _) k0
        have k1 := cell_below hb6 (Nat.le_refl _) k1
        have q0 := cell_below hb6 (Nat.le_refl _) q0
        have q1 := cell_below hb6 (Nat.le_refl _) q1
        have q2 := cell_below hb6 (Nat.le_refl _) q2
        have q3 := cell_below hb6 (Nat.le_refl _) q3
        have HB6 := Lib.hid (HB5.out.trans (hb6.mono HB5.out.size))
        have HFBB := Lib.hid hfb
        clear hb6 HMF hfb
        cases fb with
        | false =>
          go_wp2_with fail
          go_ret
          exact ⟨rfl, HB6.out⟩
        | true =>
          go_wp2_with fail
          refine (HRC.out _ HB6.out).mono ?_
          rintro e w7 ⟨rfl, hb7⟩
          have k0 := cell_below hb7 (Nat.le_refl _) k0
          have k1 := cell_below hb7 (Nat.le_refl _) k1
          have HB7 := Lib.hid (HB6.out.trans (hb7.mono HB6.out.size))
          clear hb7 q0 q1 q2 q3
          by_cases hm0 : mk = 0
          · subst hm0
            have hc0 := mchk_chk HMK.out.symm
            have hgz : ∀ s ∈ names, s.size ≤ maxLen := fun s hs => by have := (HFBB.out (by first | trivial | rfl)).1 s hs; unfold maxLen; omega
            have hra2 : vfewL ps = true ∧ vrightL ps = true := by have := HFA.out.symm; rwa [Bool.and_eq_true] at this
            have hrb2 : vfewL qs = true ∧ vrightL qs = true := by have := HFB.out.symm; rwa [Bool.and_eq_true] at this
            obtain ⟨hoka, hla3⟩ := few_ok hra2.1 HWFA.out
            obtain ⟨hokb, hlb3⟩ := few_ok hrb2.1 HWFB.out
            obtain ⟨hsta, hria⟩ := vright_parts hra2.2
            obtain ⟨hstb, hrib⟩ := vright_parts hrb2.2
            have HSAB := Lib.hid (fun (o : Int) w' (hb : Below w.heap.size w w') => set_go o how _ _ _ names ps qs w' (HVA.out.below hb (Nat.le_refl _)) (HVB.out.below hb (Nat.le_refl _)) (HN.out.below hb (Nat.le_refl _)) hgz hoka hokb hla3 hlb3 (HT.out.below hb (Nat.le_refl _)))
            have HSBA := Lib.hid (fun (o : Int) w' (hb : Below w.heap.size w w') => set_go o how _ _ _ names qs ps w' (HVB.out.below hb (Nat.le_refl _)) (HVA.out.below hb (Nat.le_refl _)) (HN.out.below hb (Nat.le_refl _)) hgz hokb hoka hlb3 hla3 (HT.out.below hb (Nat.le_refl _)))
            have HC0 := Lib.hid hc0
            have HSTA := Lib.hid hsta
            have HRIA := Lib.hid hria
            have HSTB := Lib.hid hstb
            have HRIB := Lib.hid hrib
            have HLA3 := Lib.hid hla3
            have HLB3 := Lib.hid hlb3
            obtain ⟨X, hX⟩ : ∃ l, l = (ps.filter fun p => hasSg (sgP how names) qs (sgP how names p)).map canonP := ⟨_, rfl⟩
            obtain ⟨Y, hY⟩ : ∃ l, l = (setP 13 how names ps qs).map canonP := ⟨_, rfl⟩
            obtain ⟨Z, hZ⟩ : ∃ l, l = (setP 13 how names qs ps).map canonP := ⟨_, rfl⟩
            have hXl : X.length ≤ 300 := by rw [hX, List.length_map]; exact Nat.le_trans (List.length_filter_le _ _) hla3
            have hYl : Y.length ≤ 300 := by rw [hY, List.length_map, set_less]; exact Nat.le_trans (List.length_filter_le _ _) hla3
            have hZl : Z.length ≤ 300 := by rw [hZ, List.length_map, set_less]; exact Nat.le_trans (List.length_filter_le _ _) hlb3
            have HX := Lib.hid hX
            have HY := Lib.hid (show Y = (ps.filter fun p => !hasSg (sgP how names) qs (sgP how names p)).map canonP by rw [hY, set_less])
            have HY0 := Lib.hid hY
            have HZ := Lib.hid hZ
            clear hc0 hgz hra2 hrb2 hoka hokb hsta hria hstb hrib hX hY hZ
            go_wp2_with fail
            refine (HSAB.out 11 _ HB7.out).mono ?_
            rintro e w8 ⟨hb8, hr8⟩
            obtain ⟨v8, rfl, hv8⟩ := and_ans HRIA.out HSTA.out HC0.out hr8
            rw [← HX.out] at hv8
            have k0 := cell_below hb8 (Nat.le_refl _) k0
            have k1 := cell_below hb8 (Nat.le_refl _) k1
            have HB8 := Lib.hid (HB7.out.trans (hb8.mono HB7.out.size))
            have HX8 := Lib.hid hv8
            obtain ⟨ax, cx, rfl, -, -⟩ := hv8.split
            obtain ⟨nx8, hnx⟩ : ∃ n, n = X.length := ⟨_, rfl⟩
            rw [← hnx] at HX8 hXl ⊢
            have HNX := Lib.hid hnx
            clear hb8 hr8 hv8 hnx
            go_wp2_with fail
            refine (HSAB.out 13 _ HB8.out).mono ?_
            rintro e w9 ⟨hb9, hr9⟩
            obtain ⟨v9, rfl, hv9⟩ := less_ans HRIA.out HSTA.out HC0.out hr9
            rw [← HY0.out] at hv9
            have k0 := cell_below hb9 (Nat.le_refl _) k0
            have k1 := cell_below hb9 (Nat.le_refl _) k1
            have HB9 := Lib.hid (HB8.out.trans (hb9.mono HB8.out.size))
            have HX9 := Lib.hid (HX8.out.below hb9 (Nat.le_refl _))
            have HY9 := Lib.hid hv9
            obtain ⟨ay, cy, rfl, -, -⟩ := hv9.split
            obtain ⟨ny, hny⟩ : ∃ n, n = Y.length := ⟨_, rfl⟩
            rw [← hny] at HY9 hYl ⊢
            have HNY := Lib.hid hny
            clear hb9 hr9 hv9 hny
            go_wp2_with fail
            refine (HSBA.out 13 _ HB9.out).mono ?_
            rintro e w10 ⟨hb10, hr10⟩
            obtain ⟨v10, rfl, hv10⟩ := less_ans HRIB.out HSTB.out HC0.out hr10
            rw [← HZ.out] at hv10
            have k0 := cell_below hb10 (Nat.le_refl _) k0
            have k1 := cell_below hb10 (Nat.le_refl _) k1
            have HB10 := Lib.hid (HB9.out.trans (hb10.mono HB9.out.size))
            have HX10 := Lib.hid (HX9.out.below hb10 (Nat.le_refl _))
            have HY10 := Lib.hid (HY9.out.below hb10 (Nat.le_refl _))
            have HZ10 := Lib.hid hv10
            obtain ⟨az, cz, rfl, -, -⟩ := hv10.split
            obtain ⟨nz, hnz⟩ : ∃ n, n = Z.length := ⟨_, rfl⟩
            rw [← hnz] at HZ10 hZl ⊢
            have HNZ := Lib.hid hnz
            clear hb10 hr10 hv10 hnz
            go_wp2_with fail
            refine (HSAB.out 12 _ HB10.out).mono ?_
            rintro e w11 ⟨hb11, hr11⟩
            have hnr11 := or_ans HC0.out hr11
            obtain ⟨v11, n11, rfl⟩ := nr_tuple hnr11
            have HNR11 := Lib.hid hnr11
            have HB11 := Lib.hid (HB10.out.trans (hb11.mono HB10.out.size))
            have HX11 := Lib.hid (HX10.out.below hb11 (Nat.le_refl _))
            have HY11 := Lib.hid (HY10.out.below hb11 (Nat.le_refl _))
            have HZ11 := Lib.hid (HZ10.out.below hb11 (Nat.le_refl _))
            have hw11 : IntKind.i64.wrap (0 + 0) = 0 := by rw [IntKind.wrap_i64] <;> omega
            clear hb11 hr11 hnr11 k0 k1 HSAB HSBA
            obtain ⟨zA, hzA, hsA, hlA⟩ := HX11.out.zpts
            obtain ⟨zB, hzB, hsB, hlB⟩ := HY11.out.zpts
            have hzAl : zA.length = nx8 := by rw [HNX.out, ← hzA]; simp
            have hzBl : zB.length = ny := by rw [HNY.out, ← hzB]; simp
            obtain ⟨-, nnA, scA⟩ := hsA.src zenc_pos
            obtain ⟨-, nnB, scB⟩ := hsB.src zenc_pos
            have hz4 : w.heap.size ≤ w11.heap.size := HB11.out.size
            have HLA := Lib.hid hlA
            have HLB := Lib.hid hlB
            have HZA := Lib.hid hzA
            have HZB := Lib.hid hzB
            have HZAL := Lib.hid hzAl
            have HZBL := Lib.hid hzBl
            have NNA := Lib.hid nnA
            have NNB := Lib.hid nnB
            have SCA := Lib.hid scA
            have SCB := Lib.hid scB
            clear hlA hlB hzA hzB hzAl hzBl nnA nnB scA scB hsA hsB
            have hb5 : Below w11.heap.size w11 (w11.alloc (.cells #[] 42)) := (Below.refl _ _).alloc (Nat.le_refl _) _
            have HBE := Lib.hid hb5
            have hown0 : (w11.alloc (.cells #[] 42)).ownsRow w11.heap.size 42 2 (.slice (some ⟨w11.heap.size, 0, none⟩) 0 0) 0 [] := owns_lit (heap_new _ _) (Nat.le_refl _)
            clear hb5
            go_wp2_with (at_builtin; refine wpList_append_two rfl _ _ 26 27 rfl w11.heap.size 42 42 i0 _ 2 32 Tryd.underlying26 Tryd.underlying27 hi hz0 hz1 hz2 rfl (by decide) (.slice (some ⟨w11.heap.size, 0, none⟩) 0 0) 0 [] rfl hown0 ax nx8 cx (zA.flatMap zenc) rfl NNA.out (by rw [flat_length zenc_len, HZAL.out]) (fun ad e j u hu => cell_below HBE.out (Nat.le_refl _) (SCA.out ad e j u hu)) (zenc_one HLA.out) (by unfold maxLen; omega) (by omega) (by simp) ?_)
            intro v1 wA hown1 hg1
            have hbA : Below w11.heap.size w11 wA := HBE.out.grown hg1 (by simp) (fun j hj => by simp [Value.ownBlock] at hj; omega)
            have HBA := Lib.hid hbA
            have hsA := hbA.size
            clear hbA hg1 hown0
            go_wp2_with (at_builtin; refine wpList_append_two rfl _ _ 26 27 rfl w11.heap.size 42 42 i0 _ 2 32 Tryd.underlying26 Tryd.underlying27 hi hz0 hz1 hz2 rfl (by decide) v1 nx8 (zA.flatMap zenc) rfl (by simpa using hown1) ay ny cy (zB.flatMap zenc) rfl NNB.out (by rw [flat_length zenc_len, HZBL.out]) (fun ad e j u hu => cell_below HBA.out (Nat.le_refl _) (SCB.out ad e j u hu)) (zenc_one HLB.out) (by unfold maxLen; omega) (by omega) hsA ?_)
            intro v2 wB hown2 hg2
            have hbA6 : Below w11.heap.size w11 wB := HBA.out.grown hg2 hsA (fun j hj => (hown1.lt j hj).1)
            have hvs2 : VS wB v2 (X ++ Y) := by
              have h1 : Sl zenc wB v2 (zA ++ zB) := Sl.own zenc_len (by decide) (e := 42) (n := nx8 + ny) (base := w11.heap.size) (by rw [List.flatMap_append]; exact hown2)
              have h2 := vs_of h1 (fun z hz => by
                rcases List.mem_append.1 hz with hz | hz
                · exact (HLA.out z hz).below hbA6 (Nat.le_refl _)
                · exact (HLB.out z hz).below hbA6 (Nat.le_refl _))
              rw [List.map_append, HZA.out, HZB.out] at h2
              exact h2
            have HNM := Lib.hid (normal_any v2 (X ++ Y) wB hvs2 (by rw [List.length_append, ← HNX.out, ← HNY.out]; omega))
            have HBB := Lib.hid (HB11.out.trans (hbA6.mono hz4))
            clear hown1 hown2 hg2 hvs2
            go_wp2_with fail
            refine HNM.out.mono ?_
            rintro e w14 ⟨hb6, hn6⟩
            have HB14 := Lib.hid (HBB.out.trans (hb6.mono HBB.out.size))
            obtain ⟨v14, rfl, hv14⟩ := parts_all HRIA.out HSTA.out HX.out HY.out hn6
            have HV14 := Lib.hid hv14
            have HZ14 := Lib.hid (HZ11.out.below (hbA6.trans (hb6.mono hbA6.size)) (Nat.le_refl _))
            have HX1114 := Lib.hid (hbA6.trans (hb6.mono hbA6.size))
            obtain ⟨a14, c14, rfl, -, -⟩ := hv14.split
            rw [List.length_map, ← HNA.out] at HV14 ⊢
            clear hv14 hb6 hn6 hbA6
            have HVA14 := Lib.hid (HVA.out.below HB14.out (Nat.le_refl _))
            have hna3 : na ≤ 300 := by rw [HNA.out]; exact HLA3.out
            obtain ⟨zA, hzA, hsA, hlA⟩ := HVA14.out.zpts
            obtain ⟨zB, hzB, hsB, hlB⟩ := HZ14.out.zpts
            have hzAl : zA.length = na := by rw [HNA.out, ← hzA]; simp
            have hzBl : zB.length = nz := by rw [HNZ.out, ← hzB]; simp
            obtain ⟨-, nnA, scA⟩ := hsA.src zenc_pos
            obtain ⟨-, nnB, scB⟩ := hsB.src zenc_pos
            have hz4 : w.heap.size ≤ w14.heap.size := HB14.out.size
            have HLA := Lib.hid hlA
            have HLB := Lib.hid hlB
            have HZA := Lib.hid hzA
            have HZB := Lib.hid hzB
            have HZAL := Lib.hid hzAl
            have HZBL := Lib.hid hzBl
            have NNA := Lib.hid nnA
            have NNB := Lib.hid nnB
            have SCA := Lib.hid scA
            have SCB := Lib.hid scB
            clear hlA hlB hzA hzB hzAl hzBl nnA nnB scA scB hsA hsB
            have hb5 : Below w14.heap.size w14 (w14.alloc (.cells #[] 42)) := (Below.refl _ _).alloc (Nat.le_refl _) _
            have HBE := Lib.hid hb5
            have hown0 : (w14.alloc (.cells #[] 42)).ownsRow w14.heap.size 42 2 (.slice (some ⟨w14.heap.size, 0, none⟩) 0 0) 0 [] := owns_lit (heap_new _ _) (Nat.le_refl _)
            clear hb5
            go_wp2_with (at_builtin; refine wpList_append_two rfl _ _ 26 27 rfl w14.heap.size 42 42 i0 _ 2 32 Tryd.underlying26 Tryd.underlying27 hi hz0 hz1 hz2 rfl (by decide) (.slice (some ⟨w14.heap.size, 0, none⟩) 0 0) 0 [] rfl hown0 aa na ca (zA.flatMap zenc) rfl NNA.out (by rw [flat_length zenc_len, HZAL.out]) (fun ad e j u hu => cell_below HBE.out (Nat.le_refl _) (SCA.out ad e j u hu)) (zenc_one HLA.out) (by unfold maxLen; omega) (by omega) (by simp) ?_)
            intro v1 wA hown1 hg1
            have hbA : Below w14.heap.size w14 wA := HBE.out.grown hg1 (by simp) (fun j hj => by simp [Value.ownBlock] at hj; omega)
            have HBA := Lib.hid hbA
            have hsA := hbA.size
            clear hbA hg1 hown0
            go_wp2_with (at_builtin; refine wpList_append_two rfl _ _ 26 27 rfl w14.heap.size 42 42 i0 _ 2 32 Tryd.underlying26 Tryd.underlying27 hi hz0 hz1 hz2 rfl (by decide) v1 na (zA.flatMap zenc) rfl (by simpa using hown1) az nz cz (zB.flatMap zenc) rfl NNB.out (by rw [flat_length zenc_len, HZBL.out]) (fun ad e j u hu => cell_below HBA.out (Nat.le_refl _) (SCB.out ad e j u hu)) (zenc_one HLB.out) (by unfold maxLen; omega) (by omega) hsA ?_)
            intro v2 wB hown2 hg2
            have hbA6 : Below w14.heap.size w14 wB := HBA.out.grown hg2 hsA (fun j hj => (hown1.lt j hj).1)
            have hvs2 : VS wB v2 (ps ++ Z) := by
              have h1 : Sl zenc wB v2 (zA ++ zB) := Sl.own zenc_len (by decide) (e := 42) (n := na + nz) (base := w14.heap.size) (by rw [List.flatMap_append]; exact hown2)
              have h2 := vs_of h1 (fun z hz => by
                rcases List.mem_append.1 hz with hz | hz
                · exact (HLA.out z hz).below hbA6 (Nat.le_refl _)
                · exact (HLB.out z hz).below hbA6 (Nat.le_refl _))
              rw [List.map_append, HZA.out, HZB.out] at h2
              exact h2
            have HNM := Lib.hid (normal_any v2 (ps ++ Z) wB hvs2 (by rw [List.length_append, ← HNA.out, ← HNZ.out]; omega))
            have HBB := Lib.hid (HB14.out.trans (hbA6.mono hz4))
            clear hown1 hown2 hg2 hvs2
            go_wp2_with fail
            refine HNM.out.mono ?_
            rintro e w6 ⟨hb6, hn6⟩
            have hnr15 : NR (setP 12 how names ps qs) e w6 := or_two HZ.out hn6
            have hb1115 : Below w11.heap.size w11 w6 := HX1114.out.trans ((hbA6.trans (hb6.mono hbA6.size)).mono HX1114.out.size)
            obtain ⟨v5, u5, q5, n5, e1, rfl, hv5, hu5, -⟩ := nr_two HNR11.out hnr15 hb1115 (Below.refl _ _)
            injection e1 with e1
            injection e1 with e1
            simp only [Array.mk.injEq, List.cons.injEq, Value.int.injEq, true_and, and_true] at e1
            obtain ⟨rfl, rfl⟩ := e1
            have HB15 := Lib.hid (HBB.out.trans (hb6.mono HBB.out.size))
            have HAA := Lib.hid (HV14.out.below (hbA6.trans (hb6.mono hbA6.size)) (Nat.le_refl _))
            have HS1 := Lib.hid (csame_S _ _ (ps.map canonP) ps w6 (vsame_canon ps) HAA.out (HVA.out.below HB15.out (Nat.le_refl _)))
            have HS2 := Lib.hid (fun w' (hb : Below w6.heap.size w6 w') => csame_S _ _ q5 q5 w' (vsame_refl q5) (hv5.below hb (Nat.le_refl _)) (hu5.below hb (Nat.le_refl _)))
            have enn : (n11 == n11) = true := by simp
            clear hnr15 hb1115 hv5 hu5 hb6 hn6 hbA6
            go_wp2_with fail
            refine HS1.out.mono ?_
            rintro e w16 ⟨rfl, hb16⟩
            have HB16 := Lib.hid (HB15.out.trans (hb16.mono HB15.out.size))
            have HX16 := Lib.hid hb16
            clear hb16
            go_wp2_with fail
            refine (HS2.out _ HX16.out).mono ?_
            rintro e w17 ⟨rfl, hb17⟩
            have HB17 := Lib.hid (HB16.out.trans (hb17.mono HB16.out.size))
            clear hb17
            go_wp2_with fail
            go_ret
            exact ⟨rfl, HB17.out⟩
          · have hm1 : (mk != 0) = true := by simpa using hm0
            have hm2 : (mk == 0) = false := by simpa using hm0
            clear hm0
            go_wp2_with fail
            go_ret
            exact ⟨rfl, HB7.out⟩
end Go.Proofs.YtogjcaakfnfapaaDoor
