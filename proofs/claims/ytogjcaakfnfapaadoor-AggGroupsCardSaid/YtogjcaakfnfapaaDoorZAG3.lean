/- AggGroups: the walk. (Several texts in one file, by merge.py.) -/
import Derived.Test.YtogjcaakfnfapaaDoorZAG2
namespace Go.Proofs.YtogjcaakfnfapaaDoor
open Go Go.RowKit
set_option linter.unusedVariables false
set_option linter.unusedSimpArgs false
set_option maxRecDepth 100000
set_option maxHeartbeats 16000000 in
theorem aggGroups_walk (how : Int) (vn : Value) (names : List ByteArray) (v : Value) (ps : List Pt) (w : World) (ht : Tab w) (hn : Sl senc1 w vn names) (hv : VS w v ps ∧ ∀ p ∈ ps, (Lit.float .f64 p.2).wf = true) :
    Calls Tryd.prog 4 #[.agg #[.int .i64 how, vn], v] w fun e w' => e = .returned (.bool true) ∧ Below w.heap.size w w' := by
  obtain ⟨hvs, hwf⟩ := hv
  have HN := Lib.hid hn
  have HVS := Lib.hid hvs
  have HT := Lib.hid ht
  have HWF := Lib.hid hwf
  obtain ⟨an, cn, rfl, hlen, -⟩ := hn.strings
  obtain ⟨av, cv, rfl, hlv, hcv⟩ := hvs.split
  have HCV := Lib.hid hcv
  obtain ⟨nn, hnn⟩ : ∃ n, n = names.length := ⟨_, rfl⟩
  rw [← hnn] at HN hlen ⊢
  obtain ⟨N, hnv⟩ : ∃ n, n = ps.length := ⟨_, rfl⟩
  rw [← hnv] at HVS hlv ⊢
  have HNN := Lib.hid hnn
  have HNV := Lib.hid hnv
  obtain ⟨w0, hw0⟩ : ∃ w0, w0 = w.alloc (.cells #[.int .i64 how, .slice an nn cn] 24) := ⟨_, rfl⟩
  have hb0 : Below w.heap.size w w0 := by rw [hw0]; exact (Below.refl _ _).alloc (Nat.le_refl _) _
  obtain ⟨bg, hbg⟩ : ∃ b, b = w.heap.size := ⟨_, rfl⟩
  have g0 : w0.cell? ⟨bg, 0, none⟩ = some (.int .i64 how) := by rw [hw0, hbg]; simp
  have g1 : w0.cell? ⟨bg, 1, none⟩ = some (.slice an nn cn) := by rw [hw0, hbg]; simp
  have HW0 := Lib.hid hw0
  have HB0 := Lib.hid hb0
  have HBG := Lib.hid hbg
  have G0 := Lib.hid g0
  have G1 := Lib.hid g1
  have HK := Lib.hid (known_any w0 (HT.out.below hb0 (Nat.le_refl _)))
  have HRT := Lib.hid (fun w' (hb : Below w.heap.size w w') => lright_any _ ps w' (HVS.out.below hb (Nat.le_refl _)))
  have HFW := Lib.hid (fun w' (hb : Below w.heap.size w w') => gfew_any how _ names w' (HN.out.below hb (Nat.le_refl _)))
  have HCK := Lib.hid (fun w' (hb : Below w.heap.size w w') => rcheck_any how _ names w' (HN.out.below hb (Nat.le_refl _)))
  obtain ⟨rr, hrr⟩ : ∃ r, r = (vfewL ps && vrightL ps) := ⟨_, rfl⟩
  rw [← hrr] at HRT
  have HRR := Lib.hid hrr
  obtain ⟨ck, hck⟩ : ∃ c, c = chkL how names := ⟨_, rfl⟩
  rw [← hck] at HCK
  have HCC := Lib.hid hck
  clear ht hn hvs hwf hcv hnn hnv hw0 hb0 hbg g0 g1 hrr hck
  cases rr with
  | false =>
    go_enter Tryd.func4, Tryd.ntmps4
    go_wp2_with fail
    rw [← HW0.out, ← HBG.out]
    refine HK.out.mono ?_
    rintro e w1 ⟨rfl, hb1⟩
    have HB1 := Lib.hid (HB0.out.trans (hb1.mono HB0.out.size))
    have g0 := cell_below hb1 (Nat.le_refl _) G0.out
    have g1 := cell_below hb1 (Nat.le_refl _) G1.out
    have HB01 := Lib.hid hb1
    clear hb1
    go_wp2_with fail
    refine (HRT.out _ HB1.out).mono ?_
    rintro e w2 ⟨rfl, n2, rfl⟩
    go_wp2_with fail
    go_ret
    exact ⟨rfl, below_drewN HB1.out n2⟩
  | true =>
    go_enter Tryd.func4, Tryd.ntmps4
    go_wp2_with fail
    rw [← HW0.out, ← HBG.out]
    refine HK.out.mono ?_
    rintro e w1 ⟨rfl, hb1⟩
    have HB1 := Lib.hid (HB0.out.trans (hb1.mono HB0.out.size))
    have g0 := cell_below hb1 (Nat.le_refl _) G0.out
    have g1 := cell_below hb1 (Nat.le_refl _) G1.out
    have HB01 := Lib.hid hb1
    clear hb1
    go_wp2_with fail
    refine (HRT.out _ HB1.out).mono ?_
    rintro e w2 ⟨rfl, n2, rfl⟩
    have g0 : (w1.drewN n2).cell? ⟨bg, 0, none⟩ = some (.int .i64 how) := g0
    have g1 : (w1.drewN n2).cell? ⟨bg, 1, none⟩ = some (.slice an nn cn) := g1
    have hb2 := below_drewN HB1.out n2
    have hb02 := below_drewN HB01.out n2
    generalize w1.drewN n2 = w2 at g0 g1 hb2 hb02 ⊢
    have HB2 := Lib.hid hb2
    have HB02 := Lib.hid hb02
    clear hb2 hb02
    go_wp2_with fail
    refine (HFW.out _ HB2.out).mono ?_
    rintro e w3 ⟨fb, rfl, hfb, hb3⟩
    have g0 := cell_below hb3 (Nat.le_refl _) g0
    have g1 := cell_below hb3 (Nat.le_refl _) g1
    have HB3 := Lib.hid (HB2.out.trans (hb3.mono HB2.out.size))
    have HB03 := Lib.hid (HB02.out.trans (hb3.mono HB02.out.size))
    have HFB := Lib.hid hfb
    clear hfb hb3
    cases fb with
    | false =>
      go_wp2_with fail
      go_ret
      exact ⟨rfl, HB3.out⟩
    | true =>
      by_cases hc0 : ck = 0
      · subst hc0
        obtain ⟨hf1, hf2⟩ := HFB.out rfl
        have hrt : vfewL ps = true ∧ vrightL ps = true := by have := HRR.out.symm; rwa [Bool.and_eq_true] at this
        obtain ⟨hok, hl3⟩ := few_ok hrt.1 HWF.out
        obtain ⟨hst, hri⟩ := vright_parts hrt.2
        have hgz : ∀ s ∈ names, s.size ≤ maxLen := fun s hs => by have := hf2 s hs; unfold maxLen; omega
        have HA := Lib.hid (fun (o : Int) (x : Nat) w' (hb : Below w.heap.size w w') => agg_go o how x _ _ names ps w' (HVS.out.below hb (Nat.le_refl _)) (HN.out.below hb (Nat.le_refl _)) hgz hok hl3 (HT.out.below hb (Nat.le_refl _)))
        have HST := Lib.hid hst
        have HRI := Lib.hid hri
        have HL3 := Lib.hid hl3
        have HNM := Lib.hid (show names.length ≤ 100000 by omega)
        have HLS := Lib.hid (fun p (hp : p ∈ ps) => (hok p hp).1)
        clear hf1 hf2 hrt hok hst hri hgz
        go_wp2_with fail
        refine (HCK.out _ HB3.out).mono ?_
        rintro e w4 ⟨rfl, hb4⟩
        have g0 := cell_below hb4 (Nat.le_refl _) g0
        have g1 := cell_below hb4 (Nat.le_refl _) g1
        have HB4 := Lib.hid (HB3.out.trans (hb4.mono HB3.out.size))
        have HB04 := Lib.hid (HB03.out.trans (hb4.mono HB03.out.size))
        clear hb4
        go_wp2_with fail
        go_loopw [5] (fun i wr => ∃ (k n : Nat), k ≤ N ∧ i = .int .i64 k ∧ Hid (∀ j (hj : j < ps.length), j < k → fnan ps[j].2 = false) ∧ wr = w4.drewN n) (fun i _ => N - (intOf i).toNat)
        case atStart => exact ⟨0, 0, Nat.zero_le _, rfl, (fun j _ hj => absurd hj (Nat.not_lt_zero _)), rfl⟩
        case round =>
          obtain ⟨k, n, hk, rfl, HV, rfl⟩ := hrel
          have h00 : (0 : Int) ≤ (k : Int) := by omega
          by_cases hlt : k < N
          · have hltz : (k : Int) < (N : Int) := by omega
            have hkp : k < ps.length := by have := HNV.out; omega
            obtain ⟨b, off, lv, rfl, k0, k1, -⟩ := HCV.out k hkp
            have q1 := cell_below HB4.out (Nat.le_refl _) k1
            obtain ⟨x, hx⟩ : ∃ x, x = ps[k].2 := ⟨_, rfl⟩
            rw [← hx] at q1
            have HX := Lib.hid hx
            clear k0 k1 hx
            cases hxn : fnan x with
            | true =>
              have o1 := fnan_t hxn
              clear hxn
              go_wp2_with fail
              go_quiet (fail)
              go_wp2_with fail
              go_ret
              exact ⟨rfl, below_drewN (below_drewN HB4.out _) _⟩
            | false =>
              have o1 := fo_self hxn
              have HXN := Lib.hid hxn
              clear hxn
              go_wp2_with fail
              go_quiet (fail)
              go_wp2_with fail
              go_roundw
              case rel => exact ⟨k + 1, _, by omega, by go_num, (fun j hj hjk => by
                by_cases e : j = k
                · subst e; rw [← HX.out]; exact HXN.out
                · exact HV.out j hj (by omega)), by first | rfl | (simp only [World.drewN_drewN]; done) | exact World.drewN_drewN _ _ _⟩
              case measure => simp [intOf]; omega
          · have hltz : ¬ (k : Int) < (N : Int) := by omega
            have HNAN := Lib.hid (show ∀ p ∈ ps, fnan p.2 = false from fun p hp => by
              obtain ⟨j, hj, rfl⟩ := List.mem_iff_getElem.1 hp
              exact HV.out j hj (by have := HNV.out; omega))
            have g0 : (w4.drewN n).cell? ⟨bg, 0, none⟩ = some (.int .i64 how) := g0
            have g1 : (w4.drewN n).cell? ⟨bg, 1, none⟩ = some (.slice an nn cn) := g1
            have hb5 := below_drewN HB4.out n
            have hb05 := below_drewN HB04.out n
            obtain ⟨w5, hw5⟩ : ∃ w5, w5 = w4.drewN n := ⟨_, rfl⟩
            rw [← hw5] at g0 g1 hb5 hb05 ⊢
            have HB5 := Lib.hid hb5
            have HB05 := Lib.hid hb05
            obtain ⟨S, hSp, hSs⟩ := exists_keys (nodup_firsts (glP how names) ps)
            have HSP := Lib.hid hSp
            have HSS := Lib.hid hSs
            obtain ⟨M, hM⟩ : ∃ M, M = S.length := ⟨_, rfl⟩
            have HM := Lib.hid hM
            have hM3 : M ≤ 300 := by rw [hM, hSp.length_eq]; exact Nat.le_trans (firsts_len _ _) HL3.out
            have HTL := Lib.hid (show (topG (glP how names) ps).length = M by rw [topG_len HST.out, hM, hSp.length_eq])
            clear hb5 hb05 hw5 hSp hSs hM
            go_wp2_with fail
            refine (HA.out 2 0 _ HB5.out).mono ?_
            rintro e w6 ⟨hb, hr⟩
            obtain ⟨v, rfl, hv⟩ := (aggr_keys (S := S) (by decide) (by decide) HCC.out.symm HRI.out HSP.out HSS.out hr)
            obtain ⟨a6, c6, rfl, hc6, hcc⟩ := hv.split
            have HB6 := Lib.hid (HB5.out.trans (hb.mono HB5.out.size))
            have HB06 := Lib.hid (HB05.out.trans (hb.mono HB05.out.size))
            have g0 := cell_below hb (Nat.le_refl _) g0
            have g1 := cell_below hb (Nat.le_refl _) g1
            have HC6 := Lib.hid hcc
            have HX6 := Lib.hid hb
            have hln : (S.map fun g => (g, canon (oneF 2 (valsG how names ps g)))).length = M := by rw [List.length_map]; exact HM.out.symm
            rw [hln] at hc6 ⊢
            clear hb hr hv hcc hln
            go_wp2_with fail
            refine (HA.out 8 0 _ HB6.out).mono ?_
            rintro e w7 ⟨hb, hr⟩
            obtain ⟨v, rfl, hv⟩ := (aggr_keys (S := S) (by decide) (by decide) HCC.out.symm HRI.out HSP.out HSS.out hr)
            obtain ⟨a7, c7, rfl, hc7, hcc⟩ := hv.split
            have HB7 := Lib.hid (HB6.out.trans (hb.mono HB6.out.size))
            have HB07 := Lib.hid (HB06.out.trans (hb.mono HB06.out.size))
            have g0 := cell_below hb (Nat.le_refl _) g0
            have g1 := cell_below hb (Nat.le_refl _) g1
            have HC7 := Lib.hid hcc
            have HX7 := Lib.hid hb
            have hln : (S.map fun g => (g, canon (oneF 8 (valsG how names ps g)))).length = M := by rw [List.length_map]; exact HM.out.symm
            rw [hln] at hc7 ⊢
            clear hb hr hv hcc hln
            go_wp2_with fail
            refine (HA.out 4 0 _ HB7.out).mono ?_
            rintro e w8 ⟨hb, hr⟩
            obtain ⟨v, rfl, hv⟩ := (aggr_keys (S := S) (by decide) (by decide) HCC.out.symm HRI.out HSP.out HSS.out hr)
            obtain ⟨a8, c8, rfl, hc8, hcc⟩ := hv.split
            have HB8 := Lib.hid (HB7.out.trans (hb.mono HB7.out.size))
            have HB08 := Lib.hid (HB07.out.trans (hb.mono HB07.out.size))
            have g0 := cell_below hb (Nat.le_refl _) g0
            have g1 := cell_below hb (Nat.le_refl _) g1
            have HC8 := Lib.hid hcc
            have HX8 := Lib.hid hb
            have hln : (S.map fun g => (g, canon (oneF 4 (valsG how names ps g)))).length = M := by rw [List.length_map]; exact HM.out.symm
            rw [hln] at hc8 ⊢
            clear hb hr hv hcc hln
            go_wp2_with fail
            rw [show (4607182418800017408 : Nat) = F1 from rfl]
            refine (HA.out 6 F1 _ HB8.out).mono ?_
            rintro e w9 ⟨hb, hr⟩
            obtain ⟨v, rfl, hv⟩ := (aggr_tops HCC.out.symm (by have := HL3.out; omega) HST.out HRI.out hr)
            obtain ⟨a9, c9, rfl, hc9, hcc⟩ := hv.split
            have HB9 := Lib.hid (HB8.out.trans (hb.mono HB8.out.size))
            have HB09 := Lib.hid (HB08.out.trans (hb.mono HB08.out.size))
            have g0 := cell_below hb (Nat.le_refl _) g0
            have g1 := cell_below hb (Nat.le_refl _) g1
            have HC9 := Lib.hid hcc
            have HX9 := Lib.hid hb
            have hln : ((topG (glP how names) ps).map canonP).length = M := by rw [List.length_map]; exact HTL.out
            rw [hln] at hc9 ⊢
            clear hb hr hv hcc hln
            go_wp2_with fail
            have HB89 := HX9
            have HB79 := Lib.hid (HX8.out.trans (HX9.out.mono HX8.out.size))
            have HB69 := Lib.hid (HX7.out.trans (HB79.out.mono HX7.out.size))
            have G0' := Lib.hid g0
            have G1' := Lib.hid g1
            clear g0 g1
            go_loopw [14, 15] (fun s i wr => ∃ k : Nat, k ≤ M ∧ i = .int .i64 k ∧ s = .float .f64 (fenc (sumG how names ps S k : Nat)) ∧ Hid (Below w9.heap.size w9 wr)) (fun _ i _ => M - (intOf i).toNat)
            case atStart => exact ⟨0, Nat.zero_le _, rfl, by show _ = Value.float .f64 (fenc ((0 : Nat) : Int)); rw [show fenc ((0 : Nat) : Int) = 0 by decide +kernel], Below.refl _ _⟩
            case round =>
              obtain ⟨k, hk, rfl, rfl, HB⟩ := hrel
              have h00 : (0 : Int) ≤ (k : Int) := by omega
              by_cases hlt : k < M
              · have hltz : (k : Int) < (M : Int) := by omega
                have hF1 : (FloatKind.f64.format.order F1 4607182418800017408 != some .eq) = false := by decide +kernel
                have hkS : k < S.length := by have := HM.out; omega
                obtain ⟨L, hL⟩ : ∃ L, L = S[k] := ⟨_, rfl⟩
                have hLf : L ∈ firstsG (glP how names) ps := by rw [hL]; exact HSP.out.subset (List.getElem_mem hkS)
                have HLF := Lib.hid hLf
                obtain ⟨b6, off6, lv6, rfl, k6, k6v, s6⟩ := HC6.out k (by simpa using hkS)
                obtain ⟨b7, off7, lv7, rfl, k7, k7v, s7⟩ := HC7.out k (by simpa using hkS)
                obtain ⟨b8, off8, lv8, rfl, k8, k8v, s8⟩ := HC8.out k (by simpa using hkS)
                simp only [List.getElem_map, ← hL] at k6v s6 k7v s7 k8v s8
                rw [one_count (by have := HL3.out; omega)] at k6v
                rw [one_group] at k7v
                rw [one_max, canon_num (top_least hLf HNAN.out).1] at k8v
                have hb6 := HB69.out.trans (HB.out.mono HB69.out.size)
                have hb7 := HB79.out.trans (HB.out.mono HB79.out.size)
                have hb8 := HB89.out.trans (HB.out.mono HB89.out.size)
                have p6 := cell_below hb6 (Nat.le_refl _) k6
                have p6v := cell_below hb6 (Nat.le_refl _) k6v
                have p7 := cell_below hb7 (Nat.le_refl _) k7
                have p7v := cell_below hb7 (Nat.le_refl _) k7v
                have p8 := cell_below hb8 (Nat.le_refl _) k8
                have p8v := cell_below hb8 (Nat.le_refl _) k8v
                have hs6 := s6.below hb6 (Nat.le_refl _)
                have hs7 := s7.below hb7 (Nat.le_refl _)
                have hs8 := s8.below hb8 (Nat.le_refl _)
                have HTV := Lib.hid ((top_least hLf HNAN.out).2)
                have hcnt : (membG (glP how names) ps L).length ≤ 300 := Nat.le_trans (List.length_filter_le _ _) HL3.out
                have hsg : sumG how names ps S k ≤ 300 := Nat.le_trans (sumG_le HSP.out k (by omega)) HL3.out
                have hsum := fun w => fadd_fenc (sumG how names ps S k) (membG (glP how names) ps L).length (by omega) (by omega) w
                have HSU := Lib.hid (show sumG how names ps S (k + 1) = sumG how names ps S k + (membG (glP how names) ps L).length by rw [hL]; exact sumG_succ hkS)
                rw [← HSU.out] at hsum
                obtain ⟨fs, hfs⟩ : ∃ x, x = fenc (sumG how names ps S k : Nat) := ⟨_, rfl⟩
                obtain ⟨fc, hfc⟩ : ∃ x, x = fenc ((membG (glP how names) ps L).length : Int) := ⟨_, rfl⟩
                obtain ⟨fz, hfz⟩ : ∃ x, x = fenc (sumG how names ps S (k + 1) : Nat) := ⟨_, rfl⟩
                rw [← hfs, ← hfc, ← hfz] at hsum
                rw [← hfc] at p6v
                rw [← hfs]
                have hop1 : ∀ w, fop .add fs fc w = fz := fun w => (hsum w).1
                have hop2 : fdr .add fs fc = 0 := (hsum wr).2
                have HFZ := Lib.hid hfz
                obtain ⟨lx8, hlx8⟩ : ∃ x, x = least true ((membG (glP how names) ps L).map (·.2)) := ⟨_, rfl⟩
                rw [← hlx8] at p8v HTV
                have hf1 : (FloatKind.f64.format.order 4607182418800017408 4607182418800017408 == some .eq) = true := by decide +kernel
                have hf2 : (FloatKind.f64.format.order 4607182418800017408 4607182418800017408 != some .eq) = false := by decide +kernel
                have p7v : wr.cell? ⟨b7, off7 + k * 2 + 1, none⟩ = some (.float .f64 4607182418800017408) := p7v
                obtain ⟨al6, cl6, rfl, -, -⟩ := id hs6
                obtain ⟨al7, cl7, rfl, -, -⟩ := id hs7
                obtain ⟨al8, cl8, rfl, -, -⟩ := id hs8
                obtain ⟨LL, hLL⟩ : ∃ n, n = L.length := ⟨_, rfl⟩
                rw [← hLL] at hs6 hs7 hs8 p6 p7 p8
                have HS67 := Lib.hid (fun m => (rsame_any (.slice al6 LL cl6) (.slice al7 LL cl7) L L (wr.drewN m) hs6 hs7).mono (R' := fun e w'' => e = .returned (.bool (cmpL L L == 0)) ∧ ∃ k, w'' = wr.drewN k) fun _ _ ⟨he, n, hm⟩ => ⟨he, m + n, by rw [hm, World.drewN_drewN]⟩)
                have HS87 := Lib.hid (fun m => (rsame_any (.slice al8 LL cl8) (.slice al7 LL cl7) L L (wr.drewN m) hs8 hs7).mono (R' := fun e w'' => e = .returned (.bool (cmpL L L == 0)) ∧ ∃ k, w'' = wr.drewN k) fun _ _ ⟨he, n, hm⟩ => ⟨he, m + n, by rw [hm, World.drewN_drewN]⟩)
                rw [show (cmpL L L == 0) = true by rw [cmpL_refl]; rfl] at HS67 HS87
                have HS7 := Lib.hid hs7
                have HLE := Lib.hid hL
                have K7 := Lib.hid (cell_below HB79.out (Nat.le_refl _) k7)
                have K8 := Lib.hid (cell_below HB89.out (Nat.le_refl _) k8v)
                rw [← hlx8] at K8
                have S7 := Lib.hid (s7.below HB79.out (Nat.le_refl _))
                rw [← hLL] at K7 S7
                clear k6 k6v s6 k7 k7v s7 k8 k8v s8 hb6 hb7 hb8 hs6 hs7 hs8 hcnt hsg hsum hfs hfc hfz hlx8 hLL hL hLf
                go_wp2_with fail
                rw [show wr.drewN 0 = wr from rfl]
                go_quiet ((go_at_call 18; first | exact HS67.out _ | exact HS87.out _))
                go_wp2_with fail
                go_loopw [16, 17] (fun hb i wq => ∃ j : Nat, j ≤ M ∧ hb = .bool (hasT (glP how names) (topG (glP how names) ps) L j) ∧ i = .int .i64 j ∧ Hid (Below w9.heap.size w9 wq)) (fun _ i _ => M - (intOf i).toNat)
                case atStart => exact ⟨0, Nat.zero_le _, rfl, rfl, below_drewN HB.out _⟩
                case round =>
                  obtain ⟨j, hj, rfl, rfl, HBQ⟩ := hrel
                  have h02 : (0 : Int) ≤ (j : Int) := by omega
                  obtain ⟨hbv, hhb⟩ : ∃ b, b = hasT (glP how names) (topG (glP how names) ps) L j := ⟨_, rfl⟩
                  rw [← hhb]
                  have HHB := Lib.hid hhb
                  clear hhb
                  by_cases hlt2 : j < M
                  · have hltz2 : (j : Int) < (M : Int) := by omega
                    have hjT : j < (topG (glP how names) ps).length := by have := HTL.out; omega
                    obtain ⟨P, hP⟩ : ∃ P, P = (topG (glP how names) ps)[j] := ⟨_, rfl⟩
                    obtain ⟨b9, off9, lv9, rfl, k9, k9v, s9⟩ := HC9.out j (by rw [List.length_map]; exact hjT)
                    simp only [List.getElem_map, ← hP] at k9v s9
                    have hPm : P ∈ topG (glP how names) ps := by rw [hP]; exact List.getElem_mem hjT
                    have hPp : P ∈ ps := (List.mem_filter.1 hPm).1
                    have s9 : Sl lenc w9 lv9 P.1 := s9
                    have k9v : w9.cell? ⟨b9, off9 + j * 2 + 1, none⟩ = some (.float .f64 (canon P.2)) := k9v
                    rw [canon_num (HNAN.out P hPp)] at k9v
                    obtain ⟨pl, px⟩ := P
                    simp only at s9 k9v
                    obtain ⟨al9, cl9, rfl, -, -⟩ := id s9
                    have hlen : pl.length ≤ 1000 := HLS.out (pl, px) hPp
                    obtain ⟨pg, hpg⟩ : ∃ g, g = groupL how names pl := ⟨_, rfl⟩
                    have HGRP := Lib.hid (fun w' (hb : Below wr.heap.size wr w') => rgroup_S _ (.slice an nn cn) how pl names w' ((s9.below HBQ.out (Nat.le_refl _)).below hb (Nat.le_refl _)) ((HN.out.below (HB9.out.trans (HBQ.out.mono HB9.out.size)) (Nat.le_refl _)).below hb (Nat.le_refl _)) (by omega) HNM.out)
                    rw [← hpg] at HGRP
                    obtain ⟨np, hnp⟩ : ∃ n, n = pl.length := ⟨_, rfl⟩
                    rw [← hnp] at HGRP k9
                    have p0 := cell_below HBQ.out (Nat.le_refl _) k9
                    have p1 := cell_below HBQ.out (Nat.le_refl _) k9v
                    have g0 := cell_below HBQ.out (Nat.le_refl _) G0'.out
                    have g1 := cell_below HBQ.out (Nat.le_refl _) G1'.out
                    have p7 := cell_below HBQ.out (Nat.le_refl _) K7.out
                    have p8 := cell_below HBQ.out (Nat.le_refl _) K8.out
                    have HSK := Lib.hid (S7.out.below HBQ.out (Nat.le_refl _))
                    obtain ⟨be, hbe⟩ : ∃ b, b = decide (pg = L) := ⟨_, rfl⟩
                    have HSM := Lib.hid (fun a n c w' (h1 : Sl lenc w' (.slice a n c) pg) (h2 : Sl lenc w' (.slice al7 LL cl7) L) => rsame_S (.slice a n c) (.slice al7 LL cl7) pg L w' h1 h2)
                    rw [← hbe] at HSM
                    have HPG := Lib.hid (show glP how names (topG (glP how names) ps)[j] = pg by rw [hpg, ← hP]; rfl)
                    have HPM := Lib.hid hPm
                    have HP := Lib.hid hP
                    have HBI := Lib.hid (show be = true ↔ pg = L by rw [hbe]; exact decide_eq_true_iff)
                    have HBE := Lib.hid hbe
                    have HJT := Lib.hid hjT
                    clear s9 k9 k9v hP hPm hPp hpg hnp hbe hlen
                    go_wp2_with fail
                    have hbA : Below wr.heap.size wr wr := Below.refl _ _
                    have hsA := hbA.size
                    go_region_held3 (fun w' => w'.cell? ⟨b9, off9 + j * 2, none⟩ = some (.slice al9 np cl9) ∧ w'.cell? ⟨bg, 0, none⟩ = some (.int .i64 how) ∧ w'.cell? ⟨bg, 1, none⟩ = some (.slice an nn cn) ∧ w'.cell? ⟨b7, off7 + k * 2, none⟩ = some (.slice al7 LL cl7))
                      (exact ⟨cell_below (B := wr.heap.size) (by go_grown) (Nat.le_refl _) p0, cell_below (B := wr.heap.size) (by go_grown) (Nat.le_refl _) g0, cell_below (B := wr.heap.size) (by go_grown) (Nat.le_refl _) g1, cell_below (B := wr.heap.size) (by go_grown) (Nat.le_refl _) p7⟩)
                      (first
                        | (go_at_call 19
                           refine (HGRP.out _ (by go_grown)).mono ?_
                           rintro e w12 ⟨a8, n8, c8, rfl, hs8, -, hb8⟩
                           have hbA : Below wr.heap.size wr w12 := Below.trans (by go_grown) (hb8.mono (by first | exact Nat.le_refl _ | (simp; done) | (simp; omega)))
                           have hsA := hbA.size)
                        | (go_at_call 18
                           refine (HSM.out a8 n8 c8 w12 hs8 (HSK.out.below hbA (Nat.le_refl _))).mono ?_
                           rintro e w13 ⟨rfl, hb13⟩
                           have hbA : Below wr.heap.size wr w13 := hbA.trans (hb13.mono hsA)))
                    have HBW := Lib.hid (HBQ.out.trans (hbA.mono HBQ.out.size))
                    have q1 := cell_below hbA (Nat.le_refl _) p1
                    have q8 := cell_below hbA (Nat.le_refl _) p8
                    clear hbA hb13 hs8 hb8 hsA p0 p1 g0 g1 p7 p8 HGRP HSM HSK HBQ
                    have HHS := Lib.hid (show Value.bool (hbv || be) = Value.bool (hasT (glP how names) (topG (glP how names) ps) L (j + 1)) from congrArg Value.bool (hasT_step HJT.out HHB.out HPG.out HBI.out))
                    cases be with
                    | true =>
                      have hpl : pg = L := HBI.out.1 rfl
                      have hv0 : hbv = false := by rw [HHB.out]; exact hasT_first HST.out HJT.out (by rw [HPG.out, hpl])
                      subst hv0
                      rw [Bool.false_or] at HHS
                      have hpx : (pl, px) = hdP (glP how names) ps L := topG_val HPM.out (by rw [HP.out, HPG.out, hpl]) HLF.out
                      have hte : (FloatKind.f64.format.order px lx8 == some .eq) = true := by have h1 := HTV.out; rw [← hpx] at h1; exact h1
                      clear hpx
                      have HPL := Lib.hid hpl
                      clear hpl
                      go_wp2_with fail
                      go_quiet (fail)
                      go_wp2_with fail
                      go_roundw
                      case rel => exact ⟨j + 1, by omega, by first | exact HHS.out | exact (congrArg Value.bool hte).trans HHS.out, by go_num, by first | exact below_drewN HBW.out _ | exact HBW.out⟩
                      case measure => simp [intOf]; omega
                    | false =>
                      rw [Bool.or_false] at HHS
                      go_wp2_with fail
                      go_roundw
                      case rel => exact ⟨j + 1, by omega, HHS.out, by go_num, HBW.out⟩
                      case measure => simp [intOf]; omega
                  · have hltz2 : ¬ (j : Int) < (M : Int) := by omega
                    have hjM : j = M := by omega
                    have hv1 : hbv = true := by rw [HHB.out, hjM, ← HTL.out]; exact hasT_end HLF.out
                    subst hv1
                    go_wp2_with fail
                    go_roundw
                    case rel => exact ⟨k + 1, by omega, by go_num, by rw [HFZ.out], HBQ.out⟩
                    case measure => simp [intOf]; omega
              · have hltz : ¬ (k : Int) < (M : Int) := by omega
                have hkM : k = M := by omega
                have hsum : sumG how names ps S k = N := by rw [hkM, HM.out, sumG_all HSP.out, HNV.out]
                rw [hsum]
                have hNs : N ≤ 300 := by rw [HNV.out]; exact HL3.out
                have hfn : (FloatKind.f64.format.order (fenc (N : Int)) (fenc (N : Int)) == some .eq) = true := by
                  have h1 := fo_fenc (N : Int) N (by omega) (by omega)
                  have h2 : FloatKind.f64.format.order (fenc (N : Int)) (fenc (N : Int)) = some (compare (N : Int) N) := h1
                  rw [h2, show compare (N : Int) (N : Int) = .eq from Int.compare_eq_eq.2 rfl]; rfl
                have hfn2 : (FloatKind.f64.format.order (fenc (N : Int)) (floatOfInt FloatKind.f64 (N : Int)) == some .eq) = true := hfn
                clear hsum
                go_wp2_with fail
                go_ret
                exact ⟨by first | rfl | exact ret_b hfn2, HB9.out.trans (HB.out.mono HB9.out.size)⟩
      · have hc1 : (ck == 0) = false := by simpa using hc0
        have hc2 : (ck != 0) = true := by simpa using hc0
        clear hc0
        go_wp2_with fail
        refine (HCK.out _ HB3.out).mono ?_
        rintro e w4 ⟨rfl, hb4⟩
        have HB4 := Lib.hid (HB3.out.trans (hb4.mono HB3.out.size))
        clear hb4
        go_wp2_with fail
        go_ret
        exact ⟨rfl, HB4.out⟩
end Go.Proofs.YtogjcaakfnfapaaDoor
