/- Set operators of two vectors: the reference's walk (printed by gen_jr3.py). (Several texts in one file, by merge.py.) -/
import Derived.Test.YtogjcaakfnfapaaGreatDoorZC12
import Derived.Test.YtogjcaakfnfapaaGreatDoorZC15
namespace Go.Proofs.YtogjcaakfnfapaaGreatDoor
open Go Go.RowKit
set_option linter.unusedVariables false
set_option linter.unusedSimpArgs false
set_option maxRecDepth 100000
set_option maxHeartbeats 64000000 in
theorem rset_go (op how : Int) (vn va vb : Value) (names : List ByteArray) (ps qs : List Pt) (w : World) (hva : VS w va ps) (hvb : VS w vb qs) (hn : Sl senc1 w vn names) (hnl : names.length ≤ 100000)
    (hpa : ∀ p ∈ ps, PtOk p) (hpb : ∀ p ∈ qs, PtOk p) (hla : ps.length ≤ 300) (hlb : qs.length ≤ 300) :
    Calls Tryz.prog 15 #[.int .i64 op, .agg #[.int .i64 how, vn], va, vb] w fun e w' => Below w.heap.size w w' ∧ SetR op how names ps qs e w' := by
  obtain ⟨i0, hi, hz0, hz1, hz2⟩ := info_parts Tryz.infoPt
  obtain ⟨zsa, hza, hsa, hala⟩ := hva.zpts
  obtain ⟨zsb, hzb, hsb, halb⟩ := hvb.zpts
  have HZA := Lib.hid hza
  have HZB := Lib.hid hzb
  have HLA := Lib.hid (show zsa.length = ps.length from by rw [← hza]; simp)
  have HLB := Lib.hid (show zsb.length = qs.length from by rw [← hzb]; simp)
  have HALA := Lib.hid hala
  have HALB := Lib.hid halb
  have HSN := Lib.hid hn
  have HPA1 := Lib.hid (fun p (h : p ∈ ps) => (show p.1.length ≤ 1000 from (hpa p h).1))
  have HPB1 := Lib.hid (fun p (h : p ∈ qs) => (show p.1.length ≤ 1000 from (hpb p h).1))
  have HAMA := Lib.hid (fun vl l w' (hb : Below w.heap.size w w') (hl : Sl lenc w' vl l) (hll : l.length ≤ 1000) => ramong_any how va vn vl names ps l w' (hva.below hb (Nat.le_refl _)) (hn.below hb (Nat.le_refl _)) hl HPA1.out hll hnl)
  have HAMB := Lib.hid (fun vl l w' (hb : Below w.heap.size w w') (hl : Sl lenc w' vl l) (hll : l.length ≤ 1000) => ramong_any how vb vn vl names qs l w' (hvb.below hb (Nat.le_refl _)) (hn.below hb (Nat.le_refl _)) hl HPB1.out hll hnl)
  have HCK := Lib.hid (fun w' (hb : Below w.heap.size w w') => rcheck_any how vn names w' (hn.below hb (Nat.le_refl _)))
  obtain ⟨an, cn, rfl, hlen, -⟩ := hn.strings
  obtain ⟨aa, ca, rfl, hlva, -, hca⟩ := hsa.split zenc_len
  obtain ⟨ab, cb, rfl, hlvb, -, hcb⟩ := hsb.split zenc_len
  have HCA := Lib.hid hca
  have HCB := Lib.hid hcb
  clear hva hvb hn hnl hpa hpb hza hzb hsa hsb hala halb hca hcb
  obtain ⟨nn, hnn⟩ : ∃ n, n = names.length := ⟨_, rfl⟩
  rw [← hnn] at HCK HAMA HAMB HSN hlen ⊢
  clear hnn
  obtain ⟨NA, hNA⟩ : ∃ n, n = zsa.length := ⟨_, rfl⟩
  rw [← hNA] at HAMA HLA hlva ⊢
  have HNA := Lib.hid hNA
  obtain ⟨NB, hNB⟩ : ∃ n, n = zsb.length := ⟨_, rfl⟩
  rw [← hNB] at HAMB HLB hlvb ⊢
  have HNB := Lib.hid hNB
  have hna3 : NA ≤ 300 := by rw [HLA.out]; exact hla
  have hnb3 : NB ≤ 300 := by rw [HLB.out]; exact hlb
  have HPA3 := Lib.hid hla
  have HPB3 := Lib.hid hlb
  clear hNA hNB hla hlb
  obtain ⟨w1, hw1⟩ : ∃ w1, w1 = w.alloc (.cells #[.int .i64 how, .slice an nn cn] 24) := ⟨_, rfl⟩
  obtain ⟨bg, hbg⟩ : ∃ b, b = w.heap.size := ⟨_, rfl⟩
  have G0 := Lib.hid (show w1.cell? ⟨bg, 0, none⟩ = some (.int .i64 how) by rw [hw1, hbg]; simp)
  have G1 := Lib.hid (show w1.cell? ⟨bg, 1, none⟩ = some (.slice an nn cn) by rw [hw1, hbg]; simp)
  have HB1 := Lib.hid (show Below w.heap.size w w1 by rw [hw1]; exact (Below.refl _ _).alloc (Nat.le_refl _) _)
  have HW1 := Lib.hid hw1
  have HBG := Lib.hid hbg
  clear hw1 hbg
  by_cases h1 : op < 11
  · go_enter Tryz.func15, Tryz.ntmps15
    go_wp2_with fail
    go_ret2
    exact ⟨(Below.refl _ _).alloc (Nat.le_refl _) _, .inl ⟨.inl h1, rfl⟩⟩
  · have h1' : 11 ≤ op := by omega
    by_cases h2 : 14 < op
    · clear h1
      go_enter Tryz.func15, Tryz.ntmps15
      go_wp2_with fail
      go_ret2
      exact ⟨(Below.refl _ _).alloc (Nat.le_refl _) _, .inl ⟨.inr (.inl h2), rfl⟩⟩
    · have h2' : op ≤ 14 := by omega
      have b1 : decide (op < 11) = false := decide_eq_false h1
      have b2 : decide (14 < op) = false := decide_eq_false h2
      clear h1 h2
      obtain ⟨ck, hck⟩ : ∃ c, c = chkL how names := ⟨_, rfl⟩
      rw [← hck] at HCK
      by_cases hc0 : ck = 0
      · subst hc0
        have HC0 := Lib.hid hck
        have HOP := Lib.hid (show op = 11 ∨ op = 12 ∨ op = 13 ∨ op = 14 by omega)
        clear hck
        go_enter Tryz.func15, Tryz.ntmps15
        go_wp2_with fail
        rw [← HW1.out, ← HBG.out]
        refine (HCK.out _ HB1.out).mono ?_
        rintro e w2 ⟨rfl, hb2⟩
        have GW0 := Lib.hid (cell_below hb2 (Nat.le_refl _) G0.out)
        have GW1 := Lib.hid (cell_below hb2 (Nat.le_refl _) G1.out)
        have HBW := Lib.hid (HB1.out.trans (hb2.mono HB1.out.size))
        clear hb2 HCK
        go_wp2_with fail
        go_loopw [10, 11] (fun out i wr => ∃ (j : Nat), j ≤ NA ∧ i = .int .i64 j ∧ Hid (OV wr w2.heap.size out ((ps.take j).filter (keepP op how names qs))) ∧ Hid (Below w2.heap.size w2 wr)) (fun _ i _ => NA - (intOf i).toNat)
        case atStart => exact ⟨0, Nat.zero_le _, rfl, OV.nil _ _, Below.refl _ _⟩
        case round =>
          obtain ⟨j, hj, rfl, HO, HB⟩ := hrel
          have hBz := HB.out.size
          have h00 : (0 : Int) ≤ (j : Int) := by omega
          by_cases hlt : j < NA
          · have hltz : (j : Int) < (NA : Int) := by omega
            have hjz : j < zsa.length := by have := HNA.out; omega
            obtain ⟨b, off, rfl, hd⟩ := HCA.out j hjz
            have hbw : Below w.heap.size w wr := HBW.out.trans (HB.out.mono HBW.out.size)
            obtain ⟨z, hzj⟩ : ∃ z, z = zsa[j] := ⟨_, rfl⟩
            have hzm : z ∈ zsa := by rw [hzj]; exact List.getElem_mem hjz
            rw [← hzj] at hd
            have hslz0 := HALA.out z hzm
            have hjp : j < ps.length := by have := HLA.out; omega
            have hpj : ps[j] = z.2 := by
              rw [hzj]
              have h1 := HZA.out
              subst h1
              rw [List.getElem_map]
            have hgl : z.2.1.length ≤ 1000 := HPA1.out z.2 (by rw [← hpj]; exact List.getElem_mem _)
            obtain ⟨lv, zl, zf⟩ := z
            have q0 : wr.cell? ⟨b, off + j * 2, none⟩ = some lv := cell_below hbw (Nat.le_refl _) (hd 0 _ rfl)
            have q1 : wr.cell? ⟨b, off + j * 2 + 1, none⟩ = some (.float .f64 zf) := cell_below hbw (Nat.le_refl _) (hd 1 _ rfl)
            obtain ⟨a2, n2, c2, rfl⟩ : ∃ a2 n2 c2, lv = .slice a2 n2 c2 := by
              obtain ⟨a2, c2, e, -⟩ := hslz0
              exact ⟨a2, _, c2, e⟩
            have g0 := cell_below HB.out (Nat.le_refl _) GW0.out
            have g1 := cell_below HB.out (Nat.le_refl _) GW1.out
            have HAMJ := Lib.hid (fun w' (hb : Below wr.heap.size wr w') => HAMB.out (.slice a2 n2 c2) zl w' (hbw.trans (hb.mono hbw.size)) (hslz0.below (hbw.trans (hb.mono hbw.size)) (Nat.le_refl _)) hgl)
            obtain ⟨hb0, hhb0⟩ : ∃ b, b = hasSg (sgP how names) qs (signL how names zl) := ⟨_, rfl⟩
            simp only [← hhb0] at HAMJ
            have HTK := Lib.hid (take_filter (keepP op how names qs) ps j (zl, zf) hjp hpj)
            have HCV := Lib.hid (show (keepP op how names qs) (zl, zf) = keepB op hb0 by rw [hhb0]; rfl)
            have HSZ := Lib.hid (hslz0.below HBW.out (Nat.le_refl _))
            have hql : ((ps.take j).filter (keepP op how names qs)).length ≤ 600 := Nat.le_trans (filter_le _ _ _ 300 HPA3.out) (by decide)
            obtain ⟨ql, hqll⟩ : ∃ n, n = ((ps.take j).filter (keepP op how names qs)).length := ⟨_, rfl⟩
            rw [← hqll] at hql
            have HQL := Lib.hid hqll
            clear hd hzj hzm hslz0 hbw hgl hhb0 hjp hpj hqll
            rcases HOP.out with rfl | rfl | rfl | rfl
            · cases hb0 with
              | true =>
                have HT := Lib.hid HTK.out
                rw [show (keepP 11 how names qs) (zl, zf) = true from HCV.out] at HT
                rw [if_pos rfl] at HT
                go_wp2_with fail
                have hbA : Below wr.heap.size wr wr := Below.refl _ _
                have hsA := hbA.size
                go_region_held3 (fun w' => w'.cell? ⟨bg, 0, none⟩ = some (.int .i64 how) ∧ w'.cell? ⟨bg, 1, none⟩ = some (.slice an nn cn) ∧ w'.cell? ⟨b, off + j * 2, none⟩ = some (.slice a2 n2 c2))
                  (exact ⟨cell_below (B := wr.heap.size) (by go_grown) (Nat.le_refl _) g0, cell_below (B := wr.heap.size) (by go_grown) (Nat.le_refl _) g1, cell_below (B := wr.heap.size) (by go_grown) (Nat.le_refl _) q0⟩)
                  (first
                    | (go_at_call 43
                       refine (HAMJ.out _ (by go_grown)).mono ?_
                       rintro e w5 ⟨rfl, hb5⟩
                       have hbA : Below wr.heap.size wr w5 := Below.trans (by go_grown) (hb5.mono (by first | exact Nat.le_refl _ | (simp; done) | (simp; omega)))))
                have HB5 := Lib.hid (hbA)
                have q0 := cell_below HB5.out (Nat.le_refl _) q0
                have q1 := cell_below HB5.out (Nat.le_refl _) q1
                have hbW5 := HB.out.trans (HB5.out.mono hBz)
                obtain ⟨zs0, hz0s, hown0, hzok0⟩ := HO.out.kept HB5.out
                rw [← HQL.out] at hown0
                have HZ0 := Lib.hid hz0s
                have HW0 := Lib.hid hown0
                have HK0 := Lib.hid hzok0
                have HBW5 := Lib.hid hbW5
                have hzw : w2.heap.size ≤ w5.heap.size := hbW5.size
                have hzwr : wr.heap.size ≤ w5.heap.size := HB5.out.size
                clear hbW5 hz0s hown0 hzok0
                go_wp2_with (at_builtin
                             refine wpList_append_own_at _ rfl (.tmp 49) (.tmp 54) _ rfl w2.heap.size 50 i0 _ 2 32 Tryz.underlying27 hi hz0 hz1 hz2 rfl (by decide) u10 ql (zs0.flatMap zenc) rfl (World.ownsRow.alloc HW0.out _) ⟨w5.heap.size, 0, none⟩ 1 1 [.slice a2 n2 c2, .float .f64 zf] rfl rfl (World.news_of_block (heap_new w5 _)) (by intro u hu; simp at hu; rcases hu with rfl | rfl <;> rfl) (by unfold maxLen; omega) (by omega) (by simp; omega) ?_
                             intro v' w7 hown' hgrow hnil hat
                             have hbC : Below w5.heap.size w5 (w5.alloc (.cells #[.slice a2 n2 c2, .float .f64 zf] 50)) := (Below.refl _ _).alloc (Nat.le_refl _) _
                             have hov' : OV w7 w2.heap.size v' (((ps.take j).filter (keepP 11 how names qs)) ++ [(zl, zf)]) := OV.appended (v' := v') (w' := w7) (z := (.slice a2 n2 c2, zl, zf)) HZ0.out (fun z hz => (HK0.out z hz).below hbC (Nat.le_refl _))
                               (((ZOk.fresh (z := (.slice a2 n2 c2, zl, zf)) HSZ.out (fun q hq => (HW0.out.lt q hq).1)).below HBW5.out (Nat.le_refl _)).below hbC (Nat.le_refl _)) (by rw [← HQL.out]; exact hown') hgrow hat
                             have HOV7 := Lib.hid hov'
                             have HB7 := Lib.hid ((HBW5.out.trans (hbC.mono hzw)).grown hgrow (by simp; omega) (fun q hq => (HW0.out.lt q hq).1))
                             clear hown' hgrow hnil hat hov' hbC)
                go_wp2_with fail
                go_roundw
                case rel => exact ⟨j + 1, by omega, by go_num, by rw [HT.out]; exact HOV7.out, HB7.out⟩
                case measure => simp [intOf]; omega
              | false =>
                have HT := Lib.hid HTK.out
                rw [show (keepP 11 how names qs) (zl, zf) = false from HCV.out] at HT
                rw [if_neg (by decide), List.append_nil] at HT
                go_wp2_with fail
                have hbA : Below wr.heap.size wr wr := Below.refl _ _
                have hsA := hbA.size
                go_region_held3 (fun w' => w'.cell? ⟨bg, 0, none⟩ = some (.int .i64 how) ∧ w'.cell? ⟨bg, 1, none⟩ = some (.slice an nn cn) ∧ w'.cell? ⟨b, off + j * 2, none⟩ = some (.slice a2 n2 c2))
                  (exact ⟨cell_below (B := wr.heap.size) (by go_grown) (Nat.le_refl _) g0, cell_below (B := wr.heap.size) (by go_grown) (Nat.le_refl _) g1, cell_below (B := wr.heap.size) (by go_grown) (Nat.le_refl _) q0⟩)
                  (first
                    | (go_at_call 43
                       refine (HAMJ.out _ (by go_grown)).mono ?_
                       rintro e w5 ⟨rfl, hb5⟩
                       have hbA : Below wr.heap.size wr w5 := Below.trans (by go_grown) (hb5.mono (by first | exact Nat.le_refl _ | (simp; done) | (simp; omega)))))
                have HOV7 := Lib.hid (HO.out.kept hbA)
                have HB7 := Lib.hid (HB.out.trans (hbA.mono hBz))
                clear hbA hb5
                go_wp2_with fail
                go_roundw
                case rel => exact ⟨j + 1, by omega, by go_num, by rw [HT.out]; exact HOV7.out, HB7.out⟩
                case measure => simp [intOf]; omega
            · have hcv : keepB 12 hb0 = true := by cases hb0 <;> rfl
              have HT := Lib.hid HTK.out
              rw [show (keepP 12 how names qs) (zl, zf) = true from HCV.out.trans hcv] at HT
              rw [if_pos rfl] at HT
              clear hcv
              go_wp2_with fail
              rw [show wr = wr.drewN 0 from rfl]
              go_quiet (fail)
              have HB5 := Lib.hid (below_drewN (Below.refl wr.heap.size wr) nq)
              have q0 := cell_below HB5.out (Nat.le_refl _) q0
              have q1 := cell_below HB5.out (Nat.le_refl _) q1
              have hbW5 := HB.out.trans (HB5.out.mono hBz)
              obtain ⟨zs0, hz0s, hown0, hzok0⟩ := HO.out.kept HB5.out
              rw [← HQL.out] at hown0
              have HZ0 := Lib.hid hz0s
              have HW0 := Lib.hid hown0
              have HK0 := Lib.hid hzok0
              have HBW5 := Lib.hid hbW5
              have hzw : w2.heap.size ≤ (wr.drewN nq).heap.size := hbW5.size
              have hzwr : wr.heap.size ≤ (wr.drewN nq).heap.size := HB5.out.size
              clear hbW5 hz0s hown0 hzok0
              go_wp2_with (at_builtin
                           refine wpList_append_own_at _ rfl (.tmp 49) (.tmp 54) _ rfl w2.heap.size 50 i0 _ 2 32 Tryz.underlying27 hi hz0 hz1 hz2 rfl (by decide) u10 ql (zs0.flatMap zenc) rfl (World.ownsRow.alloc HW0.out _) ⟨(wr.drewN nq).heap.size, 0, none⟩ 1 1 [.slice a2 n2 c2, .float .f64 zf] rfl rfl (World.news_of_block (heap_new (wr.drewN nq) _)) (by intro u hu; simp at hu; rcases hu with rfl | rfl <;> rfl) (by unfold maxLen; omega) (by omega) (by simp; omega) ?_
                           intro v' w7 hown' hgrow hnil hat
                           have hbC : Below (wr.drewN nq).heap.size (wr.drewN nq) ((wr.drewN nq).alloc (.cells #[.slice a2 n2 c2, .float .f64 zf] 50)) := (Below.refl _ _).alloc (Nat.le_refl _) _
                           have hov' : OV w7 w2.heap.size v' (((ps.take j).filter (keepP 12 how names qs)) ++ [(zl, zf)]) := OV.appended (v' := v') (w' := w7) (z := (.slice a2 n2 c2, zl, zf)) HZ0.out (fun z hz => (HK0.out z hz).below hbC (Nat.le_refl _))
                             (((ZOk.fresh (z := (.slice a2 n2 c2, zl, zf)) HSZ.out (fun q hq => (HW0.out.lt q hq).1)).below HBW5.out (Nat.le_refl _)).below hbC (Nat.le_refl _)) (by rw [← HQL.out]; exact hown') hgrow hat
                           have HOV7 := Lib.hid hov'
                           have HB7 := Lib.hid ((HBW5.out.trans (hbC.mono hzw)).grown hgrow (by simp; omega) (fun q hq => (HW0.out.lt q hq).1))
                           clear hown' hgrow hnil hat hov' hbC)
              go_wp2_with fail
              go_roundw
              case rel => exact ⟨j + 1, by omega, by go_num, by rw [HT.out]; exact HOV7.out, HB7.out⟩
              case measure => simp [intOf]; omega
            · cases hb0 with
              | true =>
                have HT := Lib.hid HTK.out
                rw [show (keepP 13 how names qs) (zl, zf) = false from HCV.out] at HT
                rw [if_neg (by decide), List.append_nil] at HT
                go_wp2_with fail
                have hbA : Below wr.heap.size wr wr := Below.refl _ _
                have hsA := hbA.size
                go_region_held3 (fun w' => w'.cell? ⟨bg, 0, none⟩ = some (.int .i64 how) ∧ w'.cell? ⟨bg, 1, none⟩ = some (.slice an nn cn) ∧ w'.cell? ⟨b, off + j * 2, none⟩ = some (.slice a2 n2 c2))
                  (exact ⟨cell_below (B := wr.heap.size) (by go_grown) (Nat.le_refl _) g0, cell_below (B := wr.heap.size) (by go_grown) (Nat.le_refl _) g1, cell_below (B := wr.heap.size) (by go_grown) (Nat.le_refl _) q0⟩)
                  (first
                    | (go_at_call 43
                       refine (HAMJ.out _ (by go_grown)).mono ?_
                       rintro e w5 ⟨rfl, hb5⟩
                       have hbA : Below wr.heap.size wr w5 := Below.trans (by go_grown) (hb5.mono (by first | exact Nat.le_refl _ | (simp; done) | (simp; omega)))))
                have HOV7 := Lib.hid (HO.out.kept hbA)
                have HB7 := Lib.hid (HB.out.trans (hbA.mono hBz))
                clear hbA hb5
                go_wp2_with fail
                go_roundw
                case rel => exact ⟨j + 1, by omega, by go_num, by rw [HT.out]; exact HOV7.out, HB7.out⟩
                case measure => simp [intOf]; omega
              | false =>
                have HT := Lib.hid HTK.out
                rw [show (keepP 13 how names qs) (zl, zf) = true from HCV.out] at HT
                rw [if_pos rfl] at HT
                go_wp2_with fail
                have hbA : Below wr.heap.size wr wr := Below.refl _ _
                have hsA := hbA.size
                go_region_held3 (fun w' => w'.cell? ⟨bg, 0, none⟩ = some (.int .i64 how) ∧ w'.cell? ⟨bg, 1, none⟩ = some (.slice an nn cn) ∧ w'.cell? ⟨b, off + j * 2, none⟩ = some (.slice a2 n2 c2))
                  (exact ⟨cell_below (B := wr.heap.size) (by go_grown) (Nat.le_refl _) g0, cell_below (B := wr.heap.size) (by go_grown) (Nat.le_refl _) g1, cell_below (B := wr.heap.size) (by go_grown) (Nat.le_refl _) q0⟩)
                  (first
                    | (go_at_call 43
                       refine (HAMJ.out _ (by go_grown)).mono ?_
                       rintro e w5 ⟨rfl, hb5⟩
                       have hbA : Below wr.heap.size wr w5 := Below.trans (by go_grown) (hb5.mono (by first | exact Nat.le_refl _ | (simp; done) | (simp; omega)))))
                have HB5 := Lib.hid (hbA)
                have q0 := cell_below HB5.out (Nat.le_refl _) q0
                have q1 := cell_below HB5.out (Nat.le_refl _) q1
                have hbW5 := HB.out.trans (HB5.out.mono hBz)
                obtain ⟨zs0, hz0s, hown0, hzok0⟩ := HO.out.kept HB5.out
                rw [← HQL.out] at hown0
                have HZ0 := Lib.hid hz0s
                have HW0 := Lib.hid hown0
                have HK0 := Lib.hid hzok0
                have HBW5 := Lib.hid hbW5
                have hzw : w2.heap.size ≤ w5.heap.size := hbW5.size
                have hzwr : wr.heap.size ≤ w5.heap.size := HB5.out.size
                clear hbW5 hz0s hown0 hzok0
                go_wp2_with (at_builtin
                             refine wpList_append_own_at _ rfl (.tmp 49) (.tmp 54) _ rfl w2.heap.size 50 i0 _ 2 32 Tryz.underlying27 hi hz0 hz1 hz2 rfl (by decide) u10 ql (zs0.flatMap zenc) rfl (World.ownsRow.alloc HW0.out _) ⟨w5.heap.size, 0, none⟩ 1 1 [.slice a2 n2 c2, .float .f64 zf] rfl rfl (World.news_of_block (heap_new w5 _)) (by intro u hu; simp at hu; rcases hu with rfl | rfl <;> rfl) (by unfold maxLen; omega) (by omega) (by simp; omega) ?_
                             intro v' w7 hown' hgrow hnil hat
                             have hbC : Below w5.heap.size w5 (w5.alloc (.cells #[.slice a2 n2 c2, .float .f64 zf] 50)) := (Below.refl _ _).alloc (Nat.le_refl _) _
                             have hov' : OV w7 w2.heap.size v' (((ps.take j).filter (keepP 13 how names qs)) ++ [(zl, zf)]) := OV.appended (v' := v') (w' := w7) (z := (.slice a2 n2 c2, zl, zf)) HZ0.out (fun z hz => (HK0.out z hz).below hbC (Nat.le_refl _))
                               (((ZOk.fresh (z := (.slice a2 n2 c2, zl, zf)) HSZ.out (fun q hq => (HW0.out.lt q hq).1)).below HBW5.out (Nat.le_refl _)).below hbC (Nat.le_refl _)) (by rw [← HQL.out]; exact hown') hgrow hat
                             have HOV7 := Lib.hid hov'
                             have HB7 := Lib.hid ((HBW5.out.trans (hbC.mono hzw)).grown hgrow (by simp; omega) (fun q hq => (HW0.out.lt q hq).1))
                             clear hown' hgrow hnil hat hov' hbC)
                go_wp2_with fail
                go_roundw
                case rel => exact ⟨j + 1, by omega, by go_num, by rw [HT.out]; exact HOV7.out, HB7.out⟩
                case measure => simp [intOf]; omega
            · have hcv : keepB 14 hb0 = true := by cases hb0 <;> rfl
              have HT := Lib.hid HTK.out
              rw [show (keepP 14 how names qs) (zl, zf) = true from HCV.out.trans hcv] at HT
              rw [if_pos rfl] at HT
              clear hcv
              go_wp2_with fail
              rw [show wr = wr.drewN 0 from rfl]
              go_quiet (fail)
              have HB5 := Lib.hid (below_drewN (Below.refl wr.heap.size wr) nq)
              have q0 := cell_below HB5.out (Nat.le_refl _) q0
              have q1 := cell_below HB5.out (Nat.le_refl _) q1
              have hbW5 := HB.out.trans (HB5.out.mono hBz)
              obtain ⟨zs0, hz0s, hown0, hzok0⟩ := HO.out.kept HB5.out
              rw [← HQL.out] at hown0
              have HZ0 := Lib.hid hz0s
              have HW0 := Lib.hid hown0
              have HK0 := Lib.hid hzok0
              have HBW5 := Lib.hid hbW5
              have hzw : w2.heap.size ≤ (wr.drewN nq).heap.size := hbW5.size
              have hzwr : wr.heap.size ≤ (wr.drewN nq).heap.size := HB5.out.size
              clear hbW5 hz0s hown0 hzok0
              go_wp2_with (at_builtin
                           refine wpList_append_own_at _ rfl (.tmp 49) (.tmp 54) _ rfl w2.heap.size 50 i0 _ 2 32 Tryz.underlying27 hi hz0 hz1 hz2 rfl (by decide) u10 ql (zs0.flatMap zenc) rfl (World.ownsRow.alloc HW0.out _) ⟨(wr.drewN nq).heap.size, 0, none⟩ 1 1 [.slice a2 n2 c2, .float .f64 zf] rfl rfl (World.news_of_block (heap_new (wr.drewN nq) _)) (by intro u hu; simp at hu; rcases hu with rfl | rfl <;> rfl) (by unfold maxLen; omega) (by omega) (by simp; omega) ?_
                           intro v' w7 hown' hgrow hnil hat
                           have hbC : Below (wr.drewN nq).heap.size (wr.drewN nq) ((wr.drewN nq).alloc (.cells #[.slice a2 n2 c2, .float .f64 zf] 50)) := (Below.refl _ _).alloc (Nat.le_refl _) _
                           have hov' : OV w7 w2.heap.size v' (((ps.take j).filter (keepP 14 how names qs)) ++ [(zl, zf)]) := OV.appended (v' := v') (w' := w7) (z := (.slice a2 n2 c2, zl, zf)) HZ0.out (fun z hz => (HK0.out z hz).below hbC (Nat.le_refl _))
                             (((ZOk.fresh (z := (.slice a2 n2 c2, zl, zf)) HSZ.out (fun q hq => (HW0.out.lt q hq).1)).below HBW5.out (Nat.le_refl _)).below hbC (Nat.le_refl _)) (by rw [← HQL.out]; exact hown') hgrow hat
                           have HOV7 := Lib.hid hov'
                           have HB7 := Lib.hid ((HBW5.out.trans (hbC.mono hzw)).grown hgrow (by simp; omega) (fun q hq => (HW0.out.lt q hq).1))
                           clear hown' hgrow hnil hat hov' hbC)
              go_wp2_with fail
              go_roundw
              case rel => exact ⟨j + 1, by omega, by go_num, by rw [HT.out]; exact HOV7.out, HB7.out⟩
              case measure => simp [intOf]; omega
          · have hltz : ¬ (j : Int) < (NA : Int) := by omega
            obtain rfl : j = NA := by omega
            have HOVE := Lib.hid (show OV wr w2.heap.size u10 (ps.filter (keepP op how names qs)) by
              have h1 := HO.out
              rwa [List.take_of_length_le (by have := HLA.out; omega)] at h1)
            have HBE := Lib.hid HB.out
            clear HO HB hltz hlt hj
            go_wp2_with fail
            go_loopw [10, 12] (fun out i wr => ∃ (j : Nat), j ≤ NB ∧ i = .int .i64 j ∧ Hid (OV wr w2.heap.size out (ps.filter (keepP op how names qs) ++ (qs.take j).filter (addP op how names ps))) ∧ Hid (Below w2.heap.size w2 wr)) (fun _ i _ => NB - (intOf i).toNat)
            case atStart => exact ⟨0, Nat.zero_le _, rfl, (show OV wr w2.heap.size u10 (ps.filter (keepP op how names qs) ++ (qs.take 0).filter (addP op how names ps)) by simpa using HOVE.out), HBE.out⟩
            case round =>
              obtain ⟨j, hj, rfl, HO, HB⟩ := hrel
              have hBz := HB.out.size
              have h00 : (0 : Int) ≤ (j : Int) := by omega
              by_cases hlt : j < NB
              · have hltz : (j : Int) < (NB : Int) := by omega
                have hjz : j < zsb.length := by have := HNB.out; omega
                obtain ⟨b, off, rfl, hd⟩ := HCB.out j hjz
                have hbw : Below w.heap.size w wr := HBW.out.trans (HB.out.mono HBW.out.size)
                obtain ⟨z, hzj⟩ : ∃ z, z = zsb[j] := ⟨_, rfl⟩
                have hzm : z ∈ zsb := by rw [hzj]; exact List.getElem_mem hjz
                rw [← hzj] at hd
                have hslz0 := HALB.out z hzm
                have hjp : j < qs.length := by have := HLB.out; omega
                have hpj : qs[j] = z.2 := by
                  rw [hzj]
                  have h1 := HZB.out
                  subst h1
                  rw [List.getElem_map]
                have hgl : z.2.1.length ≤ 1000 := HPB1.out z.2 (by rw [← hpj]; exact List.getElem_mem _)
                obtain ⟨lv, zl, zf⟩ := z
                have q0 : wr.cell? ⟨b, off + j * 2, none⟩ = some lv := cell_below hbw (Nat.le_refl _) (hd 0 _ rfl)
                have q1 : wr.cell? ⟨b, off + j * 2 + 1, none⟩ = some (.float .f64 zf) := cell_below hbw (Nat.le_refl _) (hd 1 _ rfl)
                obtain ⟨a2, n2, c2, rfl⟩ : ∃ a2 n2 c2, lv = .slice a2 n2 c2 := by
                  obtain ⟨a2, c2, e, -⟩ := hslz0
                  exact ⟨a2, _, c2, e⟩
                have g0 := cell_below HB.out (Nat.le_refl _) GW0.out
                have g1 := cell_below HB.out (Nat.le_refl _) GW1.out
                have HAMJ := Lib.hid (fun w' (hb : Below wr.heap.size wr w') => HAMA.out (.slice a2 n2 c2) zl w' (hbw.trans (hb.mono hbw.size)) (hslz0.below (hbw.trans (hb.mono hbw.size)) (Nat.le_refl _)) hgl)
                obtain ⟨hb0, hhb0⟩ : ∃ b, b = hasSg (sgP how names) ps (signL how names zl) := ⟨_, rfl⟩
                simp only [← hhb0] at HAMJ
                have HTK := Lib.hid (take_filter (addP op how names ps) qs j (zl, zf) hjp hpj)
                have HCV := Lib.hid (show (addP op how names ps) (zl, zf) = addB op hb0 by rw [hhb0]; rfl)
                have HSZ := Lib.hid (hslz0.below HBW.out (Nat.le_refl _))
                have hql : (ps.filter (keepP op how names qs) ++ (qs.take j).filter (addP op how names ps)).length ≤ 600 := by have h1 := filter_le (keepP op how names qs) ps ps.length 300 HPA3.out; rw [List.take_length] at h1; have h2 := filter_le (addP op how names ps) qs j 300 HPB3.out; rw [List.length_append]; omega
                obtain ⟨ql, hqll⟩ : ∃ n, n = (ps.filter (keepP op how names qs) ++ (qs.take j).filter (addP op how names ps)).length := ⟨_, rfl⟩
                rw [← hqll] at hql
                have HQL := Lib.hid hqll
                clear hd hzj hzm hslz0 hbw hgl hhb0 hjp hpj hqll
                rcases HOP.out with rfl | rfl | rfl | rfl
                · have hcv : addB 11 hb0 = false := by cases hb0 <;> rfl
                  have HT := Lib.hid HTK.out
                  rw [show (addP 11 how names ps) (zl, zf) = false from HCV.out.trans hcv] at HT
                  rw [if_neg (by decide), List.append_nil] at HT
                  clear hcv
                  go_wp2_with fail
                  have c1 : ((11 : Int) == 12) = false := rfl
                  have c2 : ((11 : Int) == 14) = false := rfl
                  rw [show wr = wr.drewN 0 from rfl]
                  go_big_quiet (fail)
                  have HOV7 := Lib.hid (HO.out.kept (below_drewN (Below.refl wr.heap.size wr) nq))
                  have HB7 := Lib.hid (below_drewN HB.out nq)
                  go_wp2_with fail
                  go_roundw
                  case rel => exact ⟨j + 1, by omega, by go_num, by rw [HT.out]; exact HOV7.out, HB7.out⟩
                  case measure => simp [intOf]; omega
                · cases hb0 with
                  | true =>
                    have HT := Lib.hid HTK.out
                    rw [show (addP 12 how names ps) (zl, zf) = false from HCV.out] at HT
                    rw [if_neg (by decide), List.append_nil] at HT
                    go_wp2_with fail
                    refine wp_region_held_drew (S := fun w' => w'.cell? ⟨bg, 0, none⟩ = some (.int .i64 how) ∧ w'.cell? ⟨bg, 1, none⟩ = some (.slice an nn cn) ∧ w'.cell? ⟨b, off + j * 2, none⟩ = some (.slice a2 n2 c2)) (by kernel_rfl) ⟨g0, g1, q0⟩ (fun hHeld => ?_)
                    refine wpAnyH_take (i := 0) (oi := ?oiA0) (v := ?vvA0) ?hhA0 (by kernel_rfl) (by kernel_rfl) (by kernel_rfl) ?qqA0 (Or.inl ⟨?wdA0, ?yyA0⟩) ⟨g0, g1, q0⟩ ?restA0
                    case hhA0 => simp only [List.getElem?_toArray, List.getElem?_cons_succ, List.getElem?_cons_zero]; try rfl
                    case qqA0 => exact fun _ _ _ h => h
                    case wdA0 => rfl
                    case yyA0 => (intro w hSw; obtain ⟨s0, s1, s2⟩ := hSw; go_simp; try with_reducible rfl)
                    try simp only [Act.put, List.setIfInBounds_toArray, List.set_cons_zero, List.set_cons_succ]
                    refine wpAnyH_take (i := 1) (oi := ?oiA1) (v := ?vvA1) ?hhA1 (by kernel_rfl) (by kernel_rfl) (by kernel_rfl) ?qqA1 (Or.inl ⟨?wdA1, ?yyA1⟩) ⟨g0, g1, q0⟩ ?restA1
                    case hhA1 => simp only [List.getElem?_toArray, List.getElem?_cons_succ, List.getElem?_cons_zero]; try rfl
                    case qqA1 => exact fun _ _ _ h => h
                    case wdA1 => rfl
                    case yyA1 => (intro w hSw; obtain ⟨s0, s1, s2⟩ := hSw; go_simp; try with_reducible rfl)
                    try simp only [Act.put, List.setIfInBounds_toArray, List.set_cons_zero, List.set_cons_succ]
                    refine wpAnyH_take (i := 2) (oi := ?oiA2) (v := ?vvA2) ?hhA2 (by kernel_rfl) (by kernel_rfl) (by kernel_rfl) ?qqA2 (Or.inl ⟨?wdA2, ?yyA2⟩) ⟨g0, g1, q0⟩ ?restA2
                    case hhA2 => simp only [List.getElem?_toArray, List.getElem?_cons_succ, List.getElem?_cons_zero]; try rfl
                    case qqA2 => exact fun _ _ _ h => h
                    case wdA2 => rfl
                    case yyA2 => (intro w hSw; obtain ⟨s0, s1, s2⟩ := hSw; go_simp; try with_reducible rfl)
                    try simp only [Act.put, List.setIfInBounds_toArray, List.set_cons_zero, List.set_cons_succ]
                    refine wpAnyH_take (i := 3) (oi := ?oiA3) (v := undef) ?hhA3 (by kernel_rfl) (by kernel_rfl) (by kernel_rfl) ?qqA3 (Or.inr ⟨?wdA3, rfl⟩) ⟨g0, g1, q0⟩ ?restA3
                    case hhA3 => simp only [List.getElem?_toArray, List.getElem?_cons_succ, List.getElem?_cons_zero]; try rfl
                    case qqA3 => exact fun _ _ _ h => h
                    case wdA3 => rfl
                    try simp only [Act.put, List.setIfInBounds_toArray, List.set_cons_zero, List.set_cons_succ]
                    refine wpAnyH_take (i := 4) (oi := ?oiA4) (v := undef) ?hhA4 (by kernel_rfl) (by kernel_rfl) (by kernel_rfl) ?qqA4 (Or.inr ⟨?wdA4, rfl⟩) ⟨g0, g1, q0⟩ ?restA4
                    case hhA4 => simp only [List.getElem?_toArray, List.getElem?_cons_succ, List.getElem?_cons_zero]; try rfl
                    case qqA4 => exact fun _ _ _ h => h
                    case wdA4 => rfl
                    try simp only [Act.put, List.setIfInBounds_toArray, List.set_cons_zero, List.set_cons_succ]
                    refine wpAnyH_take (i := 5) (oi := ?oiA5) (v := ?vvA5) ?hhA5 (by kernel_rfl) (by kernel_rfl) (by kernel_rfl) ?qqA5 (Or.inl ⟨?wdA5, ?yyA5⟩) ⟨g0, g1, q0⟩ ?restA5
                    case hhA5 => simp only [List.getElem?_toArray, List.getElem?_cons_succ, List.getElem?_cons_zero]; try rfl
                    case qqA5 => exact fun _ _ _ h => h
                    case wdA5 => rfl
                    case yyA5 => (intro w hSw; obtain ⟨s0, s1, s2⟩ := hSw; go_simp; try with_reducible rfl)
                    try simp only [Act.put, List.setIfInBounds_toArray, List.set_cons_zero, List.set_cons_succ]
                    refine wpAnyH_take (i := 6) (oi := ?oiA6) (v := ?vvA6) ?hhA6 (by kernel_rfl) (by kernel_rfl) (by kernel_rfl) ?qqA6 (Or.inl ⟨?wdA6, ?yyA6⟩) ⟨g0, g1, q0⟩ ?restA6
                    case hhA6 => simp only [List.getElem?_toArray, List.getElem?_cons_succ, List.getElem?_cons_zero]; try rfl
                    case qqA6 => exact fun _ _ _ h => h
                    case wdA6 => rfl
                    case yyA6 => (intro w hSw; obtain ⟨s0, s1, s2⟩ := hSw; go_simp; try with_reducible rfl)
                    try simp only [Act.put, List.setIfInBounds_toArray, List.set_cons_zero, List.set_cons_succ]
                    refine wpAnyH_take (i := 7) (oi := ?oiA7) (v := ?vvA7) ?hhA7 (by kernel_rfl) (by kernel_rfl) (by kernel_rfl) ?qqA7 (Or.inl ⟨?wdA7, ?yyA7⟩) ⟨g0, g1, q0⟩ ?restA7
                    case hhA7 => simp only [List.getElem?_toArray, List.getElem?_cons_succ, List.getElem?_cons_zero]; try rfl
                    case qqA7 => exact fun _ _ _ h => h
                    case wdA7 => rfl
                    case yyA7 => (intro w hSw; obtain ⟨s0, s1, s2⟩ := hSw; go_simp; try with_reducible rfl)
                    try simp only [Act.put, List.setIfInBounds_toArray, List.set_cons_zero, List.set_cons_succ]
                    refine wpAnyH_take (i := 8) (oi := ?oiA8) (v := ?vvA8) ?hhA8 (by kernel_rfl) (by kernel_rfl) (by kernel_rfl) ?qqA8 (Or.inl ⟨?wdA8, ?yyA8⟩) ⟨g0, g1, q0⟩ ?restA8
                    case hhA8 => simp only [List.getElem?_toArray, List.getElem?_cons_succ, List.getElem?_cons_zero]; try rfl
                    case qqA8 => exact fun _ _ _ h => h
                    case wdA8 => rfl
                    case yyA8 => (intro w hSw; obtain ⟨s0, s1, s2⟩ := hSw; go_simp; try with_reducible rfl)
                    try simp only [Act.put, List.setIfInBounds_toArray, List.set_cons_zero, List.set_cons_succ]
                    refine wpAnyH_take (i := 9) (oi := ?oiA9) (v := ?vvA9) ?hhA9 (by kernel_rfl) (by kernel_rfl) (by kernel_rfl) ?qqA9 (Or.inl ⟨?wdA9, ?yyA9⟩) ⟨g0, g1, q0⟩ ?restA9
                    case hhA9 => simp only [List.getElem?_toArray, List.getElem?_cons_succ, List.getElem?_cons_zero]; try rfl
                    case qqA9 => exact fun _ _ _ h => h
                    case wdA9 => rfl
                    case yyA9 => (intro w hSw; obtain ⟨s0, s1, s2⟩ := hSw; go_simp; try with_reducible rfl)
                    try simp only [Act.put, List.setIfInBounds_toArray, List.set_cons_zero, List.set_cons_succ]
                    refine wpAnyH_take (i := 10) (oi := ?oiA10) (v := ?vvA10) ?hhA10 (by kernel_rfl) (by kernel_rfl) (by kernel_rfl) ?qqA10 (Or.inl ⟨?wdA10, ?yyA10⟩) ⟨g0, g1, q0⟩ ?restA10
                    case hhA10 => simp only [List.getElem?_toArray, List.getElem?_cons_succ, List.getElem?_cons_zero]; try rfl
                    case qqA10 => exact fun _ _ _ h => h
                    case wdA10 => rfl
                    case yyA10 => (intro w hSw; obtain ⟨s0, s1, s2⟩ := hSw; go_simp; try with_reducible rfl)
                    try simp only [Act.put, List.setIfInBounds_toArray, List.set_cons_zero, List.set_cons_succ]
                    refine wpAnyH_take (i := 11) (oi := ?oiA11) (v := ?vvA11) ?hhA11 (by kernel_rfl) (by kernel_rfl) (by kernel_rfl) ?qqA11 (Or.inl ⟨?wdA11, ?yyA11⟩) ⟨g0, g1, q0⟩ ?restA11
                    case hhA11 => simp only [List.getElem?_toArray, List.getElem?_cons_succ, List.getElem?_cons_zero]; try rfl
                    case qqA11 => exact fun _ _ _ h => h
                    case wdA11 => rfl
                    case yyA11 => (intro w hSw; obtain ⟨s0, s1, s2⟩ := hSw; go_simp; try with_reducible rfl)
                    try simp only [Act.put, List.setIfInBounds_toArray, List.set_cons_zero, List.set_cons_succ]
                    refine wpAnyH_take (i := 12) (oi := ?oiA12) (v := ?vvA12) ?hhA12 (by kernel_rfl) (by kernel_rfl) (by kernel_rfl) ?qqA12 (Or.inl ⟨?wdA12, ?yyA12⟩) ⟨g0, g1, q0⟩ ?restA12
                    case hhA12 => simp only [List.getElem?_toArray, List.getElem?_cons_succ, List.getElem?_cons_zero]; try rfl
                    case qqA12 => exact fun _ _ _ h => h
                    case wdA12 => rfl
                    case yyA12 => (intro w hSw; obtain ⟨s0, s1, s2⟩ := hSw; go_simp; try with_reducible rfl)
                    try simp only [Act.put, List.setIfInBounds_toArray, List.set_cons_zero, List.set_cons_succ]
                    refine wpAnyH_take (i := 13) (oi := ?oiA13) (v := ?vvA13) ?hhA13 (by kernel_rfl) (by kernel_rfl) (by kernel_rfl) ?qqA13 (Or.inl ⟨?wdA13, ?yyA13⟩) ⟨g0, g1, q0⟩ ?restA13
                    case hhA13 => simp only [List.getElem?_toArray, List.getElem?_cons_succ, List.getElem?_cons_zero]; try rfl
                    case qqA13 => exact fun _ _ _ h => h
                    case wdA13 => rfl
                    case yyA13 => (intro w hSw; obtain ⟨s0, s1, s2⟩ := hSw; go_simp; try with_reducible rfl)
                    try simp only [Act.put, List.setIfInBounds_toArray, List.set_cons_zero, List.set_cons_succ]
                    refine wpAnyH_ready (rs := [14]) (by kernel_rfl) (by simp) ?_
                    refine AllReadyH.cons (o := ?oiA14) ?hhA14 (fun K hK => ?moreA14) AllReadyH.nil
                    case hhA14 => simp only [List.getElem?_toArray, List.getElem?_cons_succ, List.getElem?_cons_zero]; try rfl
                    go_simp
                    go_at_call 43
                    with_reducible refine (HAMJ.out _ (by go_grown)).mono ?_
                    rintro e w5 ⟨rfl, hb5⟩
                    have hbA : Below wr.heap.size wr w5 := Below.trans (by go_grown) (hb5.mono (by first | exact Nat.le_refl _ | (simp; done) | (simp; omega)))
                    go_wp2_with fail
                    have kc0 := cell_below hbA (Nat.le_refl _) g0
                    have kc1 := cell_below hbA (Nat.le_refl _) g1
                    have kc2 := cell_below hbA (Nat.le_refl _) q0
                    refine hK.out _ _ ⟨kc0, kc1, kc2⟩ (fun hHeld => ?_)
                    clear hK K
                    try simp only [Act.put, List.setIfInBounds_toArray, List.set_cons_zero, List.set_cons_succ]
                    refine wpAnyH_take (i := 15) (oi := ?oiA15) (v := ?vvA15) ?hhA15 (by kernel_rfl) (by kernel_rfl) (by kernel_rfl) ?qqA15 (Or.inl ⟨?wdA15, ?yyA15⟩) ⟨kc0, kc1, kc2⟩ ?restA15
                    case hhA15 => simp only [List.getElem?_toArray, List.getElem?_cons_succ, List.getElem?_cons_zero]; try rfl
                    case qqA15 => exact fun _ _ _ h => h
                    case wdA15 => rfl
                    case yyA15 => (intro w hSw; obtain ⟨s0, s1, s2⟩ := hSw; go_simp; try with_reducible rfl)
                    try simp only [Act.put, List.setIfInBounds_toArray, List.set_cons_zero, List.set_cons_succ]
                    refine wpAnyH_take (i := 16) (oi := ?oiA16) (v := ?vvA16) ?hhA16 (by kernel_rfl) (by kernel_rfl) (by kernel_rfl) ?qqA16 (Or.inl ⟨?wdA16, ?yyA16⟩) ⟨kc0, kc1, kc2⟩ ?restA16
                    case hhA16 => simp only [List.getElem?_toArray, List.getElem?_cons_succ, List.getElem?_cons_zero]; try rfl
                    case qqA16 => exact fun _ _ _ h => h
                    case wdA16 => rfl
                    case yyA16 => (intro w hSw; obtain ⟨s0, s1, s2⟩ := hSw; go_simp; try with_reducible rfl)
                    try simp only [Act.put, List.setIfInBounds_toArray, List.set_cons_zero, List.set_cons_succ]
                    refine wpAnyH_done (by kernel_rfl) ?_ _
                    have HOV7 := Lib.hid (HO.out.kept hbA)
                    have HB7 := Lib.hid (HB.out.trans (hbA.mono hBz))
                    clear hbA hb5
                    go_wp2_with fail
                    go_roundw
                    case rel => exact ⟨j + 1, by omega, by go_num, by rw [HT.out]; exact HOV7.out, HB7.out⟩
                    case measure => simp [intOf]; omega
                  | false =>
                    have HT := Lib.hid HTK.out
                    rw [show (addP 12 how names ps) (zl, zf) = true from HCV.out] at HT
                    rw [if_pos rfl] at HT
                    go_wp2_with fail
                    refine wp_region_held_drew (S := fun w' => w'.cell? ⟨bg, 0, none⟩ = some (.int .i64 how) ∧ w'.cell? ⟨bg, 1, none⟩ = some (.slice an nn cn) ∧ w'.cell? ⟨b, off + j * 2, none⟩ = some (.slice a2 n2 c2)) (by kernel_rfl) ⟨g0, g1, q0⟩ (fun hHeld => ?_)
                    refine wpAnyH_take (i := 0) (oi := ?oiB0) (v := ?vvB0) ?hhB0 (by kernel_rfl) (by kernel_rfl) (by kernel_rfl) ?qqB0 (Or.inl ⟨?wdB0, ?yyB0⟩) ⟨g0, g1, q0⟩ ?restB0
                    case hhB0 => simp only [List.getElem?_toArray, List.getElem?_cons_succ, List.getElem?_cons_zero]; try rfl
                    case qqB0 => exact fun _ _ _ h => h
                    case wdB0 => rfl
                    case yyB0 => (intro w hSw; obtain ⟨s0, s1, s2⟩ := hSw; go_simp; try with_reducible rfl)
                    try simp only [Act.put, List.setIfInBounds_toArray, List.set_cons_zero, List.set_cons_succ]
                    refine wpAnyH_take (i := 1) (oi := ?oiB1) (v := ?vvB1) ?hhB1 (by kernel_rfl) (by kernel_rfl) (by kernel_rfl) ?qqB1 (Or.inl ⟨?wdB1, ?yyB1⟩) ⟨g0, g1, q0⟩ ?restB1
                    case hhB1 => simp only [List.getElem?_toArray, List.getElem?_cons_succ, List.getElem?_cons_zero]; try rfl
                    case qqB1 => exact fun _ _ _ h => h
                    case wdB1 => rfl
                    case yyB1 => (intro w hSw; obtain ⟨s0, s1, s2⟩ := hSw; go_simp; try with_reducible rfl)
                    try simp only [Act.put, List.setIfInBounds_toArray, List.set_cons_zero, List.set_cons_succ]
                    refine wpAnyH_take (i := 2) (oi := ?oiB2) (v := ?vvB2) ?hhB2 (by kernel_rfl) (by kernel_rfl) (by kernel_rfl) ?qqB2 (Or.inl ⟨?wdB2, ?yyB2⟩) ⟨g0, g1, q0⟩ ?restB2
                    case hhB2 => simp only [List.getElem?_toArray, List.getElem?_cons_succ, List.getElem?_cons_zero]; try rfl
                    case qqB2 => exact fun _ _ _ h => h
                    case wdB2 => rfl
                    case yyB2 => (intro w hSw; obtain ⟨s0, s1, s2⟩ := hSw; go_simp; try with_reducible rfl)
                    try simp only [Act.put, List.setIfInBounds_toArray, List.set_cons_zero, List.set_cons_succ]
                    refine wpAnyH_take (i := 3) (oi := ?oiB3) (v := undef) ?hhB3 (by kernel_rfl) (by kernel_rfl) (by kernel_rfl) ?qqB3 (Or.inr ⟨?wdB3, rfl⟩) ⟨g0, g1, q0⟩ ?restB3
                    case hhB3 => simp only [List.getElem?_toArray, List.getElem?_cons_succ, List.getElem?_cons_zero]; try rfl
                    case qqB3 => exact fun _ _ _ h => h
                    case wdB3 => rfl
                    try simp only [Act.put, List.setIfInBounds_toArray, List.set_cons_zero, List.set_cons_succ]
                    refine wpAnyH_take (i := 4) (oi := ?oiB4) (v := undef) ?hhB4 (by kernel_rfl) (by kernel_rfl) (by kernel_rfl) ?qqB4 (Or.inr ⟨?wdB4, rfl⟩) ⟨g0, g1, q0⟩ ?restB4
                    case hhB4 => simp only [List.getElem?_toArray, List.getElem?_cons_succ, List.getElem?_cons_zero]; try rfl
                    case qqB4 => exact fun _ _ _ h => h
                    case wdB4 => rfl
                    try simp only [Act.put, List.setIfInBounds_toArray, List.set_cons_zero, List.set_cons_succ]
                    refine wpAnyH_take (i := 5) (oi := ?oiB5) (v := ?vvB5) ?hhB5 (by kernel_rfl) (by kernel_rfl) (by kernel_rfl) ?qqB5 (Or.inl ⟨?wdB5, ?yyB5⟩) ⟨g0, g1, q0⟩ ?restB5
                    case hhB5 => simp only [List.getElem?_toArray, List.getElem?_cons_succ, List.getElem?_cons_zero]; try rfl
                    case qqB5 => exact fun _ _ _ h => h
                    case wdB5 => rfl
                    case yyB5 => (intro w hSw; obtain ⟨s0, s1, s2⟩ := hSw; go_simp; try with_reducible rfl)
                    try simp only [Act.put, List.setIfInBounds_toArray, List.set_cons_zero, List.set_cons_succ]
                    refine wpAnyH_take (i := 6) (oi := ?oiB6) (v := ?vvB6) ?hhB6 (by kernel_rfl) (by kernel_rfl) (by kernel_rfl) ?qqB6 (Or.inl ⟨?wdB6, ?yyB6⟩) ⟨g0, g1, q0⟩ ?restB6
                    case hhB6 => simp only [List.getElem?_toArray, List.getElem?_cons_succ, List.getElem?_cons_zero]; try rfl
                    case qqB6 => exact fun _ _ _ h => h
                    case wdB6 => rfl
                    case yyB6 => (intro w hSw; obtain ⟨s0, s1, s2⟩ := hSw; go_simp; try with_reducible rfl)
                    try simp only [Act.put, List.setIfInBounds_toArray, List.set_cons_zero, List.set_cons_succ]
                    refine wpAnyH_take (i := 7) (oi := ?oiB7) (v := ?vvB7) ?hhB7 (by kernel_rfl) (by kernel_rfl) (by kernel_rfl) ?qqB7 (Or.inl ⟨?wdB7, ?yyB7⟩) ⟨g0, g1, q0⟩ ?restB7
                    case hhB7 => simp only [List.getElem?_toArray, List.getElem?_cons_succ, List.getElem?_cons_zero]; try rfl
                    case qqB7 => exact fun _ _ _ h => h
                    case wdB7 => rfl
                    case yyB7 => (intro w hSw; obtain ⟨s0, s1, s2⟩ := hSw; go_simp; try with_reducible rfl)
                    try simp only [Act.put, List.setIfInBounds_toArray, List.set_cons_zero, List.set_cons_succ]
                    refine wpAnyH_take (i := 8) (oi := ?oiB8) (v := ?vvB8) ?hhB8 (by kernel_rfl) (by kernel_rfl) (by kernel_rfl) ?qqB8 (Or.inl ⟨?wdB8, ?yyB8⟩) ⟨g0, g1, q0⟩ ?restB8
                    case hhB8 => simp only [List.getElem?_toArray, List.getElem?_cons_succ, List.getElem?_cons_zero]; try rfl
                    case qqB8 => exact fun _ _ _ h => h
                    case wdB8 => rfl
                    case yyB8 => (intro w hSw; obtain ⟨s0, s1, s2⟩ := hSw; go_simp; try with_reducible rfl)
                    try simp only [Act.put, List.setIfInBounds_toArray, List.set_cons_zero, List.set_cons_succ]
                    refine wpAnyH_take (i := 9) (oi := ?oiB9) (v := ?vvB9) ?hhB9 (by kernel_rfl) (by kernel_rfl) (by kernel_rfl) ?qqB9 (Or.inl ⟨?wdB9, ?yyB9⟩) ⟨g0, g1, q0⟩ ?restB9
                    case hhB9 => simp only [List.getElem?_toArray, List.getElem?_cons_succ, List.getElem?_cons_zero]; try rfl
                    case qqB9 => exact fun _ _ _ h => h
                    case wdB9 => rfl
                    case yyB9 => (intro w hSw; obtain ⟨s0, s1, s2⟩ := hSw; go_simp; try with_reducible rfl)
                    try simp only [Act.put, List.setIfInBounds_toArray, List.set_cons_zero, List.set_cons_succ]
                    refine wpAnyH_take (i := 10) (oi := ?oiB10) (v := ?vvB10) ?hhB10 (by kernel_rfl) (by kernel_rfl) (by kernel_rfl) ?qqB10 (Or.inl ⟨?wdB10, ?yyB10⟩) ⟨g0, g1, q0⟩ ?restB10
                    case hhB10 => simp only [List.getElem?_toArray, List.getElem?_cons_succ, List.getElem?_cons_zero]; try rfl
                    case qqB10 => exact fun _ _ _ h => h
                    case wdB10 => rfl
                    case yyB10 => (intro w hSw; obtain ⟨s0, s1, s2⟩ := hSw; go_simp; try with_reducible rfl)
                    try simp only [Act.put, List.setIfInBounds_toArray, List.set_cons_zero, List.set_cons_succ]
                    refine wpAnyH_take (i := 11) (oi := ?oiB11) (v := ?vvB11) ?hhB11 (by kernel_rfl) (by kernel_rfl) (by kernel_rfl) ?qqB11 (Or.inl ⟨?wdB11, ?yyB11⟩) ⟨g0, g1, q0⟩ ?restB11
                    case hhB11 => simp only [List.getElem?_toArray, List.getElem?_cons_succ, List.getElem?_cons_zero]; try rfl
                    case qqB11 => exact fun _ _ _ h => h
                    case wdB11 => rfl
                    case yyB11 => (intro w hSw; obtain ⟨s0, s1, s2⟩ := hSw; go_simp; try with_reducible rfl)
                    try simp only [Act.put, List.setIfInBounds_toArray, List.set_cons_zero, List.set_cons_succ]
                    refine wpAnyH_take (i := 12) (oi := ?oiB12) (v := ?vvB12) ?hhB12 (by kernel_rfl) (by kernel_rfl) (by kernel_rfl) ?qqB12 (Or.inl ⟨?wdB12, ?yyB12⟩) ⟨g0, g1, q0⟩ ?restB12
                    case hhB12 => simp only [List.getElem?_toArray, List.getElem?_cons_succ, List.getElem?_cons_zero]; try rfl
                    case qqB12 => exact fun _ _ _ h => h
                    case wdB12 => rfl
                    case yyB12 => (intro w hSw; obtain ⟨s0, s1, s2⟩ := hSw; go_simp; try with_reducible rfl)
                    try simp only [Act.put, List.setIfInBounds_toArray, List.set_cons_zero, List.set_cons_succ]
                    refine wpAnyH_take (i := 13) (oi := ?oiB13) (v := ?vvB13) ?hhB13 (by kernel_rfl) (by kernel_rfl) (by kernel_rfl) ?qqB13 (Or.inl ⟨?wdB13, ?yyB13⟩) ⟨g0, g1, q0⟩ ?restB13
                    case hhB13 => simp only [List.getElem?_toArray, List.getElem?_cons_succ, List.getElem?_cons_zero]; try rfl
                    case qqB13 => exact fun _ _ _ h => h
                    case wdB13 => rfl
                    case yyB13 => (intro w hSw; obtain ⟨s0, s1, s2⟩ := hSw; go_simp; try with_reducible rfl)
                    try simp only [Act.put, List.setIfInBounds_toArray, List.set_cons_zero, List.set_cons_succ]
                    refine wpAnyH_ready (rs := [14]) (by kernel_rfl) (by simp) ?_
                    refine AllReadyH.cons (o := ?oiB14) ?hhB14 (fun K hK => ?moreB14) AllReadyH.nil
                    case hhB14 => simp only [List.getElem?_toArray, List.getElem?_cons_succ, List.getElem?_cons_zero]; try rfl
                    go_simp
                    go_at_call 43
                    with_reducible refine (HAMJ.out _ (by go_grown)).mono ?_
                    rintro e w5 ⟨rfl, hb5⟩
                    have hbA : Below wr.heap.size wr w5 := Below.trans (by go_grown) (hb5.mono (by first | exact Nat.le_refl _ | (simp; done) | (simp; omega)))
                    go_wp2_with fail
                    have kc0 := cell_below hbA (Nat.le_refl _) g0
                    have kc1 := cell_below hbA (Nat.le_refl _) g1
                    have kc2 := cell_below hbA (Nat.le_refl _) q0
                    refine hK.out _ _ ⟨kc0, kc1, kc2⟩ (fun hHeld => ?_)
                    clear hK K
                    try simp only [Act.put, List.setIfInBounds_toArray, List.set_cons_zero, List.set_cons_succ]
                    refine wpAnyH_take (i := 15) (oi := ?oiB15) (v := ?vvB15) ?hhB15 (by kernel_rfl) (by kernel_rfl) (by kernel_rfl) ?qqB15 (Or.inl ⟨?wdB15, ?yyB15⟩) ⟨kc0, kc1, kc2⟩ ?restB15
                    case hhB15 => simp only [List.getElem?_toArray, List.getElem?_cons_succ, List.getElem?_cons_zero]; try rfl
                    case qqB15 => exact fun _ _ _ h => h
                    case wdB15 => rfl
                    case yyB15 => (intro w hSw; obtain ⟨s0, s1, s2⟩ := hSw; go_simp; try with_reducible rfl)
                    try simp only [Act.put, List.setIfInBounds_toArray, List.set_cons_zero, List.set_cons_succ]
                    refine wpAnyH_take (i := 16) (oi := ?oiB16) (v := ?vvB16) ?hhB16 (by kernel_rfl) (by kernel_rfl) (by kernel_rfl) ?qqB16 (Or.inl ⟨?wdB16, ?yyB16⟩) ⟨kc0, kc1, kc2⟩ ?restB16
                    case hhB16 => simp only [List.getElem?_toArray, List.getElem?_cons_succ, List.getElem?_cons_zero]; try rfl
                    case qqB16 => exact fun _ _ _ h => h
                    case wdB16 => rfl
                    case yyB16 => (intro w hSw; obtain ⟨s0, s1, s2⟩ := hSw; go_simp; try with_reducible rfl)
                    try simp only [Act.put, List.setIfInBounds_toArray, List.set_cons_zero, List.set_cons_succ]
                    refine wpAnyH_done (by kernel_rfl) ?_ _
                    have HB5 := Lib.hid (hbA)
                    have q0 := cell_below HB5.out (Nat.le_refl _) q0
                    have q1 := cell_below HB5.out (Nat.le_refl _) q1
                    have hbW5 := HB.out.trans (HB5.out.mono hBz)
                    obtain ⟨zs0, hz0s, hown0, hzok0⟩ := HO.out.kept HB5.out
                    rw [← HQL.out] at hown0
                    have HZ0 := Lib.hid hz0s
                    have HW0 := Lib.hid hown0
                    have HK0 := Lib.hid hzok0
                    have HBW5 := Lib.hid hbW5
                    have hzw : w2.heap.size ≤ w5.heap.size := hbW5.size
                    have hzwr : wr.heap.size ≤ w5.heap.size := HB5.out.size
                    clear hbW5 hz0s hown0 hzok0
                    go_wp2_with (at_builtin
                                 refine wpList_append_own_at _ rfl (.tmp 79) (.tmp 84) _ rfl w2.heap.size 50 i0 _ 2 32 Tryz.underlying27 hi hz0 hz1 hz2 rfl (by decide) u10 ql (zs0.flatMap zenc) rfl (World.ownsRow.alloc HW0.out _) ⟨w5.heap.size, 0, none⟩ 1 1 [.slice a2 n2 c2, .float .f64 zf] rfl rfl (World.news_of_block (heap_new w5 _)) (by intro u hu; simp at hu; rcases hu with rfl | rfl <;> rfl) (by unfold maxLen; omega) (by omega) (by simp; omega) ?_
                                 intro v' w7 hown' hgrow hnil hat
                                 have hbC : Below w5.heap.size w5 (w5.alloc (.cells #[.slice a2 n2 c2, .float .f64 zf] 50)) := (Below.refl _ _).alloc (Nat.le_refl _) _
                                 have hov' : OV w7 w2.heap.size v' ((ps.filter (keepP 12 how names qs) ++ (qs.take j).filter (addP 12 how names ps)) ++ [(zl, zf)]) := OV.appended (v' := v') (w' := w7) (z := (.slice a2 n2 c2, zl, zf)) HZ0.out (fun z hz => (HK0.out z hz).below hbC (Nat.le_refl _))
                                   (((ZOk.fresh (z := (.slice a2 n2 c2, zl, zf)) HSZ.out (fun q hq => (HW0.out.lt q hq).1)).below HBW5.out (Nat.le_refl _)).below hbC (Nat.le_refl _)) (by rw [← HQL.out]; exact hown') hgrow hat
                                 have HOV7 := Lib.hid hov'
                                 have HB7 := Lib.hid ((HBW5.out.trans (hbC.mono hzw)).grown hgrow (by simp; omega) (fun q hq => (HW0.out.lt q hq).1))
                                 clear hown' hgrow hnil hat hov' hbC)
                    go_wp2_with fail
                    go_roundw
                    case rel => exact ⟨j + 1, by omega, by go_num, by rw [HT.out, ← List.append_assoc]; exact HOV7.out, HB7.out⟩
                    case measure => simp [intOf]; omega
                · have hcv : addB 13 hb0 = false := by cases hb0 <;> rfl
                  have HT := Lib.hid HTK.out
                  rw [show (addP 13 how names ps) (zl, zf) = false from HCV.out.trans hcv] at HT
                  rw [if_neg (by decide), List.append_nil] at HT
                  clear hcv
                  go_wp2_with fail
                  have c1 : ((13 : Int) == 12) = false := rfl
                  have c2 : ((13 : Int) == 14) = false := rfl
                  rw [show wr = wr.drewN 0 from rfl]
                  go_big_quiet (fail)
                  have HOV7 := Lib.hid (HO.out.kept (below_drewN (Below.refl wr.heap.size wr) nq))
                  have HB7 := Lib.hid (below_drewN HB.out nq)
                  go_wp2_with fail
                  go_roundw
                  case rel => exact ⟨j + 1, by omega, by go_num, by rw [HT.out]; exact HOV7.out, HB7.out⟩
                  case measure => simp [intOf]; omega
                · cases hb0 with
                  | true =>
                    have HT := Lib.hid HTK.out
                    rw [show (addP 14 how names ps) (zl, zf) = false from HCV.out] at HT
                    rw [if_neg (by decide), List.append_nil] at HT
                    go_wp2_with fail
                    have hbA : Below wr.heap.size wr wr := Below.refl _ _
                    have hsA := hbA.size
                    go_region_held3 (fun w' => w'.cell? ⟨bg, 0, none⟩ = some (.int .i64 how) ∧ w'.cell? ⟨bg, 1, none⟩ = some (.slice an nn cn) ∧ w'.cell? ⟨b, off + j * 2, none⟩ = some (.slice a2 n2 c2))
                      (exact ⟨cell_below (B := wr.heap.size) (by go_grown) (Nat.le_refl _) g0, cell_below (B := wr.heap.size) (by go_grown) (Nat.le_refl _) g1, cell_below (B := wr.heap.size) (by go_grown) (Nat.le_refl _) q0⟩)
                      (first
                        | (go_at_call 43
                           refine (HAMJ.out _ (by go_grown)).mono ?_
                           rintro e w5 ⟨rfl, hb5⟩
                           have hbA : Below wr.heap.size wr w5 := Below.trans (by go_grown) (hb5.mono (by first | exact Nat.le_refl _ | (simp; done) | (simp; omega)))))
                    have HOV7 := Lib.hid (HO.out.kept hbA)
                    have HB7 := Lib.hid (HB.out.trans (hbA.mono hBz))
                    clear hbA hb5
                    go_wp2_with fail
                    go_roundw
                    case rel => exact ⟨j + 1, by omega, by go_num, by rw [HT.out]; exact HOV7.out, HB7.out⟩
                    case measure => simp [intOf]; omega
                  | false =>
                    have HT := Lib.hid HTK.out
                    rw [show (addP 14 how names ps) (zl, zf) = true from HCV.out] at HT
                    rw [if_pos rfl] at HT
                    go_wp2_with fail
                    have hbA : Below wr.heap.size wr wr := Below.refl _ _
                    have hsA := hbA.size
                    go_region_held3 (fun w' => w'.cell? ⟨bg, 0, none⟩ = some (.int .i64 how) ∧ w'.cell? ⟨bg, 1, none⟩ = some (.slice an nn cn) ∧ w'.cell? ⟨b, off + j * 2, none⟩ = some (.slice a2 n2 c2))
                      (exact ⟨cell_below (B := wr.heap.size) (by go_grown) (Nat.le_refl _) g0, cell_below (B := wr.heap.size) (by go_grown) (Nat.le_refl _) g1, cell_below (B := wr.heap.size) (by go_grown) (Nat.le_refl _) q0⟩)
                      (first
                        | (go_at_call 43
                           refine (HAMJ.out _ (by go_grown)).mono ?_
                           rintro e w5 ⟨rfl, hb5⟩
                           have hbA : Below wr.heap.size wr w5 := Below.trans (by go_grown) (hb5.mono (by first | exact Nat.le_refl _ | (simp; done) | (simp; omega)))))
                    have HB5 := Lib.hid (hbA)
                    have q0 := cell_below HB5.out (Nat.le_refl _) q0
                    have q1 := cell_below HB5.out (Nat.le_refl _) q1
                    have hbW5 := HB.out.trans (HB5.out.mono hBz)
                    obtain ⟨zs0, hz0s, hown0, hzok0⟩ := HO.out.kept HB5.out
                    rw [← HQL.out] at hown0
                    have HZ0 := Lib.hid hz0s
                    have HW0 := Lib.hid hown0
                    have HK0 := Lib.hid hzok0
                    have HBW5 := Lib.hid hbW5
                    have hzw : w2.heap.size ≤ w5.heap.size := hbW5.size
                    have hzwr : wr.heap.size ≤ w5.heap.size := HB5.out.size
                    clear hbW5 hz0s hown0 hzok0
                    go_wp2_with (at_builtin
                                 refine wpList_append_own_at _ rfl (.tmp 79) (.tmp 84) _ rfl w2.heap.size 50 i0 _ 2 32 Tryz.underlying27 hi hz0 hz1 hz2 rfl (by decide) u10 ql (zs0.flatMap zenc) rfl (World.ownsRow.alloc HW0.out _) ⟨w5.heap.size, 0, none⟩ 1 1 [.slice a2 n2 c2, .float .f64 zf] rfl rfl (World.news_of_block (heap_new w5 _)) (by intro u hu; simp at hu; rcases hu with rfl | rfl <;> rfl) (by unfold maxLen; omega) (by omega) (by simp; omega) ?_
                                 intro v' w7 hown' hgrow hnil hat
                                 have hbC : Below w5.heap.size w5 (w5.alloc (.cells #[.slice a2 n2 c2, .float .f64 zf] 50)) := (Below.refl _ _).alloc (Nat.le_refl _) _
                                 have hov' : OV w7 w2.heap.size v' ((ps.filter (keepP 14 how names qs) ++ (qs.take j).filter (addP 14 how names ps)) ++ [(zl, zf)]) := OV.appended (v' := v') (w' := w7) (z := (.slice a2 n2 c2, zl, zf)) HZ0.out (fun z hz => (HK0.out z hz).below hbC (Nat.le_refl _))
                                   (((ZOk.fresh (z := (.slice a2 n2 c2, zl, zf)) HSZ.out (fun q hq => (HW0.out.lt q hq).1)).below HBW5.out (Nat.le_refl _)).below hbC (Nat.le_refl _)) (by rw [← HQL.out]; exact hown') hgrow hat
                                 have HOV7 := Lib.hid hov'
                                 have HB7 := Lib.hid ((HBW5.out.trans (hbC.mono hzw)).grown hgrow (by simp; omega) (fun q hq => (HW0.out.lt q hq).1))
                                 clear hown' hgrow hnil hat hov' hbC)
                    go_wp2_with fail
                    go_roundw
                    case rel => exact ⟨j + 1, by omega, by go_num, by rw [HT.out, ← List.append_assoc]; exact HOV7.out, HB7.out⟩
                    case measure => simp [intOf]; omega
              · have hltz : ¬ (j : Int) < (NB : Int) := by omega
                obtain rfl : j = NB := by omega
                have hov := HO.out
                rw [List.take_of_length_le (by have := HLB.out; omega)] at hov
                have HNM := Lib.hid (rnormal_any _ _ wr hov.vs (by
                  have h1 := filter_le (keepP op how names qs) ps ps.length 300 HPA3.out; rw [List.take_length] at h1
                  have h2 := filter_le (addP op how names ps) qs qs.length 300 HPB3.out; rw [List.take_length] at h2
                  rw [List.length_append]; omega))
                obtain ⟨a8, c8, rfl, -, -⟩ := hov.slice
                obtain ⟨N8, hN8⟩ : ∃ n, n = (ps.filter (keepP op how names qs) ++ qs.filter (addP op how names ps)).length := ⟨_, rfl⟩
                rw [← hN8] at HNM ⊢
                clear hov HO hN8
                go_wp2_with fail
                refine HNM.out.mono ?_
                rintro e w5 ⟨hb5, hnr⟩
                obtain ⟨v5, n5, rfl⟩ := nr_tuple hnr
                have HNR := Lib.hid hnr
                have HB5 := Lib.hid (HBW.out.trans ((HB.out.trans (hb5.mono hBz)).mono HBW.out.size))
                clear hnr hb5 HNM
                go_wp2_with fail
                go_ret2
                exact ⟨HB5.out, .inr ⟨⟨h1', h2', HC0.out.symm⟩, HNR.out⟩⟩
      · have HC0 := Lib.hid (show chkL how names ≠ 0 by rw [← hck]; exact hc0)
        have hc1 : (ck != 0) = true := by simpa using hc0
        have hc2 : (ck == 0) = false := by simpa using hc0
        clear hc0 hck
        go_enter Tryz.func15, Tryz.ntmps15
        go_wp2_with fail
        rw [← HW1.out, ← HBG.out]
        refine (HCK.out _ HB1.out).mono ?_
        rintro e w2 ⟨rfl, hb2⟩
        have HB2 := Lib.hid (HB1.out.trans (hb2.mono HB1.out.size))
        clear hb2
        go_wp2_with fail
        go_ret2
        exact ⟨HB2.out, .inl ⟨.inr (.inr HC0.out), rfl⟩⟩
end Go.Proofs.YtogjcaakfnfapaaGreatDoor
