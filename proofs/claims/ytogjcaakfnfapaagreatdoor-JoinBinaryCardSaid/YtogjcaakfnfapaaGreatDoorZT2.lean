/- Operators of two vectors: the reference's walk (printed by gen_jr4.py). (Several texts in one file, by merge.py.) -/
import Derived.Test.YtogjcaakfnfapaaGreatDoorZT1
namespace Go.Proofs.YtogjcaakfnfapaaGreatDoor
open Go Go.RowKit
set_option linter.unusedVariables false
set_option linter.unusedSimpArgs false
set_option maxRecDepth 100000
set_option maxHeartbeats 64000000 in
theorem rbin_c1 (op card how : Int) (flag : Bool) (vn vi va vb : Value) (names incl : List ByteArray) (ps qs : List Pt) (w : World) (hva : VS w va ps) (hvb : VS w vb qs) (hn : Sl senc1 w vn names) (hii : Sl senc1 w vi incl)
    (hnl : names.length ≤ 100000) (hpa : ∀ p ∈ ps, PtOk p) (hpb : ∀ p ∈ qs, PtOk p) (hla : ps.length ≤ 300) (hlb : qs.length ≤ 300) (hcd : card = 1) :
    Calls Tryz.prog 10 #[.int .i64 op, .agg #[.int .i64 how, vn, .int .i64 card, vi], .bool flag, va, vb] w fun e w' => Below w.heap.size w w' ∧ BinR op card how names incl flag ps qs e w' := by
  obtain ⟨i0, hi, hz0, hz1, hz2⟩ := info_parts Tryz.infoPt
  obtain ⟨zsa, hza, hsa, hala⟩ := hva.zpts
  obtain ⟨zsb, hzb, hsb, halb⟩ := hvb.zpts
  have HZA := Lib.hid hza
  have HZB := Lib.hid hzb
  have HLA := Lib.hid (show zsa.length = ps.length from by rw [← hza]; simp)
  have HLB := Lib.hid (show zsb.length = qs.length from by rw [← hzb]; simp)
  have HALA := Lib.hid hala
  have HALB := Lib.hid halb
  have HSN := Lib.hid hn
  have HSI := Lib.hid hii
  have HNL := Lib.hid hnl
  have HPA1 := Lib.hid (fun p (h : p ∈ ps) => (show p.1.length ≤ 1000 from (hpa p h).1))
  have HPB1 := Lib.hid (fun p (h : p ∈ qs) => (show p.1.length ≤ 1000 from (hpb p h).1))
  have HCK := Lib.hid (fun w' (hb : Below w.heap.size w w') => rmcheck_any how card vn vi names incl w' (hn.below hb (Nat.le_refl _)) (hii.below hb (Nat.le_refl _)))
  have HTWA := Lib.hid (fun w' (hb : Below w.heap.size w w') => rtwice_any how va vn names ps w' (hva.below hb (Nat.le_refl _)) (hn.below hb (Nat.le_refl _)) HPA1.out hnl)
  have HTWB := Lib.hid (fun w' (hb : Below w.heap.size w w') => rtwice_any how vb vn names qs w' (hvb.below hb (Nat.le_refl _)) (hn.below hb (Nat.le_refl _)) HPB1.out hnl)
  obtain ⟨t1, ht1⟩ : ∃ b, b = twiceB (sgP how names) ps := ⟨_, rfl⟩
  obtain ⟨t2, ht2⟩ : ∃ b, b = twiceB (sgP how names) qs := ⟨_, rfl⟩
  simp only [← ht1] at HTWA
  simp only [← ht2] at HTWB
  have HT1 := Lib.hid ht1
  have HT2 := Lib.hid ht2
  obtain ⟨an, cn, rfl, hlen, -⟩ := hn.strings
  obtain ⟨ai, ci, rfl, hleni, -⟩ := hii.strings
  obtain ⟨aa, ca, rfl, hlva, -, hca⟩ := hsa.split zenc_len
  obtain ⟨ab, cb, rfl, hlvb, -, hcb⟩ := hsb.split zenc_len
  have HCA := Lib.hid hca
  have HCB := Lib.hid hcb
  clear hva hvb hn hii hnl hpa hpb hza hzb hsa hsb hala halb hca hcb ht1 ht2
  obtain ⟨nn, hnn⟩ : ∃ n, n = names.length := ⟨_, rfl⟩
  rw [← hnn] at HCK HTWA HTWB HSN hlen ⊢
  obtain ⟨ni, hni⟩ : ∃ n, n = incl.length := ⟨_, rfl⟩
  rw [← hni] at HCK HSI hleni ⊢
  clear hnn hni
  obtain ⟨NA, hNA⟩ : ∃ n, n = zsa.length := ⟨_, rfl⟩
  rw [← hNA] at HTWA HLA hlva ⊢
  have HNA := Lib.hid hNA
  obtain ⟨NB, hNB⟩ : ∃ n, n = zsb.length := ⟨_, rfl⟩
  rw [← hNB] at HTWB HLB hlvb ⊢
  have HNB := Lib.hid hNB
  have hna3 : NA ≤ 300 := by rw [HLA.out]; exact hla
  have hnb3 : NB ≤ 300 := by rw [HLB.out]; exact hlb
  have HPA3 := Lib.hid hla
  have HPB3 := Lib.hid hlb
  clear hNA hNB hla hlb
  obtain ⟨w1, hw1⟩ : ∃ w1, w1 = w.alloc (.cells #[.int .i64 how, .slice an nn cn, .int .i64 card, .slice ai ni ci] 26) := ⟨_, rfl⟩
  obtain ⟨mb, hmb⟩ : ∃ b, b = w.heap.size := ⟨_, rfl⟩
  have Q0 := Lib.hid (show w1.cell? ⟨mb, 0, none⟩ = some (.int .i64 how) by rw [hw1, hmb]; simp)
  have Q1 := Lib.hid (show w1.cell? ⟨mb, 1, none⟩ = some (.slice an nn cn) by rw [hw1, hmb]; simp)
  have Q2 := Lib.hid (show w1.cell? ⟨mb, 2, none⟩ = some (.int .i64 card) by rw [hw1, hmb]; simp)
  have Q3 := Lib.hid (show w1.cell? ⟨mb, 3, none⟩ = some (.slice ai ni ci) by rw [hw1, hmb]; simp)
  have HB1 := Lib.hid (show Below w.heap.size w w1 by rw [hw1]; exact (Below.refl _ _).alloc (Nat.le_refl _) _)
  have HW1 := Lib.hid hw1
  have HMB := Lib.hid hmb
  clear hw1 hmb
  by_cases h1 : op < 1
  · go_enter Tryz.func10, Tryz.ntmps10
    go_wp2_with fail
    go_ret2
    exact ⟨(Below.refl _ _).alloc (Nat.le_refl _) _, .inl ⟨.inl h1, rfl⟩⟩
  · have h1' : 1 ≤ op := by omega
    by_cases h2 : 10 < op
    · clear h1
      go_enter Tryz.func10, Tryz.ntmps10
      go_wp2_with fail
      go_ret2
      exact ⟨(Below.refl _ _).alloc (Nat.le_refl _) _, .inl ⟨.inr (.inl h2), rfl⟩⟩
    · have h2' : op ≤ 10 := by omega
      have b1 : decide (op < 1) = false := decide_eq_false h1
      have b2 : decide (10 < op) = false := decide_eq_false h2
      have HOPK := Lib.hid (show opOk op = true by unfold opOk; rw [decide_eq_true h1', decide_eq_true h2']; rfl)
      clear h1 h2
      obtain ⟨ck, hck⟩ : ∃ c, c = mchkL how names card incl := ⟨_, rfl⟩
      rw [← hck] at HCK
      by_cases hc0 : ck = 0
      · subst hc0
        have HOK3 := Lib.hid (show 1 ≤ op ∧ op ≤ 10 ∧ mchkL how names card incl = 0 from ⟨h1', h2', hck.symm⟩)
        have hcc := mchk_le hck.symm
        clear hck
        · subst hcd
          go_enter Tryz.func10, Tryz.ntmps10
          go_wp2_with fail
          rw [← HW1.out, ← HMB.out]
          refine (HCK.out _ HB1.out).mono ?_
          rintro e w2 ⟨rfl, hb2⟩
          have g0 := cell_below hb2 (Nat.le_refl _) Q0.out
          have g1 := cell_below hb2 (Nat.le_refl _) Q1.out
          have g2 := cell_below hb2 (Nat.le_refl _) Q2.out
          have g3 := cell_below hb2 (Nat.le_refl _) Q3.out
          have HB2 := Lib.hid (HB1.out.trans (hb2.mono HB1.out.size))
          clear hb2 HCK
          go_wp2_with fail
          refine (HTWB.out _ HB2.out).mono ?_
          rintro e w3 ⟨rfl, hb3⟩
          have g0 := cell_below hb3 (Nat.le_refl _) g0
          have g1 := cell_below hb3 (Nat.le_refl _) g1
          have g2 := cell_below hb3 (Nat.le_refl _) g2
          have g3 := cell_below hb3 (Nat.le_refl _) g3
          have HB3 := Lib.hid (HB2.out.trans (hb3.mono HB2.out.size))
          clear hb3
          cases t2 with
          | true =>
            go_wp2_with fail
            go_ret2
            exact ⟨HB3.out, .inr (.inl ⟨HOK3.out, .inr ⟨by decide, HT2.out.symm⟩, rfl⟩)⟩
          | false =>
            have GW0 := Lib.hid g0
            have GW1 := Lib.hid g1
            have GW2 := Lib.hid g2
            have GW3 := Lib.hid g3
            have HNT := Lib.hid (show ¬ (((1 : Int) ≠ 1 ∧ twiceB (sgP how names) ps = true) ∨ ((1 : Int) ≠ 2 ∧ twiceB (sgP how names) qs = true)) from by rw [← HT2.out]; simp)
            go_wp2_with fail
            clear g0 g1 g2 g3
            go_loopw [12, 13] (fun out i wr => ∃ (j : Nat), j ≤ NA ∧ i = .int .i64 j ∧ Hid (OV wr w3.heap.size out ((ps.take j).flatMap (rowP op 1 how names incl flag qs))) ∧ Hid (Below w3.heap.size w3 wr)) (fun _ i _ => NA - (intOf i).toNat)
            case atStart => exact ⟨0, Nat.zero_le _, rfl, OV.nil _ _, Below.refl _ _⟩
            case round =>
              obtain ⟨j, hj, rfl, HO, HB⟩ := hrel
              obtain ⟨wo, rfl⟩ : ∃ wo, wo = wr := ⟨_, rfl⟩
              have hBz := HB.out.size
              have h00 : (0 : Int) ≤ (j : Int) := by omega
              by_cases hlt : j < NA
              · have hltz : (j : Int) < (NA : Int) := by omega
                have hjz : j < zsa.length := by have := HNA.out; omega
                obtain ⟨b, off, rfl, hd⟩ := HCA.out j hjz
                obtain ⟨z, hzj⟩ : ∃ z, z = zsa[j] := ⟨_, rfl⟩
                have hzm : z ∈ zsa := by rw [hzj]; exact List.getElem_mem hjz
                rw [← hzj] at hd
                have hslz := HALA.out z hzm
                have hjp : j < ps.length := by have := HLA.out; omega
                have hpj : ps[j] = z.2 := by
                  rw [hzj]
                  have h1 := HZA.out
                  subst h1
                  rw [List.getElem_map]
                have hgl : z.2.1.length ≤ 1000 := HPA1.out z.2 (by rw [← hpj]; exact List.getElem_mem _)
                obtain ⟨lv, zl, zf⟩ := z
                have q0 : w.cell? ⟨b, off + j * 2, none⟩ = some lv := hd 0 _ rfl
                have q1 : w.cell? ⟨b, off + j * 2 + 1, none⟩ = some (.float .f64 zf) := hd 1 _ rfl
                obtain ⟨a2, n2, c2, rfl⟩ : ∃ a2 n2 c2, lv = .slice a2 n2 c2 := by
                  obtain ⟨a2, c2, e, -⟩ := hslz
                  exact ⟨a2, _, c2, e⟩
                have A0 := Lib.hid q0
                have A1 := Lib.hid q1
                have HLZ := Lib.hid hslz
                have HZL := Lib.hid hgl
                have HTK := Lib.hid (flat_take (rowP op 1 how names incl flag qs) ps j (zl, zf) hjp hpj)
                obtain ⟨pre, hpre⟩ : ∃ l, l = (ps.take j).flatMap (rowP op 1 how names incl flag qs) := ⟨_, rfl⟩
                have hpl : pre.length ≤ 90000 := by
                  rw [hpre]
                  have h1 := flat_le (rowP op 1 how names incl flag qs) 300 (fun p => rowP_len op 1 how names incl flag p HPB3.out) (ps.take j)
                  have h2 : (ps.take j).length ≤ 300 := by rw [List.length_take]; omega
                  have h3 := Nat.mul_le_mul_right 300 h2
                  omega
                rw [← hpre] at HO HTK
                clear hd hzj hzm hslz hjp hpj hgl q0 q1 hpre
                go_wp2_with fail
                go_loopw [12, 14] (fun out i wr => ∃ (k : Nat), k ≤ NB ∧ i = .int .i64 k ∧ Hid (OV wr w3.heap.size out (pre ++ (qs.take k).flatMap (stepP op 1 how names incl flag (zl, zf)))) ∧ Hid (Below w3.heap.size w3 wr)) (fun _ i _ => NB - (intOf i).toNat)
                case atStart => exact ⟨0, Nat.zero_le _, rfl, (show OV wo w3.heap.size u12 (pre ++ (qs.take 0).flatMap (stepP op 1 how names incl flag (zl, zf))) by simpa using HO.out), HB.out⟩
                case round =>
                  obtain ⟨k, hk, rfl, HQ, HK⟩ := hrel
                  have hKz := HK.out.size
                  have h02 : (0 : Int) ≤ (k : Int) := by omega
                  by_cases hlt2 : k < NB
                  · have hltz2 : (k : Int) < (NB : Int) := by omega
                    have hkz : k < zsb.length := by have := HNB.out; omega
                    obtain ⟨bf, off2, rfl, hd⟩ := HCB.out k hkz
                    have hbw : Below w.heap.size w wr := HB3.out.trans (HK.out.mono HB3.out.size)
                    obtain ⟨z, hzj⟩ : ∃ z, z = zsb[k] := ⟨_, rfl⟩
                    have hzm : z ∈ zsb := by rw [hzj]; exact List.getElem_mem hkz
                    rw [← hzj] at hd
                    have hslz := HALB.out z hzm
                    have hkp : k < qs.length := by have := HLB.out; omega
                    have hpk : qs[k] = z.2 := by
                      rw [hzj]
                      have h1 := HZB.out
                      subst h1
                      rw [List.getElem_map]
                    have hgl : z.2.1.length ≤ 1000 := HPB1.out z.2 (by rw [← hpk]; exact List.getElem_mem _)
                    have HTF := Lib.hid (flat_take (stepP op 1 how names incl flag (zl, zf)) qs k z.2 hkp hpk)
                    obtain ⟨lq, ql, qf⟩ := z
                    have p0 := cell_below hbw (Nat.le_refl _) A0.out
                    have p1 := cell_below hbw (Nat.le_refl _) A1.out
                    have e0 : wr.cell? ⟨bf, off2 + k * 2, none⟩ = some lq := cell_below hbw (Nat.le_refl _) (hd 0 _ rfl)
                    have e1 : wr.cell? ⟨bf, off2 + k * 2 + 1, none⟩ = some (.float .f64 qf) := cell_below hbw (Nat.le_refl _) (hd 1 _ rfl)
                    obtain ⟨a3, n3, c3, rfl⟩ : ∃ a3 n3 c3, lq = .slice a3 n3 c3 := by
                      obtain ⟨a3, c3, e, -⟩ := hslz
                      exact ⟨a3, _, c3, e⟩
                    have m0 := cell_below HK.out (Nat.le_refl _) GW0.out
                    have m1 := cell_below HK.out (Nat.le_refl _) GW1.out
                    have m2 := cell_below HK.out (Nat.le_refl _) GW2.out
                    have m3 := cell_below HK.out (Nat.le_refl _) GW3.out
                    have HSI2 := Lib.hid (fun w' (hb : Below wr.heap.size wr w') => rsign_S how (.slice a2 n2 c2) (.slice an nn cn) zl names w' ((HLZ.out.below hbw (Nat.le_refl _)).below hb (Nat.le_refl _)) ((HSN.out.below hbw (Nat.le_refl _)).below hb (Nat.le_refl _)) (by have := HZL.out; omega) HNL.out)
                    have HSK2 := Lib.hid (fun w' (hb : Below wr.heap.size wr w') => rsign_S how (.slice a3 n3 c3) (.slice an nn cn) ql names w' ((hslz.below hbw (Nat.le_refl _)).below hb (Nat.le_refl _)) ((HSN.out.below hbw (Nat.le_refl _)).below hb (Nat.le_refl _)) (by have h : ql.length ≤ 1000 := hgl; omega) HNL.out)
                    have HPR := Lib.hid (fun w' (hb : Below wr.heap.size wr w') => rpair_any how 1 (.slice an nn cn) (.slice ai ni ci) (.slice a2 n2 c2) (.slice a3 n3 c3) names incl zl ql w' (HLZ.out.below (hbw.trans (hb.mono hbw.size)) (Nat.le_refl _)) (hslz.below (hbw.trans (hb.mono hbw.size)) (Nat.le_refl _)) (HSN.out.below (hbw.trans (hb.mono hbw.size)) (Nat.le_refl _)) (HSI.out.below (hbw.trans (hb.mono hbw.size)) (Nat.le_refl _)) (by decide) HZL.out hgl HNL.out)
                    obtain ⟨gi, hgi⟩ : ∃ g, g = signL how names zl := ⟨_, rfl⟩
                    obtain ⟨gk, hgk⟩ : ∃ g, g = signL how names ql := ⟨_, rfl⟩
                    rw [← hgi] at HSI2
                    rw [← hgk] at HSK2
                    obtain ⟨be, hbe⟩ : ∃ b, b = decide (gi = gk) := ⟨_, rfl⟩
                    have HSM := Lib.hid (fun v1 v2 w' (h1 : Sl lenc w' v1 gi) (h2 : Sl lenc w' v2 gk) => rsame_S v1 v2 gi gk w' h1 h2)
                    rw [← hbe] at HSM
                    have HBI := Lib.hid (show be = true ↔ sgP how names (ql, qf) = sgP how names (zl, zf) by
                      rw [hbe, decide_eq_true_iff, hgi, hgk]; exact eq_comm)
                    have HQL := Lib.hid (show (pre ++ (qs.take k).flatMap (stepP op 1 how names incl flag (zl, zf))).length ≤ 90300 by
                      have h1 := flat_le (stepP op 1 how names incl flag (zl, zf)) 1 (stepP_len op 1 how names incl flag (zl, zf)) (qs.take k)
                      have h2 : (qs.take k).length ≤ 300 := by rw [List.length_take]; omega
                      rw [List.length_append]
                      omega)
                    obtain ⟨cur, hcur⟩ : ∃ l, l = pre ++ (qs.take k).flatMap (stepP op 1 how names incl flag (zl, zf)) := ⟨_, rfl⟩
                    rw [← hcur] at HQ HQL
                    have HCUR := Lib.hid (show pre ++ (qs.take (k + 1)).flatMap (stepP op 1 how names incl flag (zl, zf)) = cur ++ stepP op 1 how names incl flag (zl, zf) (ql, qf) by rw [HTF.out, ← List.append_assoc, ← hcur])
                    clear hd hzj hzm hslz hgl hbw hkp hpk hgi hgk hbe hcur
                    go_wp2_with fail
                    have hbA : Below wr.heap.size wr wr := Below.refl _ _
                    have hsA := hbA.size
                    have hfst : True := trivial
                    go_region_held3 (fun w' => w'.cell? ⟨mb, 0, none⟩ = some (.int .i64 how) ∧ w'.cell? ⟨mb, 1, none⟩ = some (.slice an nn cn) ∧ w'.cell? ⟨b, off + j * 2, none⟩ = some (.slice a2 n2 c2) ∧ w'.cell? ⟨bf, off2 + k * 2, none⟩ = some (.slice a3 n3 c3))
                      (exact ⟨cell_below (B := wr.heap.size) (by go_grown) (Nat.le_refl _) m0, cell_below (B := wr.heap.size) (by go_grown) (Nat.le_refl _) m1, cell_below (B := wr.heap.size) (by go_grown) (Nat.le_refl _) p0, cell_below (B := wr.heap.size) (by go_grown) (Nat.le_refl _) e0⟩)
                      (first
                        | (go_at_call 29
                           clear hfst
                           refine (HSI2.out _ (by go_grown)).mono ?_
                           rintro e x3 ⟨a4, n4, c4, rfl, hs4, -, hb4⟩
                           have hbA : Below wr.heap.size wr x3 := Below.trans (by go_grown) (hb4.mono (by first | exact Nat.le_refl _ | (simp; done) | (simp; omega)))
                           have hsA := hbA.size)
                        | (go_at_call 29
                           refine (HSK2.out _ hbA).mono ?_
                           rintro e x4 ⟨a5, n5, c5, rfl, hs5, -, hb5⟩
                           have hs4 := Sl.below hs4 hb5 (Nat.le_refl _)
                           have hbA : Below wr.heap.size wr x4 := hbA.trans (hb5.mono hsA)
                           have hsA := hbA.size)
                        | (go_at_call 28
                           refine (HSM.out _ _ _ hs4 hs5).mono ?_
                           rintro e w5 ⟨rfl, hb6⟩
                           have hbA : Below wr.heap.size wr w5 := hbA.trans (hb6.mono hsA)
                           have hsA := hbA.size))
                    have HB5 := Lib.hid hbA
                    have p0 := cell_below hbA (Nat.le_refl _) p0
                    have p1 := cell_below hbA (Nat.le_refl _) p1
                    have e0 := cell_below hbA (Nat.le_refl _) e0
                    have e1 := cell_below hbA (Nat.le_refl _) e1
                    have m0 := cell_below hbA (Nat.le_refl _) m0
                    have m1 := cell_below hbA (Nat.le_refl _) m1
                    have m2 := cell_below hbA (Nat.le_refl _) m2
                    have m3 := cell_below hbA (Nat.le_refl _) m3
                    clear hbA hsA hs4 hs5 hb4 hb5 hb6 HSI2 HSK2 HSM
                    cases be with
                    | false =>
                      have HST := Lib.hid (show stepP op 1 how names incl flag (zl, zf) (ql, qf) = [] from step_no (fun h => by have := HBI.out.2 h; cases this))
                      have HOV7 := Lib.hid (HQ.out.kept HB5.out)
                      have HB7 := Lib.hid (HK.out.trans (HB5.out.mono hKz))
                      clear p0 p1 e0 e1 m0 m1 m2 m3
                      go_wp2_with fail
                      go_roundw
                      case rel => exact ⟨k + 1, by omega, by go_num, by rw [HCUR.out, HST.out, List.append_nil]; exact HOV7.out, HB7.out⟩
                      case measure => simp [intOf]; omega
                    | true =>
                      have HST := Lib.hid (show stepP op 1 how names incl flag (zl, zf) (ql, qf) = pairP op 1 how names incl flag (zl, zf) (ql, qf) from step_yes (HBI.out.1 rfl))
                      obtain ⟨pl, hpl2⟩ : ∃ l, l = pairL 1 how names incl zl ql := ⟨_, rfl⟩
                      have HPLL := Lib.hid hpl2
                      have HPR5 := Lib.hid (fun w' (hb : Below w5.heap.size w5 w') => HPR.out w' (HB5.out.trans (hb.mono HB5.out.size)))
                      rw [← hpl2] at HPR5
                      clear hpl2 HPR
                      go_wp2_with fail
                      have hbA : Below w5.heap.size w5 w5 := Below.refl _ _
                      have hsA := hbA.size
                      go_region_held3 (fun w' => w'.cell? ⟨mb, 0, none⟩ = some (.int .i64 how) ∧ w'.cell? ⟨mb, 1, none⟩ = some (.slice an nn cn) ∧ w'.cell? ⟨mb, 2, none⟩ = some (.int .i64 1) ∧ w'.cell? ⟨mb, 3, none⟩ = some (.slice ai ni ci) ∧ w'.cell? ⟨b, off + j * 2, none⟩ = some (.slice a2 n2 c2) ∧ w'.cell? ⟨bf, off2 + k * 2, none⟩ = some (.slice a3 n3 c3))
                        (exact ⟨cell_below (B := w5.heap.size) (by go_grown) (Nat.le_refl _) m0, cell_below (B := w5.heap.size) (by go_grown) (Nat.le_refl _) m1, cell_below (B := w5.heap.size) (by go_grown) (Nat.le_refl _) m2, cell_below (B := w5.heap.size) (by go_grown) (Nat.le_refl _) m3, cell_below (B := w5.heap.size) (by go_grown) (Nat.le_refl _) p0, cell_below (B := w5.heap.size) (by go_grown) (Nat.le_refl _) e0⟩)
                        (first
                          | (go_at_call 30
                             refine (HPR5.out _ (by go_grown)).mono ?_
                             rintro e w6 ⟨a6, n6, c6, rfl, hs6, ho6, hb6⟩
                             have ho6 : ∀ q, (Value.slice a6 n6 c6).ownBlock = some q → w5.heap.size ≤ q := fun q hq => Nat.le_trans (show Below w5.heap.size w5 _ by go_grown).size (ho6 q hq)
                             have hbA : Below w5.heap.size w5 w6 := Below.trans (by go_grown) (hb6.mono (by first | exact Nat.le_refl _ | (simp; done) | (simp; omega)))))
                      have HB6 := Lib.hid (HB5.out.trans (hbA.mono HB5.out.size))
                      have HS6 := Lib.hid hs6
                      have HO6 := Lib.hid (fun q hq => Nat.le_trans HB5.out.size (ho6 q hq) : ∀ q, (Value.slice a6 n6 c6).ownBlock = some q → wr.heap.size ≤ q)
                      have p1 := cell_below hbA (Nat.le_refl _) p1
                      have e1 := cell_below hbA (Nat.le_refl _) e1
                      have hb0l : b < w6.heap.size := World.block_lt_of_cell? w6 _ p1
                      have hb0n : b ≠ w6.heap.size := by omega
                      have HLQ := Lib.hid (fun q (hq : u12.ownBlock = some q) => (show w3.heap.size ≤ q ∧ q < wr.heap.size by obtain ⟨_, _, h0, _⟩ := HQ.out; exact h0.lt q hq))
                      obtain ⟨hv, hhv⟩ : ∃ b, b = holdsF op zf qf := ⟨_, rfl⟩
                      have HHD := Lib.hid (fun m => (rholds_any op zf qf (w6.drewN m)).mono (R' := fun e w'' => e = .returned (.bool hv) ∧ ∃ k, w'' = w6.drewN k) fun _ _ ⟨he, hm⟩ => ⟨by rw [hhv]; exact he, m, hm.symm⟩)
                      have HHV := Lib.hid hhv
                      obtain ⟨ov, hov9⟩ : ∃ y, y = opV op zf qf := ⟨_, rfl⟩
                      have HOQ := Lib.hid (fun m => (rop_any op zf qf (w6.drewN m)).mono (R' := fun e w'' => e = .returned (.tuple #[.float .f64 ov, .bool true]) ∧ ∃ k, w'' = w6.drewN k) fun _ _ ⟨he, n, hm⟩ => ⟨by rw [hov9, he, HOPK.out], m + n, by rw [hm, World.drewN_drewN]⟩)
                      have HVV := Lib.hid hov9
                      clear hbA hsA hs6 ho6 hb6 p0 e0 m0 m1 m2 m3 hhv hov9 HPR5
                      by_cases h5 : op < 5
                      · have b5 : decide (5 ≤ op) = false := decide_eq_false (by omega)
                        go_wp2_with fail
                        rw [show w6 = w6.drewN 0 from rfl]
                        go_quiet ((go_at_call 32; exact HOQ.out _))
                        have HCC := Lib.hid (show pairP op 1 how names incl flag (zl, zf) (ql, qf) = [(pl, ov)] by rw [HPLL.out]; exact pairP_yes (show cellB op flag zf qf = true by unfold cellB; rw [if_pos (Or.inl h5)]; exact HOPK.out) (show cellV op flag zf qf = ov by unfold cellV; rw [if_pos (Or.inl h5)]; exact HVV.out.symm))
                        have HBN := Lib.hid (below_drewN HB6.out nq)
                        obtain ⟨zs0, hz0s, hown0, hzok0⟩ := HQ.out.kept HBN.out
                        have HZ0 := Lib.hid hz0s
                        have HW0 := Lib.hid hown0
                        have HK0 := Lib.hid hzok0
                        have HB9 := Lib.hid (HK.out.trans (HBN.out.mono hKz))
                        have hz9q : wr.heap.size ≤ (w6.drewN nq).heap.size := HBN.out.size
                        have hz9 : w3.heap.size ≤ (w6.drewN nq).heap.size := by omega
                        have hz6 := HB6.out.size
                        have HS9 := Lib.hid (show Sl lenc (w6.drewN nq) (.slice a6 n6 c6) pl from HS6.out.below (below_drewN (Below.refl _ _) nq) (Nat.le_refl _))
                        have hqll := HQL.out
                        obtain ⟨cl, hcl⟩ : ∃ n, n = cur.length := ⟨_, rfl⟩
                        rw [← hcl] at hqll HW0
                        have HCL := Lib.hid hcl
                        have p1 : (w6.drewN nq).cell? ⟨b, off + j * 2 + 1, none⟩ = some (.float .f64 zf) := p1
                        clear hz0s hown0 hzok0 hcl
                        go_wp2_with (at_builtin
                                     refine wpList_append_own_at _ rfl (.tmp 134) (.tmp 138) _ rfl w3.heap.size 50 i0 _ 2 32 Tryz.underlying27 hi hz0 hz1 hz2 rfl (by decide) u12 cl (zs0.flatMap zenc) rfl (World.ownsRow.alloc HW0.out _) ⟨(w6.drewN nq).heap.size, 0, none⟩ 1 1 [.slice a6 n6 c6, .float .f64 ov] rfl rfl (World.news_of_block (heap_new (w6.drewN nq) _)) (by intro u hu; simp at hu; rcases hu with rfl | rfl <;> rfl) (by unfold maxLen; omega) (by omega) (by simp; omega) ?_
                                     intro v' w10 hown' hgrow hnil hat
                                     have hbC : Below (w6.drewN nq).heap.size (w6.drewN nq) ((w6.drewN nq).alloc (.cells #[.slice a6 n6 c6, .float .f64 ov] 50)) := (Below.refl _ _).alloc (Nat.le_refl _) _
                                     have hov' : OV w10 w3.heap.size v' (cur ++ [(pl, ov)]) := OV.appended (v' := v') (w' := w10) (z := (.slice a6 n6 c6, pl, ov)) HZ0.out (fun z hz => (HK0.out z hz).below hbC (Nat.le_refl _))
                                       ⟨HS9.out.below hbC (Nat.le_refl _), fun hx0 he => by
                                         obtain ⟨q, e1, _⟩ := HS9.out.lt hx0
                                         have h3 := HO6.out q e1
                                         have h4 := (HLQ.out q (by rw [← he]; exact e1)).2
                                         omega⟩ (by rw [← HCL.out]; exact hown') hgrow hat
                                     have HOV7 := Lib.hid hov'
                                     have HB10 := Lib.hid ((HB9.out.trans (hbC.mono hz9)).grown hgrow (by simp; omega) (fun q hq => (HLQ.out q hq).1))
                                     clear hown' hgrow hnil hat hov' hbC)
                        go_wp2_with fail
                        go_roundw
                        case rel => exact ⟨k + 1, by omega, by go_num, by rw [HCUR.out, HST.out, HCC.out]; exact HOV7.out, HB10.out⟩
                        case measure => simp [intOf]; omega
                      · have b5 : decide (5 ≤ op) = true := decide_eq_true (by omega)
                        have h5' : 5 ≤ op := by omega
                        cases flag with
                        | true =>
                          go_wp2_with fail
                          rw [show w6 = w6.drewN 0 from rfl]
                          go_quiet ((go_at_call 32; exact HOQ.out _))
                          have HCC := Lib.hid (show pairP op 1 how names incl true (zl, zf) (ql, qf) = [(pl, ov)] by rw [HPLL.out]; exact pairP_yes (show cellB op true zf qf = true by unfold cellB; rw [if_pos (Or.inr rfl)]; exact HOPK.out) (show cellV op true zf qf = ov by unfold cellV; rw [if_pos (Or.inr rfl)]; exact HVV.out.symm))
                          have HBN := Lib.hid (below_drewN HB6.out nq)
                          obtain ⟨zs0, hz0s, hown0, hzok0⟩ := HQ.out.kept HBN.out
                          have HZ0 := Lib.hid hz0s
                          have HW0 := Lib.hid hown0
                          have HK0 := Lib.hid hzok0
                          have HB9 := Lib.hid (HK.out.trans (HBN.out.mono hKz))
                          have hz9q : wr.heap.size ≤ (w6.drewN nq).heap.size := HBN.out.size
                          have hz9 : w3.heap.size ≤ (w6.drewN nq).heap.size := by omega
                          have hz6 := HB6.out.size
                          have HS9 := Lib.hid (show Sl lenc (w6.drewN nq) (.slice a6 n6 c6) pl from HS6.out.below (below_drewN (Below.refl _ _) nq) (Nat.le_refl _))
                          have hqll := HQL.out
                          obtain ⟨cl, hcl⟩ : ∃ n, n = cur.length := ⟨_, rfl⟩
                          rw [← hcl] at hqll HW0
                          have HCL := Lib.hid hcl
                          have p1 : (w6.drewN nq).cell? ⟨b, off + j * 2 + 1, none⟩ = some (.float .f64 zf) := p1
                          clear hz0s hown0 hzok0 hcl
                          go_wp2_with (at_builtin
                                       refine wpList_append_own_at _ rfl (.tmp 134) (.tmp 138) _ rfl w3.heap.size 50 i0 _ 2 32 Tryz.underlying27 hi hz0 hz1 hz2 rfl (by decide) u12 cl (zs0.flatMap zenc) rfl (World.ownsRow.alloc HW0.out _) ⟨(w6.drewN nq).heap.size, 0, none⟩ 1 1 [.slice a6 n6 c6, .float .f64 ov] rfl rfl (World.news_of_block (heap_new (w6.drewN nq) _)) (by intro u hu; simp at hu; rcases hu with rfl | rfl <;> rfl) (by unfold maxLen; omega) (by omega) (by simp; omega) ?_
                                       intro v' w10 hown' hgrow hnil hat
                                       have hbC : Below (w6.drewN nq).heap.size (w6.drewN nq) ((w6.drewN nq).alloc (.cells #[.slice a6 n6 c6, .float .f64 ov] 50)) := (Below.refl _ _).alloc (Nat.le_refl _) _
                                       have hov' : OV w10 w3.heap.size v' (cur ++ [(pl, ov)]) := OV.appended (v' := v') (w' := w10) (z := (.slice a6 n6 c6, pl, ov)) HZ0.out (fun z hz => (HK0.out z hz).below hbC (Nat.le_refl _))
                                         ⟨HS9.out.below hbC (Nat.le_refl _), fun hx0 he => by
                                           obtain ⟨q, e1, _⟩ := HS9.out.lt hx0
                                           have h3 := HO6.out q e1
                                           have h4 := (HLQ.out q (by rw [← he]; exact e1)).2
                                           omega⟩ (by rw [← HCL.out]; exact hown') hgrow hat
                                       have HOV7 := Lib.hid hov'
                                       have HB10 := Lib.hid ((HB9.out.trans (hbC.mono hz9)).grown hgrow (by simp; omega) (fun q hq => (HLQ.out q hq).1))
                                       clear hown' hgrow hnil hat hov' hbC)
                          go_wp2_with fail
                          go_roundw
                          case rel => exact ⟨k + 1, by omega, by go_num, by rw [HCUR.out, HST.out, HCC.out]; exact HOV7.out, HB10.out⟩
                          case measure => simp [intOf]; omega
                        | false =>
                          have hnf : ¬ (op < 5 ∨ false = true) := by simp; omega
                          cases hv with
                          | true =>
                            go_wp2_with fail
                            rw [show w6 = w6.drewN 0 from rfl]
                            go_quiet ((go_at_call 31; exact HHD.out _))
                            have HCC := Lib.hid (show pairP op 1 how names incl false (zl, zf) (ql, qf) = [(pl, zf)] by rw [HPLL.out]; exact pairP_yes (show cellB op false zf qf = true by unfold cellB; rw [if_neg hnf]; exact HHV.out.symm) (show cellV op false zf qf = zf by unfold cellV; rw [if_neg hnf]))
                            have HBN := Lib.hid (below_drewN HB6.out nq)
                            obtain ⟨zs0, hz0s, hown0, hzok0⟩ := HQ.out.kept HBN.out
                            have HZ0 := Lib.hid hz0s
                            have HW0 := Lib.hid hown0
                            have HK0 := Lib.hid hzok0
                            have HB9 := Lib.hid (HK.out.trans (HBN.out.mono hKz))
                            have hz9q : wr.heap.size ≤ (w6.drewN nq).heap.size := HBN.out.size
                            have hz9 : w3.heap.size ≤ (w6.drewN nq).heap.size := by omega
                            have hz6 := HB6.out.size
                            have HS9 := Lib.hid (show Sl lenc (w6.drewN nq) (.slice a6 n6 c6) pl from HS6.out.below (below_drewN (Below.refl _ _) nq) (Nat.le_refl _))
                            have hqll := HQL.out
                            obtain ⟨cl, hcl⟩ : ∃ n, n = cur.length := ⟨_, rfl⟩
                            rw [← hcl] at hqll HW0
                            have HCL := Lib.hid hcl
                            have p1 : (w6.drewN nq).cell? ⟨b, off + j * 2 + 1, none⟩ = some (.float .f64 zf) := p1
                            clear hz0s hown0 hzok0 hcl
                            go_wp2_with (at_builtin
                                         refine wpList_append_own_at _ rfl (.tmp 109) (.tmp 117) _ rfl w3.heap.size 50 i0 _ 2 32 Tryz.underlying27 hi hz0 hz1 hz2 rfl (by decide) u12 cl (zs0.flatMap zenc) rfl (World.ownsRow.alloc HW0.out _) ⟨(w6.drewN nq).heap.size, 0, none⟩ 1 1 [.slice a6 n6 c6, .float .f64 zf] rfl rfl (World.news_of_block (heap_new (w6.drewN nq) _)) (by intro u hu; simp at hu; rcases hu with rfl | rfl <;> rfl) (by unfold maxLen; omega) (by omega) (by simp; omega) ?_
                                         intro v' w10 hown' hgrow hnil hat
                                         have hbC : Below (w6.drewN nq).heap.size (w6.drewN nq) ((w6.drewN nq).alloc (.cells #[.slice a6 n6 c6, .float .f64 zf] 50)) := (Below.refl _ _).alloc (Nat.le_refl _) _
                                         have hov' : OV w10 w3.heap.size v' (cur ++ [(pl, zf)]) := OV.appended (v' := v') (w' := w10) (z := (.slice a6 n6 c6, pl, zf)) HZ0.out (fun z hz => (HK0.out z hz).below hbC (Nat.le_refl _))
                                           ⟨HS9.out.below hbC (Nat.le_refl _), fun hx0 he => by
                                             obtain ⟨q, e1, _⟩ := HS9.out.lt hx0
                                             have h3 := HO6.out q e1
                                             have h4 := (HLQ.out q (by rw [← he]; exact e1)).2
                                             omega⟩ (by rw [← HCL.out]; exact hown') hgrow hat
                                         have HOV7 := Lib.hid hov'
                                         have HB10 := Lib.hid ((HB9.out.trans (hbC.mono hz9)).grown hgrow (by simp; omega) (fun q hq => (HLQ.out q hq).1))
                                         clear hown' hgrow hnil hat hov' hbC)
                            go_wp2_with fail
                            go_roundw
                            case rel => exact ⟨k + 1, by omega, by go_num, by rw [HCUR.out, HST.out, HCC.out]; exact HOV7.out, HB10.out⟩
                            case measure => simp [intOf]; omega
                          | false =>
                            have HCC := Lib.hid (show pairP op 1 how names incl false (zl, zf) (ql, qf) = [] from pairP_no (show cellB op false zf qf = false by unfold cellB; rw [if_neg hnf]; exact HHV.out.symm))
                            go_wp2_with fail
                            rw [show w6 = w6.drewN 0 from rfl]
                            go_quiet ((go_at_call 31; exact HHD.out _))
                            have HBN := Lib.hid (below_drewN HB6.out nq)
                            have HOV7 := Lib.hid (HQ.out.kept HBN.out)
                            have HB10 := Lib.hid (HK.out.trans (HBN.out.mono hKz))
                            go_wp2_with fail
                            go_roundw
                            case rel => exact ⟨k + 1, by omega, by go_num, by rw [HCUR.out, HST.out, HCC.out, List.append_nil]; exact HOV7.out, HB10.out⟩
                            case measure => simp [intOf]; omega
                  · have hltz2 : ¬ (k : Int) < (NB : Int) := by omega
                    obtain rfl : k = NB := by omega
                    have HQE := Lib.hid (show OV wr w3.heap.size u12 ((ps.take (j + 1)).flatMap (rowP op 1 how names incl flag qs)) by
                      have h1 := HQ.out
                      rw [List.take_of_length_le (by have := HLB.out; omega), row_step] at h1
                      rw [HTK.out]; exact h1)
                    clear HQ
                    go_wp2_with fail
                    go_roundw
                    case rel => exact ⟨j + 1, by omega, by go_num, HQE.out, HK.out⟩
                    case measure => simp [intOf]; omega
              · have hltz : ¬ (j : Int) < (NA : Int) := by omega
                obtain rfl : j = NA := by omega
                have hov := HO.out
                rw [List.take_of_length_le (by have := HLA.out; omega)] at hov
                have HNM := Lib.hid (rnormal_any _ _ wo hov.vs (by
                  have h1 := flat_le (rowP op 1 how names incl flag qs) 300 (fun p => rowP_len op 1 how names incl flag p HPB3.out) ps
                  have h2 := HPA3.out
                  have h3 := Nat.mul_le_mul_right 300 h2
                  omega))
                obtain ⟨a8, c8, rfl, -, -⟩ := hov.slice
                obtain ⟨N8, hN8⟩ : ∃ n, n = (ps.flatMap (rowP op 1 how names incl flag qs)).length := ⟨_, rfl⟩
                rw [← hN8] at HNM ⊢
                clear hov HO hN8
                go_wp2_with fail
                refine HNM.out.mono ?_
                rintro e w9 ⟨hb9, hnr⟩
                obtain ⟨v5, n5, rfl⟩ := nr_tuple hnr
                have HNR := Lib.hid hnr
                have HB9 := Lib.hid (HB3.out.trans ((HB.out.trans (hb9.mono hBz)).mono HB3.out.size))
                clear hnr hb9 HNM
                go_wp2_with fail
                go_ret2
                exact ⟨HB9.out, .inr (.inr ⟨HOK3.out, HNT.out, HNR.out⟩)⟩
      · have HC0 := Lib.hid (show mchkL how names card incl ≠ 0 by rw [← hck]; exact hc0)
        have hc1 : (ck != 0) = true := by simpa using hc0
        have hc2 : (ck == 0) = false := by simpa using hc0
        clear hc0 hck
        subst hcd
        go_enter Tryz.func10, Tryz.ntmps10
        go_wp2_with fail
        rw [← HW1.out, ← HMB.out]
        refine (HCK.out _ HB1.out).mono ?_
        rintro e w2 ⟨rfl, hb2⟩
        have HB2 := Lib.hid (HB1.out.trans (hb2.mono HB1.out.size))
        clear hb2
        go_wp2_with fail
        go_ret2
        exact ⟨HB2.out, .inl ⟨.inr (.inr HC0.out), rfl⟩⟩
end Go.Proofs.YtogjcaakfnfapaaGreatDoor
