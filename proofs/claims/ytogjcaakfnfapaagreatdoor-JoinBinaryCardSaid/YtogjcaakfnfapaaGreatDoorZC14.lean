/- Operators of two vectors: the code's walk (printed by gen_jn9.py). (Several texts in one file, by merge.py.) -/
import Derived.Test.YtogjcaakfnfapaaGreatDoorZC12
import Derived.Test.YtogjcaakfnfapaaGreatDoorZC11
import Derived.Test.YtogjcaakfnfapaaGreatDoorZC13
import Derived.BigQuiet
namespace Go.Proofs.YtogjcaakfnfapaaGreatDoor
open Go Go.RowKit Go.Maps
set_option linter.unusedVariables false
set_option linter.unusedSimpArgs false
set_option maxRecDepth 100000
def rowP (op card how : Int) (names incl : List ByteArray) (flag : Bool) (qs : List Pt) (p : Pt) : List Pt := (membG (sgP how names) qs (sgP how names p)).flatMap (pairP op card how names incl flag p)
theorem bin_eq (op card how : Int) (names incl : List ByteArray) (flag : Bool) (ps qs : List Pt) : binP op card how names incl flag ps qs = ps.flatMap (rowP op card how names incl flag qs) := rfl
theorem pairP_len (op card how : Int) (names incl : List ByteArray) (flag : Bool) (p q : Pt) : (pairP op card how names incl flag p q).length ≤ 1 := by
  unfold pairP; split <;> simp
theorem flat_le {α β : Type} (f : α → List β) (n : Nat) (h : ∀ a, (f a).length ≤ n) : ∀ l : List α, (l.flatMap f).length ≤ l.length * n
  | [] => by simp
  | a :: l => by
    rw [List.flatMap_cons, List.length_append, List.length_cons, Nat.add_mul]
    have := h a
    have := flat_le f n h l
    omega
theorem rowP_len (op card how : Int) (names incl : List ByteArray) (flag : Bool) {qs : List Pt} (p : Pt) (h : qs.length ≤ 300) : (rowP op card how names incl flag qs p).length ≤ 300 := by
  have h1 := flat_le (pairP op card how names incl flag p) 1 (pairP_len op card how names incl flag p) (membG (sgP how names) qs (sgP how names p))
  have h2 : (membG (sgP how names) qs (sgP how names p)).length ≤ qs.length := List.length_filter_le _ _
  unfold rowP
  omega
theorem flat_take {α β : Type} (f : α → List β) (l : List α) (j : Nat) (a : α) (h : j < l.length) (e : l[j] = a) : (l.take (j + 1)).flatMap f = (l.take j).flatMap f ++ f a := by
  rw [List.take_succ_eq_append_getElem h, List.flatMap_append, e]
  simp
theorem pairP_yes {op card how : Int} {names incl : List ByteArray} {flag : Bool} {p q : Pt} {y : Nat} (h : cellB op flag p.2 q.2 = true) (h2 : cellV op flag p.2 q.2 = y) : pairP op card how names incl flag p q = [(pairL card how names incl p.1 q.1, y)] := by
  unfold pairP; rw [if_pos h, h2]
theorem pairP_no {op card how : Int} {names incl : List ByteArray} {flag : Bool} {p q : Pt} (h : cellB op flag p.2 q.2 = false) : pairP op card how names incl flag p q = [] := by
  unfold pairP; rw [if_neg (by rw [h]; decide)]
theorem bin_tuple {op card how : Int} {names incl : List ByteArray} {flag : Bool} {ps qs : List Pt} {e : Ending} {w : World} (h : BinR op card how names incl flag ps qs e w) : ∃ v n, e = .returned (.tuple #[v, .int .i64 n]) := by
  rcases h with ⟨-, rfl⟩ | ⟨-, -, rfl⟩ | ⟨-, -, h⟩
  · exact ⟨_, _, rfl⟩
  · exact ⟨_, _, rfl⟩
  · exact nr_tuple h
theorem twice_of {how : Int} {names : List ByteArray} {zs : List ZPt} {ps : List Pt} {t : Bool} (h : zs.map (·.2) = ps) (hz : ∀ z ∈ zs, SizesOk z.2.1) (ht : t = true ↔ ∃ s, 2 ≤ (grpB (sgZ how names) zs s).length) : t = twiceB (sgP how names) ps := by
  have h1 := grp_two (sgZ how names) zs (fun z hzz => (hz z hzz).sign how names)
  have h2 : twiceB (sgZ how names) zs = twiceB (sgP how names) ps := by rw [← h]; exact twice_map (fun z : ZPt => z.2) (sgP how names) zs
  rw [Bool.eq_iff_iff, ht, ← h1, h2]
theorem mchk_le {how card : Int} {names incl : List ByteArray} (h : mchkL how names card incl = 0) : 0 ≤ card ∧ card ≤ 2 := by
  unfold mchkL at h
  split at h
  · cases h
  · omega
theorem mchk_one {how card : Int} {names incl : List ByteArray} (h : mchkL how names card incl ≠ 0) : mchkL how names card incl = 1 := by
  unfold mchkL at h ⊢
  split
  · rfl
  · rename_i h2
    rw [if_neg h2] at h
    exact absurd rfl h
set_option maxHeartbeats 64000000 in
theorem bin_go (op card how : Int) (flag : Bool) (vn vi va vb : Value) (names incl : List ByteArray) (ps qs : List Pt) (w : World) (hva : VS w va ps) (hvb : VS w vb qs) (hn : Sl senc1 w vn names) (hii : Sl senc1 w vi incl)
    (hz : ∀ s ∈ names, s.size ≤ maxLen) (hzi : ∀ s ∈ incl, s.size ≤ maxLen) (hpa : ∀ p ∈ ps, PtOk p) (hpb : ∀ p ∈ qs, PtOk p) (hla : ps.length ≤ 300) (hlb : qs.length ≤ 300) (ht : Tab w) :
    Calls Tryz.prog 9 #[.int .i64 op, .agg #[.int .i64 how, vn, .int .i64 card, vi], .bool flag, va, vb] w fun e w' => Below w.heap.size w w' ∧ BinR op card how names incl flag ps qs e w' := by
  obtain ⟨i0, hi, hz0, hz1, hz2⟩ := info_parts Tryz.infoPt
  obtain ⟨zsa, hza, hsa, hala⟩ := hva.zpts
  obtain ⟨zsb, hzb, hsb, halb⟩ := hvb.zpts
  have HZA := Lib.hid hza
  have HZB := Lib.hid hzb
  have HOKA := Lib.hid (fun (z : ZPt) (h : z ∈ zsa) => (show z.2.1.length ≤ 1000 ∧ SizesOk z.2.1 from by have := hpa z.2 (by rw [← hza]; exact List.mem_map_of_mem h); exact ⟨this.1, this.2.1⟩))
  have HOKB := Lib.hid (fun (z : ZPt) (h : z ∈ zsb) => (show z.2.1.length ≤ 1000 ∧ SizesOk z.2.1 from by have := hpb z.2 (by rw [← hzb]; exact List.mem_map_of_mem h); exact ⟨this.1, this.2.1⟩))
  have HLA := Lib.hid (show zsa.length = ps.length from by rw [← hza]; simp)
  have HLB := Lib.hid (show zsb.length = qs.length from by rw [← hzb]; simp)
  have HALA := Lib.hid hala
  have HALB := Lib.hid halb
  have HSN := Lib.hid hn
  have HSI := Lib.hid hii
  have HTB := Lib.hid ht
  have HCK := Lib.hid (fun w' (hb : Below w.heap.size w w') => mcheck_any how card vn vi names incl w' (hn.below hb (Nat.le_refl _)) (hii.below hb (Nat.le_refl _)) hz hzi)
  have HSIA := Lib.hid (fun w' (hb : Below w.heap.size w w') => signs_go how va vn names zsa w' (hsa.below hb (Nat.le_refl _)) (fun z hzz => (hala z hzz).below hb (Nat.le_refl _)) (hn.below hb (Nat.le_refl _)) HOKA.out (by rw [HLA.out]; exact hla) (ht.below hb (Nat.le_refl _)))
  have HSIB := Lib.hid (fun w' (hb : Below w.heap.size w w') => signs_go how vb vn names zsb w' (hsb.below hb (Nat.le_refl _)) (fun z hzz => (halb z hzz).below hb (Nat.le_refl _)) (hn.below hb (Nat.le_refl _)) HOKB.out (by rw [HLB.out]; exact hlb) (ht.below hb (Nat.le_refl _)))
  obtain ⟨an, cn, rfl, hlen, -⟩ := hn.strings
  obtain ⟨ai, ci, rfl, hleni, -⟩ := hii.strings
  obtain ⟨aa, ca, rfl, hlva, -, hca⟩ := hsa.split zenc_len
  obtain ⟨ab, cb, rfl, hlvb, -, hcb⟩ := hsb.split zenc_len
  have HCA := Lib.hid hca
  clear hva hvb hn hii hz hzi hpa hpb ht hza hzb hsa hsb hala halb hca hcb
  obtain ⟨nn, hnn⟩ : ∃ n, n = names.length := ⟨_, rfl⟩
  rw [← hnn] at HCK HSIA HSIB HSN hlen ⊢
  obtain ⟨ni, hni⟩ : ∃ n, n = incl.length := ⟨_, rfl⟩
  rw [← hni] at HCK HSI hleni ⊢
  clear hnn hni
  obtain ⟨NA, hNA⟩ : ∃ n, n = zsa.length := ⟨_, rfl⟩
  rw [← hNA] at HSIA HLA hlva ⊢
  have HNA := Lib.hid hNA
  obtain ⟨NB, hNB⟩ : ∃ n, n = zsb.length := ⟨_, rfl⟩
  rw [← hNB] at HSIB HLB hlvb ⊢
  have HNBZ := Lib.hid hNB
  have hna3 : NA ≤ 300 := by rw [HLA.out]; exact hla
  have hnb3 : NB ≤ 300 := by rw [HLB.out]; exact hlb
  have HPA3 := Lib.hid hla
  have HPB3 := Lib.hid hlb
  clear hNA hNB hla hlb
  obtain ⟨w1, hw1⟩ : ∃ w1, w1 = w.alloc (.cells #[.int .i64 how, .slice an nn cn, .int .i64 card, .slice ai ni ci] 26) := ⟨_, rfl⟩
  obtain ⟨mb, hmb⟩ : ∃ b, b = w.heap.size := ⟨_, rfl⟩
  have Q0 := Lib.hid (show w1.cell? ⟨mb, 0, none⟩ = some (.int .i64 how) by rw [hw1, hmb]; simp)
  have Q1 := Lib.hid (show w1.cell? ⟨mb, 1, none⟩ = some (.slice an nn cn) by rw [hw1, hmb]; simp)
  have Q2 := Lib.hid (show w1.cell? ⟨mb, 2, none⟩ = some (.int .i64 card) by rw [hw1, hmb]; simp)
  have Q3 := Lib.hid (show w1.cell? ⟨mb, 3, none⟩ = some (.slice ai ni ci) by rw [hw1, hmb]; simp)
  have HB1 := Lib.hid (show Below w.heap.size w w1 by rw [hw1]; exact (Below.refl _ _).alloc (Nat.le_refl _) _)
  have HW1 := Lib.hid hw1
  have HMB := Lib.hid hmb
  clear hw1 hmb
  by_cases h1 : op < 1
  · go_enter Tryz.func9, Tryz.ntmps9
    go_wp2_with fail
    go_ret2
    exact ⟨(Below.refl _ _).alloc (Nat.le_refl _) _, .inl ⟨.inl h1, rfl⟩⟩
  · have h1' : 1 ≤ op := by omega
    by_cases h2 : 10 < op
    · go_enter Tryz.func9, Tryz.ntmps9
      go_wp2_with fail
      go_ret2
      exact ⟨(Below.refl _ _).alloc (Nat.le_refl _) _, .inl ⟨.inr (.inl h2), rfl⟩⟩
    · have h2' : op ≤ 10 := by omega
      have b1 : decide (op < 1) = false := decide_eq_false h1
      have b2 : decide (10 < op) = false := decide_eq_false h2
      have HOPK := Lib.hid (show opOk op = true by unfold opOk; rw [decide_eq_true h1', decide_eq_true h2']; rfl)
      clear h1 h2
      obtain ⟨ck, hck⟩ : ∃ c, c = mchkL how names card incl := ⟨_, rfl⟩
      rw [← hck] at HCK
      by_cases hc0 : ck = 0
      · subst hc0
        have HC0 := Lib.hid hck
        have HOK3 := Lib.hid (show 1 ≤ op ∧ op ≤ 10 ∧ mchkL how names card incl = 0 from ⟨h1', h2', hck.symm⟩)
        have hcc := mchk_le hck.symm
        clear hck
        rcases (show card = 0 ∨ card = 1 ∨ card = 2 by omega) with hcd | hcd | hcd
        · subst hcd
          go_enter Tryz.func9, Tryz.ntmps9
          go_wp2_with fail
          rw [← HW1.out, ← HMB.out]
          refine (HCK.out _ HB1.out).mono ?_
          rintro e w2 ⟨rfl, hb2⟩
          have g0 := cell_below hb2 (Nat.le_refl _) Q0.out
          have g1 := cell_below hb2 (Nat.le_refl _) Q1.out
          have g2 := cell_below hb2 (Nat.le_refl _) Q2.out
          have g3 := cell_below hb2 (Nat.le_refl _) Q3.out
          have HB2 := Lib.hid (HB1.out.trans (hb2.mono HB1.out.size))
          clear hb2 HCK
          go_wp2_with fail
          refine (HSIB.out _ HB2.out).mono ?_
          rintro e w4 ⟨b4, base4, V4, rfl, hge4, hG4, hb4⟩
          have g0 := cell_below hb4 (Nat.le_refl _) g0
          have g1 := cell_below hb4 (Nat.le_refl _) g1
          have g2 := cell_below hb4 (Nat.le_refl _) g2
          have g3 := cell_below hb4 (Nat.le_refl _) g3
          have HG4 := Lib.hid hG4
          have HB4 := Lib.hid (HB2.out.trans (hb4.mono HB2.out.size))
          clear hG4 hb4 hge4 HSIB
          go_wp2_with fail
          refine (HSIA.out _ HB4.out).mono ?_
          rintro e w5 ⟨b5, base5, V5, rfl, hge5, hG5, hb5⟩
          have g0 := cell_below hb5 (Nat.le_refl _) g0
          have g1 := cell_below hb5 (Nat.le_refl _) g1
          have g2 := cell_below hb5 (Nat.le_refl _) g2
          have g3 := cell_below hb5 (Nat.le_refl _) g3
          have HG5 := Lib.hid hG5
          have HG45 := Lib.hid (HG4.out.below hb5 (Nat.le_refl _))
          have HB5 := Lib.hid (HB4.out.trans (hb5.mono HB4.out.size))
          clear hG5 hb5 hge5 HSIA
          go_wp2_with fail
          refine (twice_any _ _ _ _ _ _ HG5.out).mono ?_
          rintro e w6 ⟨t1, rfl, ht1, hb6⟩
          have g0 := cell_below hb6 (Nat.le_refl _) g0
          have g1 := cell_below hb6 (Nat.le_refl _) g1
          have g2 := cell_below hb6 (Nat.le_refl _) g2
          have g3 := cell_below hb6 (Nat.le_refl _) g3
          have HGR := Lib.hid (HG45.out.below hb6 (Nat.le_refl _))
          have HBW := Lib.hid (HB5.out.trans (hb6.mono HB5.out.size))
          have HT1 := Lib.hid (twice_of HZA.out (fun z hzz => (HOKA.out z hzz).2) ht1)
          clear hb6 ht1 HG5
          cases t1 with
          | true =>
            go_wp2_with fail
            go_ret2
            exact ⟨HBW.out, .inr (.inl ⟨HOK3.out, .inl ⟨by decide, HT1.out.symm⟩, rfl⟩)⟩
          | false =>
            go_wp2_with fail
            refine (twice_any _ _ _ _ _ _ HGR.out).mono ?_
            rintro e w7 ⟨t2, rfl, ht2, hb7⟩
            have g0 := cell_below hb7 (Nat.le_refl _) g0
            have g1 := cell_below hb7 (Nat.le_refl _) g1
            have g2 := cell_below hb7 (Nat.le_refl _) g2
            have g3 := cell_below hb7 (Nat.le_refl _) g3
            have HGR2 := Lib.hid (HGR.out.below hb7 (Nat.le_refl _))
            have HBW2 := Lib.hid (HBW.out.trans (hb7.mono HBW.out.size))
            have HT2 := Lib.hid (twice_of HZB.out (fun z hzz => (HOKB.out z hzz).2) ht2)
            clear hb7 ht2
            cases t2 with
            | true =>
              go_wp2_with fail
              go_ret2
              exact ⟨HBW2.out, .inr (.inl ⟨HOK3.out, .inr ⟨by decide, HT2.out.symm⟩, rfl⟩)⟩
            | false =>
              have GW0 := Lib.hid g0
              have GW1 := Lib.hid g1
              have GW2 := Lib.hid g2
              have GW3 := Lib.hid g3
              have HNT := Lib.hid (show ¬ (((0 : Int) ≠ 1 ∧ twiceB (sgP how names) ps = true) ∨ ((0 : Int) ≠ 2 ∧ twiceB (sgP how names) qs = true)) from by rw [← HT1.out, ← HT2.out]; simp)
              have hmW : mb < w7.heap.size := World.block_lt_of_cell? w7 _ g0
              go_wp2_with fail
              clear g0 g1 g2 g3
              go_loopw [14, 57] (fun out i wr => ∃ (j : Nat), j ≤ NA ∧ i = .int .i64 j ∧ Hid (OV wr w7.heap.size out ((ps.take j).flatMap (rowP op 0 how names incl flag qs))) ∧ Hid (Below w7.heap.size w7 wr)) (fun _ i _ => NA - (intOf i).toNat)
              case atStart => exact ⟨0, Nat.zero_le _, rfl, OV.nil _ _, Below.refl _ _⟩
              case round =>
                obtain ⟨j, hj, rfl, HO, HB⟩ := hrel
                obtain ⟨wo, rfl⟩ : ∃ wo, wo = wr := ⟨_, rfl⟩
                have hBz := HB.out.size
                have h00 : (0 : Int) ≤ (j : Int) := by omega
                by_cases hlt : j < NA
                · have hltz : (j : Int) < (NA : Int) := by omega
                  have hjz : j < zsa.length := by have := HNA.out; omega
                  obtain ⟨b, off, rfl, hd⟩ := HCA.out j hjz
                  have hbw : Below w.heap.size w wo := HBW2.out.trans (HB.out.mono HBW2.out.size)
                  obtain ⟨z, hzj⟩ : ∃ z, z = zsa[j] := ⟨_, rfl⟩
                  have hzm : z ∈ zsa := by rw [hzj]; exact List.getElem_mem hjz
                  rw [← hzj] at hd
                  have hslz0 := HALA.out z hzm
                  have hslz := hslz0.below hbw (Nat.le_refl _)
                  have hjp : j < ps.length := by have := HLA.out; omega
                  have hpj : ps[j] = z.2 := by
                    rw [hzj]
                    have h1 := HZA.out
                    subst h1
                    rw [List.getElem_map]
                  obtain ⟨lv, zl, zf⟩ := z
                  have q0 : wo.cell? ⟨b, off + j * 2, none⟩ = some lv := cell_below hbw (Nat.le_refl _) (hd 0 _ rfl)
                  have q1 : wo.cell? ⟨b, off + j * 2 + 1, none⟩ = some (.float .f64 zf) := cell_below hbw (Nat.le_refl _) (hd 1 _ rfl)
                  obtain ⟨a2, n2, c2, rfl⟩ : ∃ a2 n2 c2, lv = .slice a2 n2 c2 := by
                    obtain ⟨a2, c2, e, -⟩ := hslz
                    exact ⟨a2, _, c2, e⟩
                  have G0' := cell_below HB.out (Nat.le_refl _) GW0.out
                  have G1' := cell_below HB.out (Nat.le_refl _) GW1.out
                  have hbl : b < wo.heap.size := World.block_lt_of_cell? wo _ q0
                  have hbgl : mb < wo.heap.size := World.block_lt_of_cell? wo _ G0'
                  have hbne : mb ≠ wo.heap.size := by omega
                  have hgok : SizesOk zl := (HOKA.out _ hzm).2
                  have hgl : zl.length ≤ 1000 := (HOKA.out _ hzm).1
                  have HGRP := Lib.hid (fun w' (hb : Below wo.heap.size wo w') => signkey_any how (.slice a2 n2 c2) (.slice an nn cn) zl names w' (hslz.below hb (Nat.le_refl _)) ((HSN.out.below hbw (Nat.le_refl _)).below hb (Nat.le_refl _)) hgl hgok (HTB.out.below (hbw.trans (hb.mono hbw.size)) (Nat.le_refl _)))
                  have HTK := Lib.hid (flat_take (rowP op 0 how names incl flag qs) ps j (zl, zf) hjp hpj)
                  obtain ⟨s, hs⟩ : ∃ s, s = keyL (signL how names zl) := ⟨_, rfl⟩
                  have HKS := Lib.hid (show s.size ≤ maxLen by rw [hs]; exact key_max (hgok.sign how names) (by have := sign_len how names zl; omega))
                  rw [← hs] at HGRP
                  obtain ⟨F, hF⟩ : ∃ F, F = grpB (sgZ how names) zsb s := ⟨_, rfl⟩
                  have hFm : F = membG (sgZ how names) zsb (signL how names zl) := by rw [hF, hs]; exact grp_memb _ (fun z hzz => (HOKB.out z hzz).2.sign how names) (hgok.sign how names)
                  have HFP := Lib.hid (show F.map (·.2) = membG (sgP how names) qs (signL how names zl) by
                    rw [hFm, ← HZB.out]
                    exact memb_map (fun z : ZPt => z.2) (sgP how names) zsb _)
                  have HFB := Lib.hid (fun z (h : z ∈ F) => (show z ∈ zsb by rw [hFm] at h; exact (List.mem_filter.1 h).1))
                  have hFl : F.length ≤ 300 := by rw [hFm]; exact Nat.le_trans (List.length_filter_le _ _) (by have := HNBZ.out; omega)
                  have hsF : Sl zenc w7 (V4 s) F := Sl.own zenc_len (by decide) (by have := HGR2.out.r s; rw [← hF] at this; exact this)
                  obtain ⟨af, cf, hvs, hlf, -, hcf⟩ := hsF.split zenc_len
                  have HCF := Lib.hid hcf
                  obtain ⟨M, hM⟩ : ∃ n, n = F.length := ⟨_, rfl⟩
                  rw [← hM] at hvs hlf hFl
                  have HM := Lib.hid hM
                  have HLZ := Lib.hid (fun w' (hb : Below w.heap.size w w') => hslz0.below hb (Nat.le_refl _))
                  have HZL := Lib.hid hgl
                  have HBW9 := Lib.hid hbw
                  clear hd hzj hzm hslz hslz0 hbw hgok hgl hs hjp hpj hF hFm hsF hcf hM
                  go_wp2_with fail
                  refine (HGRP.out _ ((Below.refl _ _).alloc (Nat.le_refl _) _)).mono ?_
                  rintro e w8 ⟨rfl, hb4⟩
                  have hb5 : Below wo.heap.size wo w8 := ((Below.refl wo.heap.size wo).alloc (Nat.le_refl _) (.cells #[.slice a2 n2 c2, .float .f64 zf] 50)).trans (hb4.mono (by simp))
                  have R0 := Lib.hid (show w8.cell? ⟨wo.heap.size, 0, none⟩ = some (.slice a2 n2 c2) from cell_below hb4 (Nat.le_refl _) (by simp))
                  have R1 := Lib.hid (show w8.cell? ⟨wo.heap.size, 1, none⟩ = some (.float .f64 zf) from cell_below hb4 (Nat.le_refl _) (by simp))
                  have hbW5 := HB.out.trans (hb5.mono hBz)
                  have hlk := (HGR2.out.below hbW5 (Nat.le_refl _)).m.look Tryz.underlying53 (zero_pts _) HKS.out
                  rw [hvs] at hlk
                  have HLK := Lib.hid hlk
                  have HOV5 := Lib.hid (HO.out.kept hb5)
                  have HNB := Lib.hid (show some wo.heap.size ≠ u14.ownBlock from fun e => by obtain ⟨_, _, h0, _⟩ := HO.out; have := (h0.lt _ e.symm).2; omega)
                  have HW8 := Lib.hid hbW5
                  have hz8 : wo.heap.size < w8.heap.size := World.block_lt_of_cell? w8 _ R0.out
                  obtain ⟨pre, hpre⟩ : ∃ l, l = (ps.take j).flatMap (rowP op 0 how names incl flag qs) := ⟨_, rfl⟩
                  have hpl : pre.length ≤ 90000 := by
                    rw [hpre]
                    have h1 := flat_le (rowP op 0 how names incl flag qs) 300 (fun p => rowP_len op 0 how names incl flag p HPB3.out) (ps.take j)
                    have h2 : (ps.take j).length ≤ 300 := by rw [List.length_take]; omega
                    have h3 := Nat.mul_le_mul_right 300 h2
                    omega
                  rw [← hpre] at HOV5 HTK
                  clear hb4 hb5 hbW5 hlk HGRP hvs HO hpre
                  go_wp2_with (first
                    | (at_lookup; refine wpList_lookup_of _ rfl _ _ _ false rfl _ _ _ rfl rfl HLK.out ?_))
                  go_loopw [14, 69] (fun out i wr => ∃ (k : Nat), k ≤ M ∧ i = .int .i64 k ∧ Hid (OV wr w7.heap.size out (pre ++ ((F.map (·.2)).take k).flatMap (pairP op 0 how names incl flag (zl, zf)))) ∧ Hid (Below w7.heap.size w7 wr) ∧ Hid (wr.cell? ⟨wo.heap.size, 0, none⟩ = some (.slice a2 n2 c2) ∧ wr.cell? ⟨wo.heap.size, 1, none⟩ = some (.float .f64 zf) ∧ some wo.heap.size ≠ out.ownBlock)) (fun _ i _ => M - (intOf i).toNat)
                  case atStart => exact ⟨0, Nat.zero_le _, rfl, (show OV w8 w7.heap.size u14 (pre ++ ((F.map (·.2)).take 0).flatMap (pairP op 0 how names incl flag (zl, zf))) by simpa using HOV5.out), HW8.out, R0.out, R1.out, HNB.out⟩
                  case round =>
                    obtain ⟨k, hk, rfl, HQ, HK, HRP⟩ := hrel
                    have hKz := HK.out.size
                    have h02 : (0 : Int) ≤ (k : Int) := by omega
                    obtain ⟨p0, p1, hnb⟩ := HRP.out
                    have hpbl : wo.heap.size < wr.heap.size := World.block_lt_of_cell? wr _ p0
                    by_cases hlt2 : k < M
                    · have hltz2 : (k : Int) < (M : Int) := by omega
                      have hkF : k < F.length := by have := HM.out; omega
                      obtain ⟨bf, off2, rfl, hd⟩ := HCF.out k hkF
                      have hbw : Below w.heap.size w wr := HBW2.out.trans (HK.out.mono HBW2.out.size)
                      obtain ⟨z, hzj⟩ : ∃ z, z = F[k] := ⟨_, rfl⟩
                      have hzm : z ∈ zsb := HFB.out z (by rw [hzj]; exact List.getElem_mem hkF)
                      rw [← hzj] at hd
                      have hslz := (HALB.out z hzm).below hbw (Nat.le_refl _)
                      have HTF := Lib.hid (flat_take (pairP op 0 how names incl flag (zl, zf)) (F.map (·.2)) k z.2 (by simpa using hkF) (by rw [List.getElem_map, hzj]))
                      obtain ⟨lq, ql, qf⟩ := z
                      have e0 : wr.cell? ⟨bf, off2 + k * 2, none⟩ = some lq := cell_below HK.out (Nat.le_refl _) (hd 0 _ rfl)
                      have e1 : wr.cell? ⟨bf, off2 + k * 2 + 1, none⟩ = some (.float .f64 qf) := cell_below HK.out (Nat.le_refl _) (hd 1 _ rfl)
                      obtain ⟨a3, n3, c3, rfl⟩ : ∃ a3 n3 c3, lq = .slice a3 n3 c3 := by
                        obtain ⟨a3, c3, e, -⟩ := hslz
                        exact ⟨a3, _, c3, e⟩
                      have hqln : ql.length ≤ 1000 := (HOKB.out _ hzm).1
                      have hbfl : bf < wr.heap.size := World.block_lt_of_cell? wr _ e0
                      obtain ⟨wA, hwA⟩ : ∃ wA, wA = wr.alloc (.cells #[.slice a3 n3 c3, .float .f64 qf] 50) := ⟨_, rfl⟩
                      obtain ⟨qb, hqb⟩ : ∃ b, b = wr.heap.size := ⟨_, rfl⟩
                      have hbA : Below wr.heap.size wr wA := by rw [hwA]; exact (Below.refl _ _).alloc (Nat.le_refl _) _
                      have t0 : wA.cell? ⟨qb, 0, none⟩ = some (.slice a3 n3 c3) := by rw [hwA, hqb]; simp
                      have t1 : wA.cell? ⟨qb, 1, none⟩ = some (.float .f64 qf) := by rw [hwA, hqb]; simp
                      have r0 := cell_below hbA (Nat.le_refl _) p0
                      have r1 := cell_below hbA (Nat.le_refl _) p1
                      have m0 := cell_below hbA (Nat.le_refl _) (cell_below HK.out (Nat.le_refl _) GW0.out)
                      have m1 := cell_below hbA (Nat.le_refl _) (cell_below HK.out (Nat.le_refl _) GW1.out)
                      have m2 := cell_below hbA (Nat.le_refl _) (cell_below HK.out (Nat.le_refl _) GW2.out)
                      have m3 := cell_below hbA (Nat.le_refl _) (cell_below HK.out (Nat.le_refl _) GW3.out)
                      obtain ⟨hv, hhv⟩ : ∃ b, b = holdsF op zf qf := ⟨_, rfl⟩
                      have HHD := Lib.hid (fun m => (holds_any op zf qf (wA.drewN m)).mono (R' := fun e w'' => e = .returned (.bool hv) ∧ ∃ k, w'' = wA.drewN k) fun _ _ ⟨he, hm⟩ => ⟨by rw [hhv]; exact he, m, hm.symm⟩)
                      have HHV := Lib.hid hhv
                      have HWA := Lib.hid hwA
                      have HQB := Lib.hid hqb
                      have HPR := Lib.hid (fun w' (hb : Below wr.heap.size wr w') => pair_any how 0 (.slice an nn cn) (.slice ai ni ci) (.slice a2 n2 c2) (.slice a3 n3 c3) names incl zl ql w' (HLZ.out w' (hbw.trans (hb.mono hbw.size))) (hslz.below hb (Nat.le_refl _)) (HSN.out.below (hbw.trans (hb.mono hbw.size)) (Nat.le_refl _)) (HSI.out.below (hbw.trans (hb.mono hbw.size)) (Nat.le_refl _)) (by decide) HZL.out hqln)
                      have HBA := Lib.hid hbA
                      have HQL := Lib.hid (show (pre ++ ((F.map (·.2)).take k).flatMap (pairP op 0 how names incl flag (zl, zf))).length ≤ 90300 by
                        have h1 := flat_le (pairP op 0 how names incl flag (zl, zf)) 1 (pairP_len op 0 how names incl flag (zl, zf)) ((F.map (·.2)).take k)
                        have h2 : ((F.map (·.2)).take k).length ≤ 300 := by rw [List.length_take]; omega
                        rw [List.length_append]
                        omega)
                      obtain ⟨cur, hcur⟩ : ∃ l, l = pre ++ ((F.map (·.2)).take k).flatMap (pairP op 0 how names incl flag (zl, zf)) := ⟨_, rfl⟩
                      rw [← hcur] at HQ HQL
                      have HCUR := Lib.hid (show pre ++ ((F.map (·.2)).take (k + 1)).flatMap (pairP op 0 how names incl flag (zl, zf)) = cur ++ pairP op 0 how names incl flag (zl, zf) (ql, qf) by rw [HTF.out, ← List.append_assoc, ← hcur])
                      clear hd hzj hzm hslz hhv hwA hqb hqln hbw hbA hcur p0 p1
                      go_wp2_with fail
                      rw [← HWA.out, ← HQB.out]
                      rw [show wA = wA.drewN 0 from rfl]
                      go_quiet ((go_at_call 24; exact HHD.out _))
                      have t0 : (wA.drewN nq).cell? ⟨qb, 0, none⟩ = some (.slice a3 n3 c3) := t0
                      have r0 : (wA.drewN nq).cell? ⟨wo.heap.size, 0, none⟩ = some (.slice a2 n2 c2) := r0
                      have t1 : (wA.drewN nq).cell? ⟨qb, 1, none⟩ = some (.float .f64 qf) := t1
                      have r1 : (wA.drewN nq).cell? ⟨wo.heap.size, 1, none⟩ = some (.float .f64 zf) := r1
                      have m0 : (wA.drewN nq).cell? ⟨mb, 0, none⟩ = some (.int .i64 how) := m0
                      have m1 : (wA.drewN nq).cell? ⟨mb, 1, none⟩ = some (.slice an nn cn) := m1
                      have m2 : (wA.drewN nq).cell? ⟨mb, 2, none⟩ = some (.int .i64 0) := m2
                      have m3 : (wA.drewN nq).cell? ⟨mb, 3, none⟩ = some (.slice ai ni ci) := m3
                      have HBA := Lib.hid (below_drewN HBA.out nq)
                      by_cases h5 : op < 5
                      · have b5 : decide (op < 5) = true := decide_eq_true h5
                        obtain ⟨ov, hov9⟩ : ∃ y, y = opV op zf qf := ⟨_, rfl⟩
                        have HOP := Lib.hid (op_any op zf qf (wA.drewN nq))
                        rw [← hov9, HOPK.out] at HOP
                        have HVV := Lib.hid hov9
                        clear hov9
                        go_wp2_with fail
                        refine HOP.out.mono ?_
                        rintro e w11 ⟨rfl, n11, rfl⟩
                        have t0 : ((wA.drewN nq).drewN n11).cell? ⟨qb, 0, none⟩ = some (.slice a3 n3 c3) := t0
                        have r0 : ((wA.drewN nq).drewN n11).cell? ⟨wo.heap.size, 0, none⟩ = some (.slice a2 n2 c2) := r0
                        have t1 : ((wA.drewN nq).drewN n11).cell? ⟨qb, 1, none⟩ = some (.float .f64 qf) := t1
                        have r1 : ((wA.drewN nq).drewN n11).cell? ⟨wo.heap.size, 1, none⟩ = some (.float .f64 zf) := r1
                        have m0 : ((wA.drewN nq).drewN n11).cell? ⟨mb, 0, none⟩ = some (.int .i64 how) := m0
                        have m1 : ((wA.drewN nq).drewN n11).cell? ⟨mb, 1, none⟩ = some (.slice an nn cn) := m1
                        have m2 : ((wA.drewN nq).drewN n11).cell? ⟨mb, 2, none⟩ = some (.int .i64 0) := m2
                        have m3 : ((wA.drewN nq).drewN n11).cell? ⟨mb, 3, none⟩ = some (.slice ai ni ci) := m3
                        have hbB := below_drewN HBA.out n11
                        generalize (wA.drewN nq).drewN n11 = wC at t0 t1 r0 r1 m0 m1 m2 m3 hbB ⊢
                        have HBA := Lib.hid hbB
                        clear hbB
                        have HPA := Lib.hid (HPR.out _ HBA.out)
                        have HCC := Lib.hid (show pairP op 0 how names incl flag (zl, zf) (ql, qf) = [(pairL 0 how names incl zl ql, ov)] from pairP_yes (show cellB op flag zf qf = true by unfold cellB; rw [if_pos (Or.inl h5)]; exact HOPK.out) (show cellV op flag zf qf = ov by unfold cellV; rw [if_pos (Or.inl h5)]; exact HVV.out.symm))
                        obtain ⟨pl, hpl2⟩ : ∃ l, l = pairL 0 how names incl zl ql := ⟨_, rfl⟩
                        rw [← hpl2] at HPA HCC
                        have r0' := Lib.hid r0
                        have r1' := Lib.hid r1
                        clear hpl2 HPR
                        go_wp2_with fail
                        refine HPA.out.mono ?_
                        rintro e w9 ⟨a9, n9, c9, rfl, hs9, ho9, hb9⟩
                        have hbq9 : Below wr.heap.size wr w9 := HBA.out.trans (hb9.mono HBA.out.size)
                        have hzA := HBA.out.size
                        have ho9' : ∀ q, (Value.slice a9 n9 c9).ownBlock = some q → wr.heap.size ≤ q := fun q hq => Nat.le_trans hzA (ho9 q hq)
                        have hz9q := hbq9.size
                        have hz9 : w7.heap.size ≤ w9.heap.size := by omega
                        have HLQ := Lib.hid (fun q (hq : u14.ownBlock = some q) => (show w7.heap.size ≤ q ∧ q < wr.heap.size by obtain ⟨_, _, h0, _⟩ := HQ.out; exact h0.lt q hq))
                        have HR9 := Lib.hid (cell_below hb9 (Nat.le_refl _) r0'.out)
                        have HR9' := Lib.hid (cell_below hb9 (Nat.le_refl _) r1'.out)
                        obtain ⟨zs0, hz0s, hown0, hzok0⟩ := HQ.out.kept hbq9
                        have HZ0 := Lib.hid hz0s
                        have HW0 := Lib.hid hown0
                        have HK0 := Lib.hid hzok0
                        have HS9 := Lib.hid hs9
                        have HO9 := Lib.hid ho9'
                        have HB9 := Lib.hid (HK.out.trans (hbq9.mono hKz))
                        have hqll := HQL.out
                        obtain ⟨cl, hcl⟩ : ∃ n, n = cur.length := ⟨_, rfl⟩
                        rw [← hcl] at hqll HW0
                        have HCL := Lib.hid hcl
                        clear hs9 ho9 ho9' hb9 hbq9 hz0s hown0 hzok0 hcl HPA t0 t1 r0 r1 m0 m1 m2 m3
                        go_wp2_with (at_builtin
                                     refine wpList_append_own_at _ rfl (.tmp 96) (.tmp 105) _ rfl w7.heap.size 50 i0 _ 2 32 Tryz.underlying27 hi hz0 hz1 hz2 rfl (by decide) u14 cl (zs0.flatMap zenc) rfl (World.ownsRow.alloc HW0.out _) ⟨w9.heap.size, 0, none⟩ 1 1 [.slice a9 n9 c9, .float .f64 ov] rfl rfl (World.news_of_block (heap_new w9 _)) (by intro u hu; simp at hu; rcases hu with rfl | rfl <;> rfl) (by unfold maxLen; omega) (by omega) (by simp; omega) ?_
                                     intro v' w10 hown' hgrow hnil hat
                                     have hbC : Below w9.heap.size w9 (w9.alloc (.cells #[.slice a9 n9 c9, .float .f64 ov] 50)) := (Below.refl _ _).alloc (Nat.le_refl _) _
                                     have hov' : OV w10 w7.heap.size v' (cur ++ [(pl, ov)]) := OV.appended (v' := v') (w' := w10) (z := (.slice a9 n9 c9, pl, ov)) HZ0.out (fun z hz => (HK0.out z hz).below hbC (Nat.le_refl _))
                                       ⟨HS9.out.below hbC (Nat.le_refl _), fun hx0 he => by
                                         obtain ⟨q, e1, _⟩ := HS9.out.lt hx0
                                         have h3 := HO9.out q e1
                                         have h4 := (HLQ.out q (by rw [← he]; exact e1)).2
                                         omega⟩ (by rw [← HCL.out]; exact hown') hgrow hat
                                     have HOV7 := Lib.hid hov'
                                     have HB10 := Lib.hid ((HB9.out.trans (hbC.mono hz9)).grown hgrow (by simp; omega) (fun q hq => (HLQ.out q hq).1))
                                     have HRP10 := Lib.hid (show w10.cell? ⟨wo.heap.size, 0, none⟩ = some (.slice a2 n2 c2) ∧ w10.cell? ⟨wo.heap.size, 1, none⟩ = some (.float .f64 zf) ∧ some wo.heap.size ≠ v'.ownBlock from ⟨hgrow.cell (cell_below hbC (Nat.le_refl _) HR9.out) hnb, hgrow.cell (cell_below hbC (Nat.le_refl _) HR9'.out) hnb, fun e => by
                                       rcases hat with h | h
                                       · exact hnb (e.trans h)
                                       · rw [h] at e
                                         injection e with e
                                         simp at e
                                         omega⟩)
                                     clear hown' hgrow hnil hat hov' hbC)
                        go_wp2_with fail
                        go_roundw
                        case rel => exact ⟨k + 1, by omega, by go_num, by rw [HCUR.out, HCC.out]; exact HOV7.out, HB10.out, HRP10.out⟩
                        case measure => simp [intOf]; omega
                      · have b5 : decide (op < 5) = false := decide_eq_false h5
                        have h5' : 5 ≤ op := by omega
                        cases flag with
                        | true =>
                          obtain ⟨ov, hov9⟩ : ∃ y, y = opV op zf qf := ⟨_, rfl⟩
                          have HOP := Lib.hid (op_any op zf qf (wA.drewN nq))
                          rw [← hov9, HOPK.out] at HOP
                          have HVV := Lib.hid hov9
                          clear hov9
                          go_wp2_with fail
                          refine HOP.out.mono ?_
                          rintro e w11 ⟨rfl, n11, rfl⟩
                          have t0 : ((wA.drewN nq).drewN n11).cell? ⟨qb, 0, none⟩ = some (.slice a3 n3 c3) := t0
                          have r0 : ((wA.drewN nq).drewN n11).cell? ⟨wo.heap.size, 0, none⟩ = some (.slice a2 n2 c2) := r0
                          have t1 : ((wA.drewN nq).drewN n11).cell? ⟨qb, 1, none⟩ = some (.float .f64 qf) := t1
                          have r1 : ((wA.drewN nq).drewN n11).cell? ⟨wo.heap.size, 1, none⟩ = some (.float .f64 zf) := r1
                          have m0 : ((wA.drewN nq).drewN n11).cell? ⟨mb, 0, none⟩ = some (.int .i64 how) := m0
                          have m1 : ((wA.drewN nq).drewN n11).cell? ⟨mb, 1, none⟩ = some (.slice an nn cn) := m1
                          have m2 : ((wA.drewN nq).drewN n11).cell? ⟨mb, 2, none⟩ = some (.int .i64 0) := m2
                          have m3 : ((wA.drewN nq).drewN n11).cell? ⟨mb, 3, none⟩ = some (.slice ai ni ci) := m3
                          have hbB := below_drewN HBA.out n11
                          generalize (wA.drewN nq).drewN n11 = wC at t0 t1 r0 r1 m0 m1 m2 m3 hbB ⊢
                          have HBA := Lib.hid hbB
                          clear hbB
                          have HPA := Lib.hid (HPR.out _ HBA.out)
                          have HCC := Lib.hid (show pairP op 0 how names incl true (zl, zf) (ql, qf) = [(pairL 0 how names incl zl ql, ov)] from pairP_yes (show cellB op true zf qf = true by unfold cellB; rw [if_pos (Or.inr rfl)]; exact HOPK.out) (show cellV op true zf qf = ov by unfold cellV; rw [if_pos (Or.inr rfl)]; exact HVV.out.symm))
                          obtain ⟨pl, hpl2⟩ : ∃ l, l = pairL 0 how names incl zl ql := ⟨_, rfl⟩
                          rw [← hpl2] at HPA HCC
                          have r0' := Lib.hid r0
                          have r1' := Lib.hid r1
                          clear hpl2 HPR
                          go_wp2_with fail
                          refine HPA.out.mono ?_
                          rintro e w9 ⟨a9, n9, c9, rfl, hs9, ho9, hb9⟩
                          have hbq9 : Below wr.heap.size wr w9 := HBA.out.trans (hb9.mono HBA.out.size)
                          have hzA := HBA.out.size
                          have ho9' : ∀ q, (Value.slice a9 n9 c9).ownBlock = some q → wr.heap.size ≤ q := fun q hq => Nat.le_trans hzA (ho9 q hq)
                          have hz9q := hbq9.size
                          have hz9 : w7.heap.size ≤ w9.heap.size := by omega
                          have HLQ := Lib.hid (fun q (hq : u14.ownBlock = some q) => (show w7.heap.size ≤ q ∧ q < wr.heap.size by obtain ⟨_, _, h0, _⟩ := HQ.out; exact h0.lt q hq))
                          have HR9 := Lib.hid (cell_below hb9 (Nat.le_refl _) r0'.out)
                          have HR9' := Lib.hid (cell_below hb9 (Nat.le_refl _) r1'.out)
                          obtain ⟨zs0, hz0s, hown0, hzok0⟩ := HQ.out.kept hbq9
                          have HZ0 := Lib.hid hz0s
                          have HW0 := Lib.hid hown0
                          have HK0 := Lib.hid hzok0
                          have HS9 := Lib.hid hs9
                          have HO9 := Lib.hid ho9'
                          have HB9 := Lib.hid (HK.out.trans (hbq9.mono hKz))
                          have hqll := HQL.out
                          obtain ⟨cl, hcl⟩ : ∃ n, n = cur.length := ⟨_, rfl⟩
                          rw [← hcl] at hqll HW0
                          have HCL := Lib.hid hcl
                          clear hs9 ho9 ho9' hb9 hbq9 hz0s hown0 hzok0 hcl HPA t0 t1 r0 r1 m0 m1 m2 m3
                          go_wp2_with (at_builtin
                                       refine wpList_append_own_at _ rfl (.tmp 96) (.tmp 105) _ rfl w7.heap.size 50 i0 _ 2 32 Tryz.underlying27 hi hz0 hz1 hz2 rfl (by decide) u14 cl (zs0.flatMap zenc) rfl (World.ownsRow.alloc HW0.out _) ⟨w9.heap.size, 0, none⟩ 1 1 [.slice a9 n9 c9, .float .f64 ov] rfl rfl (World.news_of_block (heap_new w9 _)) (by intro u hu; simp at hu; rcases hu with rfl | rfl <;> rfl) (by unfold maxLen; omega) (by omega) (by simp; omega) ?_
                                       intro v' w10 hown' hgrow hnil hat
                                       have hbC : Below w9.heap.size w9 (w9.alloc (.cells #[.slice a9 n9 c9, .float .f64 ov] 50)) := (Below.refl _ _).alloc (Nat.le_refl _) _
                                       have hov' : OV w10 w7.heap.size v' (cur ++ [(pl, ov)]) := OV.appended (v' := v') (w' := w10) (z := (.slice a9 n9 c9, pl, ov)) HZ0.out (fun z hz => (HK0.out z hz).below hbC (Nat.le_refl _))
                                         ⟨HS9.out.below hbC (Nat.le_refl _), fun hx0 he => by
                                           obtain ⟨q, e1, _⟩ := HS9.out.lt hx0
                                           have h3 := HO9.out q e1
                                           have h4 := (HLQ.out q (by rw [← he]; exact e1)).2
                                           omega⟩ (by rw [← HCL.out]; exact hown') hgrow hat
                                       have HOV7 := Lib.hid hov'
                                       have HB10 := Lib.hid ((HB9.out.trans (hbC.mono hz9)).grown hgrow (by simp; omega) (fun q hq => (HLQ.out q hq).1))
                                       have HRP10 := Lib.hid (show w10.cell? ⟨wo.heap.size, 0, none⟩ = some (.slice a2 n2 c2) ∧ w10.cell? ⟨wo.heap.size, 1, none⟩ = some (.float .f64 zf) ∧ some wo.heap.size ≠ v'.ownBlock from ⟨hgrow.cell (cell_below hbC (Nat.le_refl _) HR9.out) hnb, hgrow.cell (cell_below hbC (Nat.le_refl _) HR9'.out) hnb, fun e => by
                                         rcases hat with h | h
                                         · exact hnb (e.trans h)
                                         · rw [h] at e
                                           injection e with e
                                           simp at e
                                           omega⟩)
                                       clear hown' hgrow hnil hat hov' hbC)
                          go_wp2_with fail
                          go_roundw
                          case rel => exact ⟨k + 1, by omega, by go_num, by rw [HCUR.out, HCC.out]; exact HOV7.out, HB10.out, HRP10.out⟩
                          case measure => simp [intOf]; omega
                        | false =>
                          have hnf : ¬ (op < 5 ∨ false = true) := by simp; omega
                          cases hv with
                          | true =>
                            have HPA := Lib.hid (HPR.out _ HBA.out)
                            have HCC := Lib.hid (show pairP op 0 how names incl false (zl, zf) (ql, qf) = [(pairL 0 how names incl zl ql, zf)] from pairP_yes (show cellB op false zf qf = true by unfold cellB; rw [if_neg hnf]; exact HHV.out.symm) (show cellV op false zf qf = zf by unfold cellV; rw [if_neg hnf]))
                            obtain ⟨pl, hpl2⟩ : ∃ l, l = pairL 0 how names incl zl ql := ⟨_, rfl⟩
                            rw [← hpl2] at HPA HCC
                            have r0' := Lib.hid r0
                            have r1' := Lib.hid r1
                            clear hpl2 HPR
                            go_wp2_with fail
                            refine HPA.out.mono ?_
                            rintro e w9 ⟨a9, n9, c9, rfl, hs9, ho9, hb9⟩
                            have hbq9 : Below wr.heap.size wr w9 := HBA.out.trans (hb9.mono HBA.out.size)
                            have hzA := HBA.out.size
                            have ho9' : ∀ q, (Value.slice a9 n9 c9).ownBlock = some q → wr.heap.size ≤ q := fun q hq => Nat.le_trans hzA (ho9 q hq)
                            have hz9q := hbq9.size
                            have hz9 : w7.heap.size ≤ w9.heap.size := by omega
                            have HLQ := Lib.hid (fun q (hq : u14.ownBlock = some q) => (show w7.heap.size ≤ q ∧ q < wr.heap.size by obtain ⟨_, _, h0, _⟩ := HQ.out; exact h0.lt q hq))
                            have HR9 := Lib.hid (cell_below hb9 (Nat.le_refl _) r0'.out)
                            have HR9' := Lib.hid (cell_below hb9 (Nat.le_refl _) r1'.out)
                            obtain ⟨zs0, hz0s, hown0, hzok0⟩ := HQ.out.kept hbq9
                            have HZ0 := Lib.hid hz0s
                            have HW0 := Lib.hid hown0
                            have HK0 := Lib.hid hzok0
                            have HS9 := Lib.hid hs9
                            have HO9 := Lib.hid ho9'
                            have HB9 := Lib.hid (HK.out.trans (hbq9.mono hKz))
                            have hqll := HQL.out
                            obtain ⟨cl, hcl⟩ : ∃ n, n = cur.length := ⟨_, rfl⟩
                            rw [← hcl] at hqll HW0
                            have HCL := Lib.hid hcl
                            clear hs9 ho9 ho9' hb9 hbq9 hz0s hown0 hzok0 hcl HPA t0 t1 r0 r1 m0 m1 m2 m3
                            go_wp2_with (at_builtin
                                         refine wpList_append_own_at _ rfl (.tmp 96) (.tmp 105) _ rfl w7.heap.size 50 i0 _ 2 32 Tryz.underlying27 hi hz0 hz1 hz2 rfl (by decide) u14 cl (zs0.flatMap zenc) rfl (World.ownsRow.alloc HW0.out _) ⟨w9.heap.size, 0, none⟩ 1 1 [.slice a9 n9 c9, .float .f64 zf] rfl rfl (World.news_of_block (heap_new w9 _)) (by intro u hu; simp at hu; rcases hu with rfl | rfl <;> rfl) (by unfold maxLen; omega) (by omega) (by simp; omega) ?_
                                         intro v' w10 hown' hgrow hnil hat
                                         have hbC : Below w9.heap.size w9 (w9.alloc (.cells #[.slice a9 n9 c9, .float .f64 zf] 50)) := (Below.refl _ _).alloc (Nat.le_refl _) _
                                         have hov' : OV w10 w7.heap.size v' (cur ++ [(pl, zf)]) := OV.appended (v' := v') (w' := w10) (z := (.slice a9 n9 c9, pl, zf)) HZ0.out (fun z hz => (HK0.out z hz).below hbC (Nat.le_refl _))
                                           ⟨HS9.out.below hbC (Nat.le_refl _), fun hx0 he => by
                                             obtain ⟨q, e1, _⟩ := HS9.out.lt hx0
                                             have h3 := HO9.out q e1
                                             have h4 := (HLQ.out q (by rw [← he]; exact e1)).2
                                             omega⟩ (by rw [← HCL.out]; exact hown') hgrow hat
                                         have HOV7 := Lib.hid hov'
                                         have HB10 := Lib.hid ((HB9.out.trans (hbC.mono hz9)).grown hgrow (by simp; omega) (fun q hq => (HLQ.out q hq).1))
                                         have HRP10 := Lib.hid (show w10.cell? ⟨wo.heap.size, 0, none⟩ = some (.slice a2 n2 c2) ∧ w10.cell? ⟨wo.heap.size, 1, none⟩ = some (.float .f64 zf) ∧ some wo.heap.size ≠ v'.ownBlock from ⟨hgrow.cell (cell_below hbC (Nat.le_refl _) HR9.out) hnb, hgrow.cell (cell_below hbC (Nat.le_refl _) HR9'.out) hnb, fun e => by
                                           rcases hat with h | h
                                           · exact hnb (e.trans h)
                                           · rw [h] at e
                                             injection e with e
                                             simp at e
                                             omega⟩)
                                         clear hown' hgrow hnil hat hov' hbC)
                            go_wp2_with fail
                            go_roundw
                            case rel => exact ⟨k + 1, by omega, by go_num, by rw [HCUR.out, HCC.out]; exact HOV7.out, HB10.out, HRP10.out⟩
                            case measure => simp [intOf]; omega
                          | false =>
                            have HCC := Lib.hid (show pairP op 0 how names incl false (zl, zf) (ql, qf) = [] from pairP_no (show cellB op false zf qf = false by unfold cellB; rw [if_neg hnf]; exact HHV.out.symm))
                            have HOV7 := Lib.hid (HQ.out.kept HBA.out)
                            have HB10 := Lib.hid (HK.out.trans (HBA.out.mono hKz))
                            have HRP10 := Lib.hid (⟨r0, r1, hnb⟩ : (wA.drewN nq).cell? ⟨wo.heap.size, 0, none⟩ = some (.slice a2 n2 c2) ∧ (wA.drewN nq).cell? ⟨wo.heap.size, 1, none⟩ = some (.float .f64 zf) ∧ some wo.heap.size ≠ u14.ownBlock)
                            go_wp2_with fail
                            go_roundw
                            case rel => exact ⟨k + 1, by omega, by go_num, by rw [HCUR.out, HCC.out, List.append_nil]; exact HOV7.out, HB10.out, HRP10.out⟩
                            case measure => simp [intOf]; omega
                    · have hltz2 : ¬ (k : Int) < (M : Int) := by omega
                      obtain rfl : k = M := by omega
                      have HQE := Lib.hid (show OV wr w7.heap.size u14 ((ps.take (j + 1)).flatMap (rowP op 0 how names incl flag qs)) by
                        have h1 := HQ.out
                        rw [List.take_of_length_le (by have := HM.out; simp; omega), HFP.out] at h1
                        rw [HTK.out]; exact h1)
                      clear HQ
                      go_wp2_with fail
                      go_roundw
                      case rel => exact ⟨j + 1, by omega, by go_num, HQE.out, HK.out⟩
                      case measure => simp [intOf]; omega
                · have hltz : ¬ (j : Int) < (NA : Int) := by omega
                  obtain rfl : j = NA := by omega
                  have hov := HO.out
                  rw [List.take_of_length_le (by have := HLA.out; omega)] at hov
                  have HNM := Lib.hid (normal_any _ _ wo hov.vs (by
                    have h1 := flat_le (rowP op 0 how names incl flag qs) 300 (fun p => rowP_len op 0 how names incl flag p HPB3.out) ps
                    have h2 := HPA3.out
                    have h3 := Nat.mul_le_mul_right 300 h2
                    omega))
                  obtain ⟨a8, c8, rfl, -, -⟩ := hov.slice
                  obtain ⟨N8, hN8⟩ : ∃ n, n = (ps.flatMap (rowP op 0 how names incl flag qs)).length := ⟨_, rfl⟩
                  rw [← hN8] at HNM ⊢
                  clear hov HO hN8
                  go_wp2_with fail
                  refine HNM.out.mono ?_
                  rintro e w9 ⟨hb9, hnr⟩
                  obtain ⟨v5, n5, rfl⟩ := nr_tuple hnr
                  have HNR := Lib.hid hnr
                  have HB9 := Lib.hid (HBW2.out.trans ((HB.out.trans (hb9.mono hBz)).mono HBW2.out.size))
                  clear hnr hb9 HNM
                  go_wp2_with fail
                  go_ret2
                  exact ⟨HB9.out, .inr (.inr ⟨HOK3.out, HNT.out, HNR.out⟩)⟩
        · subst hcd
          go_enter Tryz.func9, Tryz.ntmps9
          go_wp2_with fail
          rw [← HW1.out, ← HMB.out]
          refine (HCK.out _ HB1.out).mono ?_
          rintro e w2 ⟨rfl, hb2⟩
          have g0 := cell_below hb2 (Nat.le_refl _) Q0.out
          have g1 := cell_below hb2 (Nat.le_refl _) Q1.out
          have g2 := cell_below hb2 (Nat.le_refl _) Q2.out
          have g3 := cell_below hb2 (Nat.le_refl _) Q3.out
          have HB2 := Lib.hid (HB1.out.trans (hb2.mono HB1.out.size))
          clear hb2 HCK
          go_wp2_with fail
          refine (HSIB.out _ HB2.out).mono ?_
          rintro e w4 ⟨b4, base4, V4, rfl, hge4, hG4, hb4⟩
          have g0 := cell_below hb4 (Nat.le_refl _) g0
          have g1 := cell_below hb4 (Nat.le_refl _) g1
          have g2 := cell_below hb4 (Nat.le_refl _) g2
          have g3 := cell_below hb4 (Nat.le_refl _) g3
          have HG4 := Lib.hid hG4
          have HB4 := Lib.hid (HB2.out.trans (hb4.mono HB2.out.size))
          clear hG4 hb4 hge4 HSIB
          go_wp2_with fail
          refine (twice_any _ _ _ _ _ _ HG4.out).mono ?_
          rintro e w7 ⟨t2, rfl, ht2, hb7⟩
          have g0 := cell_below hb7 (Nat.le_refl _) g0
          have g1 := cell_below hb7 (Nat.le_refl _) g1
          have g2 := cell_below hb7 (Nat.le_refl _) g2
          have g3 := cell_below hb7 (Nat.le_refl _) g3
          have HGR2 := Lib.hid (HG4.out.below hb7 (Nat.le_refl _))
          have HBW2 := Lib.hid (HB4.out.trans (hb7.mono HB4.out.size))
          have HT2 := Lib.hid (twice_of HZB.out (fun z hzz => (HOKB.out z hzz).2) ht2)
          clear hb7 ht2
          cases t2 with
          | true =>
            go_wp2_with fail
            go_ret2
            exact ⟨HBW2.out, .inr (.inl ⟨HOK3.out, .inr ⟨by decide, HT2.out.symm⟩, rfl⟩)⟩
          | false =>
            have GW0 := Lib.hid g0
            have GW1 := Lib.hid g1
            have GW2 := Lib.hid g2
            have GW3 := Lib.hid g3
            have HNT := Lib.hid (show ¬ (((1 : Int) ≠ 1 ∧ twiceB (sgP how names) ps = true) ∨ ((1 : Int) ≠ 2 ∧ twiceB (sgP how names) qs = true)) from by rw [← HT2.out]; simp)
            have hmW : mb < w7.heap.size := World.block_lt_of_cell? w7 _ g0
            go_wp2_with fail
            clear g0 g1 g2 g3
            go_loopw [14, 57] (fun out i wr => ∃ (j : Nat), j ≤ NA ∧ i = .int .i64 j ∧ Hid (OV wr w7.heap.size out ((ps.take j).flatMap (rowP op 1 how names incl flag qs))) ∧ Hid (Below w7.heap.size w7 wr)) (fun _ i _ => NA - (intOf i).toNat)
            case atStart => exact ⟨0, Nat.zero_le _, rfl, OV.nil _ _, Below.refl _ _⟩
            case round =>
              obtain ⟨j, hj, rfl, HO, HB⟩ := hrel
              obtain ⟨wo, rfl⟩ : ∃ wo, wo = wr := ⟨_, rfl⟩
              have hBz := HB.out.size
              have h00 : (0 : Int) ≤ (j : Int) := by omega
              by_cases hlt : j < NA
              · have hltz : (j : Int) < (NA : Int) := by omega
                have hjz : j < zsa.length := by have := HNA.out; omega
                obtain ⟨b, off, rfl, hd⟩ := HCA.out j hjz
                have hbw : Below w.heap.size w wo := HBW2.out.trans (HB.out.mono HBW2.out.size)
                obtain ⟨z, hzj⟩ : ∃ z, z = zsa[j] := ⟨_, rfl⟩
                have hzm : z ∈ zsa := by rw [hzj]; exact List.getElem_mem hjz
                rw [← hzj] at hd
                have hslz0 := HALA.out z hzm
                have hslz := hslz0.below hbw (Nat.le_refl _)
                have hjp : j < ps.length := by have := HLA.out; omega
                have hpj : ps[j] = z.2 := by
                  rw [hzj]
                  have h1 := HZA.out
                  subst h1
                  rw [List.getElem_map]
                obtain ⟨lv, zl, zf⟩ := z
                have q0 : wo.cell? ⟨b, off + j * 2, none⟩ = some lv := cell_below hbw (Nat.le_refl _) (hd 0 _ rfl)
                have q1 : wo.cell? ⟨b, off + j * 2 + 1, none⟩ = some (.float .f64 zf) := cell_below hbw (Nat.le_refl _) (hd 1 _ rfl)
                obtain ⟨a2, n2, c2, rfl⟩ : ∃ a2 n2 c2, lv = .slice a2 n2 c2 := by
                  obtain ⟨a2, c2, e, -⟩ := hslz
                  exact ⟨a2, _, c2, e⟩
                have G0' := cell_below HB.out (Nat.le_refl _) GW0.out
                have G1' := cell_below HB.out (Nat.le_refl _) GW1.out
                have hbl : b < wo.heap.size := World.block_lt_of_cell? wo _ q0
                have hbgl : mb < wo.heap.size := World.block_lt_of_cell? wo _ G0'
                have hbne : mb ≠ wo.heap.size := by omega
                have hgok : SizesOk zl := (HOKA.out _ hzm).2
                have hgl : zl.length ≤ 1000 := (HOKA.out _ hzm).1
                have HGRP := Lib.hid (fun w' (hb : Below wo.heap.size wo w') => signkey_any how (.slice a2 n2 c2) (.slice an nn cn) zl names w' (hslz.below hb (Nat.le_refl _)) ((HSN.out.below hbw (Nat.le_refl _)).below hb (Nat.le_refl _)) hgl hgok (HTB.out.below (hbw.trans (hb.mono hbw.size)) (Nat.le_refl _)))
                have HTK := Lib.hid (flat_take (rowP op 1 how names incl flag qs) ps j (zl, zf) hjp hpj)
                obtain ⟨s, hs⟩ : ∃ s, s = keyL (signL how names zl) := ⟨_, rfl⟩
                have HKS := Lib.hid (show s.size ≤ maxLen by rw [hs]; exact key_max (hgok.sign how names) (by have := sign_len how names zl; omega))
                rw [← hs] at HGRP
                obtain ⟨F, hF⟩ : ∃ F, F = grpB (sgZ how names) zsb s := ⟨_, rfl⟩
                have hFm : F = membG (sgZ how names) zsb (signL how names zl) := by rw [hF, hs]; exact grp_memb _ (fun z hzz => (HOKB.out z hzz).2.sign how names) (hgok.sign how names)
                have HFP := Lib.hid (show F.map (·.2) = membG (sgP how names) qs (signL how names zl) by
                  rw [hFm, ← HZB.out]
                  exact memb_map (fun z : ZPt => z.2) (sgP how names) zsb _)
                have HFB := Lib.hid (fun z (h : z ∈ F) => (show z ∈ zsb by rw [hFm] at h; exact (List.mem_filter.1 h).1))
                have hFl : F.length ≤ 300 := by rw [hFm]; exact Nat.le_trans (List.length_filter_le _ _) (by have := HNBZ.out; omega)
                have hsF : Sl zenc w7 (V4 s) F := Sl.own zenc_len (by decide) (by have := HGR2.out.r s; rw [← hF] at this; exact this)
                obtain ⟨af, cf, hvs, hlf, -, hcf⟩ := hsF.split zenc_len
                have HCF := Lib.hid hcf
                obtain ⟨M, hM⟩ : ∃ n, n = F.length := ⟨_, rfl⟩
                rw [← hM] at hvs hlf hFl
                have HM := Lib.hid hM
                have HLZ := Lib.hid (fun w' (hb : Below w.heap.size w w') => hslz0.below hb (Nat.le_refl _))
                have HZL := Lib.hid hgl
                have HBW9 := Lib.hid hbw
                clear hd hzj hzm hslz hslz0 hbw hgok hgl hs hjp hpj hF hFm hsF hcf hM
                go_wp2_with fail
                refine (HGRP.out _ ((Below.refl _ _).alloc (Nat.le_refl _) _)).mono ?_
                rintro e w8 ⟨rfl, hb4⟩
                have hb5 : Below wo.heap.size wo w8 := ((Below.refl wo.heap.size wo).alloc (Nat.le_refl _) (.cells #[.slice a2 n2 c2, .float .f64 zf] 50)).trans (hb4.mono (by simp))
                have R0 := Lib.hid (show w8.cell? ⟨wo.heap.size, 0, none⟩ = some (.slice a2 n2 c2) from cell_below hb4 (Nat.le_refl _) (by simp))
                have R1 := Lib.hid (show w8.cell? ⟨wo.heap.size, 1, none⟩ = some (.float .f64 zf) from cell_below hb4 (Nat.le_refl _) (by simp))
                have hbW5 := HB.out.trans (hb5.mono hBz)
                have hlk := (HGR2.out.below hbW5 (Nat.le_refl _)).m.look Tryz.underlying53 (zero_pts _) HKS.out
                rw [hvs] at hlk
                have HLK := Lib.hid hlk
                have HOV5 := Lib.hid (HO.out.kept hb5)
                have HNB := Lib.hid (show some wo.heap.size ≠ u14.ownBlock from fun e => by obtain ⟨_, _, h0, _⟩ := HO.out; have := (h0.lt _ e.symm).2; omega)
                have HW8 := Lib.hid hbW5
                have hz8 : wo.heap.size < w8.heap.size := World.block_lt_of_cell? w8 _ R0.out
                obtain ⟨pre, hpre⟩ : ∃ l, l = (ps.take j).flatMap (rowP op 1 how names incl flag qs) := ⟨_, rfl⟩
                have hpl : pre.length ≤ 90000 := by
                  rw [hpre]
                  have h1 := flat_le (rowP op 1 how names incl flag qs) 300 (fun p => rowP_len op 1 how names incl flag p HPB3.out) (ps.take j)
                  have h2 : (ps.take j).length ≤ 300 := by rw [List.length_take]; omega
                  have h3 := Nat.mul_le_mul_right 300 h2
                  omega
                rw [← hpre] at HOV5 HTK
                clear hb4 hb5 hbW5 hlk HGRP hvs HO hpre
                go_wp2_with (first
                  | (at_lookup; refine wpList_lookup_of _ rfl _ _ _ false rfl _ _ _ rfl rfl HLK.out ?_))
                go_loopw [14, 69] (fun out i wr => ∃ (k : Nat), k ≤ M ∧ i = .int .i64 k ∧ Hid (OV wr w7.heap.size out (pre ++ ((F.map (·.2)).take k).flatMap (pairP op 1 how names incl flag (zl, zf)))) ∧ Hid (Below w7.heap.size w7 wr) ∧ Hid (wr.cell? ⟨wo.heap.size, 0, none⟩ = some (.slice a2 n2 c2) ∧ wr.cell? ⟨wo.heap.size, 1, none⟩ = some (.float .f64 zf) ∧ some wo.heap.size ≠ out.ownBlock)) (fun _ i _ => M - (intOf i).toNat)
                case atStart => exact ⟨0, Nat.zero_le _, rfl, (show OV w8 w7.heap.size u14 (pre ++ ((F.map (·.2)).take 0).flatMap (pairP op 1 how names incl flag (zl, zf))) by simpa using HOV5.out), HW8.out, R0.out, R1.out, HNB.out⟩
                case round =>
                  obtain ⟨k, hk, rfl, HQ, HK, HRP⟩ := hrel
                  have hKz := HK.out.size
                  have h02 : (0 : Int) ≤ (k : Int) := by omega
                  obtain ⟨p0, p1, hnb⟩ := HRP.out
                  have hpbl : wo.heap.size < wr.heap.size := World.block_lt_of_cell? wr _ p0
                  by_cases hlt2 : k < M
                  · have hltz2 : (k : Int) < (M : Int) := by omega
                    have hkF : k < F.length := by have := HM.out; omega
                    obtain ⟨bf, off2, rfl, hd⟩ := HCF.out k hkF
                    have hbw : Below w.heap.size w wr := HBW2.out.trans (HK.out.mono HBW2.out.size)
                    obtain ⟨z, hzj⟩ : ∃ z, z = F[k] := ⟨_, rfl⟩
                    have hzm : z ∈ zsb := HFB.out z (by rw [hzj]; exact List.getElem_mem hkF)
                    rw [← hzj] at hd
                    have hslz := (HALB.out z hzm).below hbw (Nat.le_refl _)
                    have HTF := Lib.hid (flat_take (pairP op 1 how names incl flag (zl, zf)) (F.map (·.2)) k z.2 (by simpa using hkF) (by rw [List.getElem_map, hzj]))
                    obtain ⟨lq, ql, qf⟩ := z
                    have e0 : wr.cell? ⟨bf, off2 + k * 2, none⟩ = some lq := cell_below HK.out (Nat.le_refl _) (hd 0 _ rfl)
                    have e1 : wr.cell? ⟨bf, off2 + k * 2 + 1, none⟩ = some (.float .f64 qf) := cell_below HK.out (Nat.le_refl _) (hd 1 _ rfl)
                    obtain ⟨a3, n3, c3, rfl⟩ : ∃ a3 n3 c3, lq = .slice a3 n3 c3 := by
                      obtain ⟨a3, c3, e, -⟩ := hslz
                      exact ⟨a3, _, c3, e⟩
                    have hqln : ql.length ≤ 1000 := (HOKB.out _ hzm).1
                    have hbfl : bf < wr.heap.size := World.block_lt_of_cell? wr _ e0
                    obtain ⟨wA, hwA⟩ : ∃ wA, wA = wr.alloc (.cells #[.slice a3 n3 c3, .float .f64 qf] 50) := ⟨_, rfl⟩
                    obtain ⟨qb, hqb⟩ : ∃ b, b = wr.heap.size := ⟨_, rfl⟩
                    have hbA : Below wr.heap.size wr wA := by rw [hwA]; exact (Below.refl _ _).alloc (Nat.le_refl _) _
                    have t0 : wA.cell? ⟨qb, 0, none⟩ = some (.slice a3 n3 c3) := by rw [hwA, hqb]; simp
                    have t1 : wA.cell? ⟨qb, 1, none⟩ = some (.float .f64 qf) := by rw [hwA, hqb]; simp
                    have r0 := cell_below hbA (Nat.le_refl _) p0
                    have r1 := cell_below hbA (Nat.le_refl _) p1
                    have m0 := cell_below hbA (Nat.le_refl _) (cell_below HK.out (Nat.le_refl _) GW0.out)
                    have m1 := cell_below hbA (Nat.le_refl _) (cell_below HK.out (Nat.le_refl _) GW1.out)
                    have m2 := cell_below hbA (Nat.le_refl _) (cell_below HK.out (Nat.le_refl _) GW2.out)
                    have m3 := cell_below hbA (Nat.le_refl _) (cell_below HK.out (Nat.le_refl _) GW3.out)
                    obtain ⟨hv, hhv⟩ : ∃ b, b = holdsF op zf qf := ⟨_, rfl⟩
                    have HHD := Lib.hid (fun m => (holds_any op zf qf (wA.drewN m)).mono (R' := fun e w'' => e = .returned (.bool hv) ∧ ∃ k, w'' = wA.drewN k) fun _ _ ⟨he, hm⟩ => ⟨by rw [hhv]; exact he, m, hm.symm⟩)
                    have HHV := Lib.hid hhv
                    have HWA := Lib.hid hwA
                    have HQB := Lib.hid hqb
                    have HPR := Lib.hid (fun w' (hb : Below wr.heap.size wr w') => pair_any how 1 (.slice an nn cn) (.slice ai ni ci) (.slice a2 n2 c2) (.slice a3 n3 c3) names incl zl ql w' (HLZ.out w' (hbw.trans (hb.mono hbw.size))) (hslz.below hb (Nat.le_refl _)) (HSN.out.below (hbw.trans (hb.mono hbw.size)) (Nat.le_refl _)) (HSI.out.below (hbw.trans (hb.mono hbw.size)) (Nat.le_refl _)) (by decide) HZL.out hqln)
                    have HBA := Lib.hid hbA
                    have HQL := Lib.hid (show (pre ++ ((F.map (·.2)).take k).flatMap (pairP op 1 how names incl flag (zl, zf))).length ≤ 90300 by
                      have h1 := flat_le (pairP op 1 how names incl flag (zl, zf)) 1 (pairP_len op 1 how names incl flag (zl, zf)) ((F.map (·.2)).take k)
                      have h2 : ((F.map (·.2)).take k).length ≤ 300 := by rw [List.length_take]; omega
                      rw [List.length_append]
                      omega)
                    obtain ⟨cur, hcur⟩ : ∃ l, l = pre ++ ((F.map (·.2)).take k).flatMap (pairP op 1 how names incl flag (zl, zf)) := ⟨_, rfl⟩
                    rw [← hcur] at HQ HQL
                    have HCUR := Lib.hid (show pre ++ ((F.map (·.2)).take (k + 1)).flatMap (pairP op 1 how names incl flag (zl, zf)) = cur ++ pairP op 1 how names incl flag (zl, zf) (ql, qf) by rw [HTF.out, ← List.append_assoc, ← hcur])
                    clear hd hzj hzm hslz hhv hwA hqb hqln hbw hbA hcur p0 p1
                    go_wp2_with fail
                    rw [← HWA.out, ← HQB.out]
                    rw [show wA = wA.drewN 0 from rfl]
                    go_quiet ((go_at_call 24; exact HHD.out _))
                    have t0 : (wA.drewN nq).cell? ⟨qb, 0, none⟩ = some (.slice a3 n3 c3) := t0
                    have r0 : (wA.drewN nq).cell? ⟨wo.heap.size, 0, none⟩ = some (.slice a2 n2 c2) := r0
                    have t1 : (wA.drewN nq).cell? ⟨qb, 1, none⟩ = some (.float .f64 qf) := t1
                    have r1 : (wA.drewN nq).cell? ⟨wo.heap.size, 1, none⟩ = some (.float .f64 zf) := r1
                    have m0 : (wA.drewN nq).cell? ⟨mb, 0, none⟩ = some (.int .i64 how) := m0
                    have m1 : (wA.drewN nq).cell? ⟨mb, 1, none⟩ = some (.slice an nn cn) := m1
                    have m2 : (wA.drewN nq).cell? ⟨mb, 2, none⟩ = some (.int .i64 1) := m2
                    have m3 : (wA.drewN nq).cell? ⟨mb, 3, none⟩ = some (.slice ai ni ci) := m3
                    have HBA := Lib.hid (below_drewN HBA.out nq)
                    by_cases h5 : op < 5
                    · have b5 : decide (op < 5) = true := decide_eq_true h5
                      obtain ⟨ov, hov9⟩ : ∃ y, y = opV op zf qf := ⟨_, rfl⟩
                      have HOP := Lib.hid (op_any op zf qf (wA.drewN nq))
                      rw [← hov9, HOPK.out] at HOP
                      have HVV := Lib.hid hov9
                      clear hov9
                      go_wp2_with fail
                      refine HOP.out.mono ?_
                      rintro e w11 ⟨rfl, n11, rfl⟩
                      have t0 : ((wA.drewN nq).drewN n11).cell? ⟨qb, 0, none⟩ = some (.slice a3 n3 c3) := t0
                      have r0 : ((wA.drewN nq).drewN n11).cell? ⟨wo.heap.size, 0, none⟩ = some (.slice a2 n2 c2) := r0
                      have t1 : ((wA.drewN nq).drewN n11).cell? ⟨qb, 1, none⟩ = some (.float .f64 qf) := t1
                      have r1 : ((wA.drewN nq).drewN n11).cell? ⟨wo.heap.size, 1, none⟩ = some (.float .f64 zf) := r1
                      have m0 : ((wA.drewN nq).drewN n11).cell? ⟨mb, 0, none⟩ = some (.int .i64 how) := m0
                      have m1 : ((wA.drewN nq).drewN n11).cell? ⟨mb, 1, none⟩ = some (.slice an nn cn) := m1
                      have m2 : ((wA.drewN nq).drewN n11).cell? ⟨mb, 2, none⟩ = some (.int .i64 1) := m2
                      have m3 : ((wA.drewN nq).drewN n11).cell? ⟨mb, 3, none⟩ = some (.slice ai ni ci) := m3
                      have hbB := below_drewN HBA.out n11
                      generalize (wA.drewN nq).drewN n11 = wC at t0 t1 r0 r1 m0 m1 m2 m3 hbB ⊢
                      have HBA := Lib.hid hbB
                      clear hbB
                      have HPA := Lib.hid (HPR.out _ HBA.out)
                      have HCC := Lib.hid (show pairP op 1 how names incl flag (zl, zf) (ql, qf) = [(pairL 1 how names incl zl ql, ov)] from pairP_yes (show cellB op flag zf qf = true by unfold cellB; rw [if_pos (Or.inl h5)]; exact HOPK.out) (show cellV op flag zf qf = ov by unfold cellV; rw [if_pos (Or.inl h5)]; exact HVV.out.symm))
                      obtain ⟨pl, hpl2⟩ : ∃ l, l = pairL 1 how names incl zl ql := ⟨_, rfl⟩
                      rw [← hpl2] at HPA HCC
                      have r0' := Lib.hid r0
                      have r1' := Lib.hid r1
                      clear hpl2 HPR
                      go_wp2_with fail
                      refine HPA.out.mono ?_
                      rintro e w9 ⟨a9, n9, c9, rfl, hs9, ho9, hb9⟩
                      have hbq9 : Below wr.heap.size wr w9 := HBA.out.trans (hb9.mono HBA.out.size)
                      have hzA := HBA.out.size
                      have ho9' : ∀ q, (Value.slice a9 n9 c9).ownBlock = some q → wr.heap.size ≤ q := fun q hq => Nat.le_trans hzA (ho9 q hq)
                      have hz9q := hbq9.size
                      have hz9 : w7.heap.size ≤ w9.heap.size := by omega
                      have HLQ := Lib.hid (fun q (hq : u14.ownBlock = some q) => (show w7.heap.size ≤ q ∧ q < wr.heap.size by obtain ⟨_, _, h0, _⟩ := HQ.out; exact h0.lt q hq))
                      have HR9 := Lib.hid (cell_below hb9 (Nat.le_refl _) r0'.out)
                      have HR9' := Lib.hid (cell_below hb9 (Nat.le_refl _) r1'.out)
                      obtain ⟨zs0, hz0s, hown0, hzok0⟩ := HQ.out.kept hbq9
                      have HZ0 := Lib.hid hz0s
                      have HW0 := Lib.hid hown0
                      have HK0 := Lib.hid hzok0
                      have HS9 := Lib.hid hs9
                      have HO9 := Lib.hid ho9'
                      have HB9 := Lib.hid (HK.out.trans (hbq9.mono hKz))
                      have hqll := HQL.out
                      obtain ⟨cl, hcl⟩ : ∃ n, n = cur.length := ⟨_, rfl⟩
                      rw [← hcl] at hqll HW0
                      have HCL := Lib.hid hcl
                      clear hs9 ho9 ho9' hb9 hbq9 hz0s hown0 hzok0 hcl HPA t0 t1 r0 r1 m0 m1 m2 m3
                      go_wp2_with (at_builtin
                                   refine wpList_append_own_at _ rfl (.tmp 96) (.tmp 105) _ rfl w7.heap.size 50 i0 _ 2 32 Tryz.underlying27 hi hz0 hz1 hz2 rfl (by decide) u14 cl (zs0.flatMap zenc) rfl (World.ownsRow.alloc HW0.out _) ⟨w9.heap.size, 0, none⟩ 1 1 [.slice a9 n9 c9, .float .f64 ov] rfl rfl (World.news_of_block (heap_new w9 _)) (by intro u hu; simp at hu; rcases hu with rfl | rfl <;> rfl) (by unfold maxLen; omega) (by omega) (by simp; omega) ?_
                                   intro v' w10 hown' hgrow hnil hat
                                   have hbC : Below w9.heap.size w9 (w9.alloc (.cells #[.slice a9 n9 c9, .float .f64 ov] 50)) := (Below.refl _ _).alloc (Nat.le_refl _) _
                                   have hov' : OV w10 w7.heap.size v' (cur ++ [(pl, ov)]) := OV.appended (v' := v') (w' := w10) (z := (.slice a9 n9 c9, pl, ov)) HZ0.out (fun z hz => (HK0.out z hz).below hbC (Nat.le_refl _))
                                     ⟨HS9.out.below hbC (Nat.le_refl _), fun hx0 he => by
                                       obtain ⟨q, e1, _⟩ := HS9.out.lt hx0
                                       have h3 := HO9.out q e1
                                       have h4 := (HLQ.out q (by rw [← he]; exact e1)).2
                                       omega⟩ (by rw [← HCL.out]; exact hown') hgrow hat
                                   have HOV7 := Lib.hid hov'
                                   have HB10 := Lib.hid ((HB9.out.trans (hbC.mono hz9)).grown hgrow (by simp; omega) (fun q hq => (HLQ.out q hq).1))
                                   have HRP10 := Lib.hid (show w10.cell? ⟨wo.heap.size, 0, none⟩ = some (.slice a2 n2 c2) ∧ w10.cell? ⟨wo.heap.size, 1, none⟩ = some (.float .f64 zf) ∧ some wo.heap.size ≠ v'.ownBlock from ⟨hgrow.cell (cell_below hbC (Nat.le_refl _) HR9.out) hnb, hgrow.cell (cell_below hbC (Nat.le_refl _) HR9'.out) hnb, fun e => by
                                     rcases hat with h | h
                                     · exact hnb (e.trans h)
                                     · rw [h] at e
                                       injection e with e
                                       simp at e
                                       omega⟩)
                                   clear hown' hgrow hnil hat hov' hbC)
                      go_wp2_with fail
                      go_roundw
                      case rel => exact ⟨k + 1, by omega, by go_num, by rw [HCUR.out, HCC.out]; exact HOV7.out, HB10.out, HRP10.out⟩
                      case measure => simp [intOf]; omega
                    · have b5 : decide (op < 5) = false := decide_eq_false h5
                      have h5' : 5 ≤ op := by omega
                      cases flag with
                      | true =>
                        obtain ⟨ov, hov9⟩ : ∃ y, y = opV op zf qf := ⟨_, rfl⟩
                        have HOP := Lib.hid (op_any op zf qf (wA.drewN nq))
                        rw [← hov9, HOPK.out] at HOP
                        have HVV := Lib.hid hov9
                        clear hov9
                        go_wp2_with fail
                        refine HOP.out.mono ?_
                        rintro e w11 ⟨rfl, n11, rfl⟩
                        have t0 : ((wA.drewN nq).drewN n11).cell? ⟨qb, 0, none⟩ = some (.slice a3 n3 c3) := t0
                        have r0 : ((wA.drewN nq).drewN n11).cell? ⟨wo.heap.size, 0, none⟩ = some (.slice a2 n2 c2) := r0
                        have t1 : ((wA.drewN nq).drewN n11).cell? ⟨qb, 1, none⟩ = some (.float .f64 qf) := t1
                        have r1 : ((wA.drewN nq).drewN n11).cell? ⟨wo.heap.size, 1, none⟩ = some (.float .f64 zf) := r1
                        have m0 : ((wA.drewN nq).drewN n11).cell? ⟨mb, 0, none⟩ = some (.int .i64 how) := m0
                        have m1 : ((wA.drewN nq).drewN n11).cell? ⟨mb, 1, none⟩ = some (.slice an nn cn) := m1
                        have m2 : ((wA.drewN nq).drewN n11).cell? ⟨mb, 2, none⟩ = some (.int .i64 1) := m2
                        have m3 : ((wA.drewN nq).drewN n11).cell? ⟨mb, 3, none⟩ = some (.slice ai ni ci) := m3
                        have hbB := below_drewN HBA.out n11
                        generalize (wA.drewN nq).drewN n11 = wC at t0 t1 r0 r1 m0 m1 m2 m3 hbB ⊢
                        have HBA := Lib.hid hbB
                        clear hbB
                        have HPA := Lib.hid (HPR.out _ HBA.out)
                        have HCC := Lib.hid (show pairP op 1 how names incl true (zl, zf) (ql, qf) = [(pairL 1 how names incl zl ql, ov)] from pairP_yes (show cellB op true zf qf = true by unfold cellB; rw [if_pos (Or.inr rfl)]; exact HOPK.out) (show cellV op true zf qf = ov by unfold cellV; rw [if_pos (Or.inr rfl)]; exact HVV.out.symm))
                        obtain ⟨pl, hpl2⟩ : ∃ l, l = pairL 1 how names incl zl ql := ⟨_, rfl⟩
                        rw [← hpl2] at HPA HCC
                        have r0' := Lib.hid r0
                        have r1' := Lib.hid r1
                        clear hpl2 HPR
                        go_wp2_with fail
                        refine HPA.out.mono ?_
                        rintro e w9 ⟨a9, n9, c9, rfl, hs9, ho9, hb9⟩
                        have hbq9 : Below wr.heap.size wr w9 := HBA.out.trans (hb9.mono HBA.out.size)
                        have hzA := HBA.out.size
                        have ho9' : ∀ q, (Value.slice a9 n9 c9).ownBlock = some q → wr.heap.size ≤ q := fun q hq => Nat.le_trans hzA (ho9 q hq)
                        have hz9q := hbq9.size
                        have hz9 : w7.heap.size ≤ w9.heap.size := by omega
                        have HLQ := Lib.hid (fun q (hq : u14.ownBlock = some q) => (show w7.heap.size ≤ q ∧ q < wr.heap.size by obtain ⟨_, _, h0, _⟩ := HQ.out; exact h0.lt q hq))
                        have HR9 := Lib.hid (cell_below hb9 (Nat.le_refl _) r0'.out)
                        have HR9' := Lib.hid (cell_below hb9 (Nat.le_refl _) r1'.out)
                        obtain ⟨zs0, hz0s, hown0, hzok0⟩ := HQ.out.kept hbq9
                        have HZ0 := Lib.hid hz0s
                        have HW0 := Lib.hid hown0
                        have HK0 := Lib.hid hzok0
                        have HS9 := Lib.hid hs9
                        have HO9 := Lib.hid ho9'
                        have HB9 := Lib.hid (HK.out.trans (hbq9.mono hKz))
                        have hqll := HQL.out
                        obtain ⟨cl, hcl⟩ : ∃ n, n = cur.length := ⟨_, rfl⟩
                        rw [← hcl] at hqll HW0
                        have HCL := Lib.hid hcl
                        clear hs9 ho9 ho9' hb9 hbq9 hz0s hown0 hzok0 hcl HPA t0 t1 r0 r1 m0 m1 m2 m3
                        go_wp2_with (at_builtin
                                     refine wpList_append_own_at _ rfl (.tmp 96) (.tmp 105) _ rfl w7.heap.size 50 i0 _ 2 32 Tryz.underlying27 hi hz0 hz1 hz2 rfl (by decide) u14 cl (zs0.flatMap zenc) rfl (World.ownsRow.alloc HW0.out _) ⟨w9.heap.size, 0, none⟩ 1 1 [.slice a9 n9 c9, .float .f64 ov] rfl rfl (World.news_of_block (heap_new w9 _)) (by intro u hu; simp at hu; rcases hu with rfl | rfl <;> rfl) (by unfold maxLen; omega) (by omega) (by simp; omega) ?_
                                     intro v' w10 hown' hgrow hnil hat
                                     have hbC : Below w9.heap.size w9 (w9.alloc (.cells #[.slice a9 n9 c9, .float .f64 ov] 50)) := (Below.refl _ _).alloc (Nat.le_refl _) _
                                     have hov' : OV w10 w7.heap.size v' (cur ++ [(pl, ov)]) := OV.appended (v' := v') (w' := w10) (z := (.slice a9 n9 c9, pl, ov)) HZ0.out (fun z hz => (HK0.out z hz).below hbC (Nat.le_refl _))
                                       ⟨HS9.out.below hbC (Nat.le_refl _), fun hx0 he => by
                                         obtain ⟨q, e1, _⟩ := HS9.out.lt hx0
                                         have h3 := HO9.out q e1
                                         have h4 := (HLQ.out q (by rw [← he]; exact e1)).2
                                         omega⟩ (by rw [← HCL.out]; exact hown') hgrow hat
                                     have HOV7 := Lib.hid hov'
                                     have HB10 := Lib.hid ((HB9.out.trans (hbC.mono hz9)).grown hgrow (by simp; omega) (fun q hq => (HLQ.out q hq).1))
                                     have HRP10 := Lib.hid (show w10.cell? ⟨wo.heap.size, 0, none⟩ = some (.slice a2 n2 c2) ∧ w10.cell? ⟨wo.heap.size, 1, none⟩ = some (.float .f64 zf) ∧ some wo.heap.size ≠ v'.ownBlock from ⟨hgrow.cell (cell_below hbC (Nat.le_refl _) HR9.out) hnb, hgrow.cell (cell_below hbC (Nat.le_refl _) HR9'.out) hnb, fun e => by
                                       rcases hat with h | h
                                       · exact hnb (e.trans h)
                                       · rw [h] at e
                                         injection e with e
                                         simp at e
                                         omega⟩)
                                     clear hown' hgrow hnil hat hov' hbC)
                        go_wp2_with fail
                        go_roundw
                        case rel => exact ⟨k + 1, by omega, by go_num, by rw [HCUR.out, HCC.out]; exact HOV7.out, HB10.out, HRP10.out⟩
                        case measure => simp [intOf]; omega
                      | false =>
                        have hnf : ¬ (op < 5 ∨ false = true) := by simp; omega
                        cases hv with
                        | true =>
                          have HPA := Lib.hid (HPR.out _ HBA.out)
                          have HCC := Lib.hid (show pairP op 1 how names incl false (zl, zf) (ql, qf) = [(pairL 1 how names incl zl ql, zf)] from pairP_yes (show cellB op false zf qf = true by unfold cellB; rw [if_neg hnf]; exact HHV.out.symm) (show cellV op false zf qf = zf by unfold cellV; rw [if_neg hnf]))
                          obtain ⟨pl, hpl2⟩ : ∃ l, l = pairL 1 how names incl zl ql := ⟨_, rfl⟩
                          rw [← hpl2] at HPA HCC
                          have r0' := Lib.hid r0
                          have r1' := Lib.hid r1
                          clear hpl2 HPR
                          go_wp2_with fail
                          refine HPA.out.mono ?_
                          rintro e w9 ⟨a9, n9, c9, rfl, hs9, ho9, hb9⟩
                          have hbq9 : Below wr.heap.size wr w9 := HBA.out.trans (hb9.mono HBA.out.size)
                          have hzA := HBA.out.size
                          have ho9' : ∀ q, (Value.slice a9 n9 c9).ownBlock = some q → wr.heap.size ≤ q := fun q hq => Nat.le_trans hzA (ho9 q hq)
                          have hz9q := hbq9.size
                          have hz9 : w7.heap.size ≤ w9.heap.size := by omega
                          have HLQ := Lib.hid (fun q (hq : u14.ownBlock = some q) => (show w7.heap.size ≤ q ∧ q < wr.heap.size by obtain ⟨_, _, h0, _⟩ := HQ.out; exact h0.lt q hq))
                          have HR9 := Lib.hid (cell_below hb9 (Nat.le_refl _) r0'.out)
                          have HR9' := Lib.hid (cell_below hb9 (Nat.le_refl _) r1'.out)
                          obtain ⟨zs0, hz0s, hown0, hzok0⟩ := HQ.out.kept hbq9
                          have HZ0 := Lib.hid hz0s
                          have HW0 := Lib.hid hown0
                          have HK0 := Lib.hid hzok0
                          have HS9 := Lib.hid hs9
                          have HO9 := Lib.hid ho9'
                          have HB9 := Lib.hid (HK.out.trans (hbq9.mono hKz))
                          have hqll := HQL.out
                          obtain ⟨cl, hcl⟩ : ∃ n, n = cur.length := ⟨_, rfl⟩
                          rw [← hcl] at hqll HW0
                          have HCL := Lib.hid hcl
                          clear hs9 ho9 ho9' hb9 hbq9 hz0s hown0 hzok0 hcl HPA t0 t1 r0 r1 m0 m1 m2 m3
                          go_wp2_with (at_builtin
                                       refine wpList_append_own_at _ rfl (.tmp 96) (.tmp 105) _ rfl w7.heap.size 50 i0 _ 2 32 Tryz.underlying27 hi hz0 hz1 hz2 rfl (by decide) u14 cl (zs0.flatMap zenc) rfl (World.ownsRow.alloc HW0.out _) ⟨w9.heap.size, 0, none⟩ 1 1 [.slice a9 n9 c9, .float .f64 zf] rfl rfl (World.news_of_block (heap_new w9 _)) (by intro u hu; simp at hu; rcases hu with rfl | rfl <;> rfl) (by unfold maxLen; omega) (by omega) (by simp; omega) ?_
                                       intro v' w10 hown' hgrow hnil hat
                                       have hbC : Below w9.heap.size w9 (w9.alloc (.cells #[.slice a9 n9 c9, .float .f64 zf] 50)) := (Below.refl _ _).alloc (Nat.le_refl _) _
                                       have hov' : OV w10 w7.heap.size v' (cur ++ [(pl, zf)]) := OV.appended (v' := v') (w' := w10) (z := (.slice a9 n9 c9, pl, zf)) HZ0.out (fun z hz => (HK0.out z hz).below hbC (Nat.le_refl _))
                                         ⟨HS9.out.below hbC (Nat.le_refl _), fun hx0 he => by
                                           obtain ⟨q, e1, _⟩ := HS9.out.lt hx0
                                           have h3 := HO9.out q e1
                                           have h4 := (HLQ.out q (by rw [← he]; exact e1)).2
                                           omega⟩ (by rw [← HCL.out]; exact hown') hgrow hat
                                       have HOV7 := Lib.hid hov'
                                       have HB10 := Lib.hid ((HB9.out.trans (hbC.mono hz9)).grown hgrow (by simp; omega) (fun q hq => (HLQ.out q hq).1))
                                       have HRP10 := Lib.hid (show w10.cell? ⟨wo.heap.size, 0, none⟩ = some (.slice a2 n2 c2) ∧ w10.cell? ⟨wo.heap.size, 1, none⟩ = some (.float .f64 zf) ∧ some wo.heap.size ≠ v'.ownBlock from ⟨hgrow.cell (cell_below hbC (Nat.le_refl _) HR9.out) hnb, hgrow.cell (cell_below hbC (Nat.le_refl _) HR9'.out) hnb, fun e => by
                                         rcases hat with h | h
                                         · exact hnb (e.trans h)
                                         · rw [h] at e
                                           injection e with e
                                           simp at e
                                           omega⟩)
                                       clear hown' hgrow hnil hat hov' hbC)
                          go_wp2_with fail
                          go_roundw
                          case rel => exact ⟨k + 1, by omega, by go_num, by rw [HCUR.out, HCC.out]; exact HOV7.out, HB10.out, HRP10.out⟩
                          case measure => simp [intOf]; omega
                        | false =>
                          have HCC := Lib.hid (show pairP op 1 how names incl false (zl, zf) (ql, qf) = [] from pairP_no (show cellB op false zf qf = false by unfold cellB; rw [if_neg hnf]; exact HHV.out.symm))
                          have HOV7 := Lib.hid (HQ.out.kept HBA.out)
                          have HB10 := Lib.hid (HK.out.trans (HBA.out.mono hKz))
                          have HRP10 := Lib.hid (⟨r0, r1, hnb⟩ : (wA.drewN nq).cell? ⟨wo.heap.size, 0, none⟩ = some (.slice a2 n2 c2) ∧ (wA.drewN nq).cell? ⟨wo.heap.size, 1, none⟩ = some (.float .f64 zf) ∧ some wo.heap.size ≠ u14.ownBlock)
                          go_wp2_with fail
                          go_roundw
                          case rel => exact ⟨k + 1, by omega, by go_num, by rw [HCUR.out, HCC.out, List.append_nil]; exact HOV7.out, HB10.out, HRP10.out⟩
                          case measure => simp [intOf]; omega
                  · have hltz2 : ¬ (k : Int) < (M : Int) := by omega
                    obtain rfl : k = M := by omega
                    have HQE := Lib.hid (show OV wr w7.heap.size u14 ((ps.take (j + 1)).flatMap (rowP op 1 how names incl flag qs)) by
                      have h1 := HQ.out
                      rw [List.take_of_length_le (by have := HM.out; simp; omega), HFP.out] at h1
                      rw [HTK.out]; exact h1)
                    clear HQ
                    go_wp2_with fail
                    go_roundw
                    case rel => exact ⟨j + 1, by omega, by go_num, HQE.out, HK.out⟩
                    case measure => simp [intOf]; omega
              · have hltz : ¬ (j : Int) < (NA : Int) := by omega
                obtain rfl : j = NA := by omega
                have hov := HO.out
                rw [List.take_of_length_le (by have := HLA.out; omega)] at hov
                have HNM := Lib.hid (normal_any _ _ wo hov.vs (by
                  have h1 := flat_le (rowP op 1 how names incl flag qs) 300 (fun p => rowP_len op 1 how names incl flag p HPB3.out) ps
                  have h2 := HPA3.out
                  have h3 := Nat.mul_le_mul_right 300 h2
                  omega))
                obtain ⟨a8, c8, rfl, -, -⟩ := hov.slice
                obtain ⟨N8, hN8⟩ : ∃ n, n = (ps.flatMap (rowP op 1 how names incl flag qs)).length := ⟨_, rfl⟩
                rw [← hN8] at HNM ⊢
                clear hov HO hN8
                go_wp2_with fail
                refine HNM.out.mono ?_
                rintro e w9 ⟨hb9, hnr⟩
                obtain ⟨v5, n5, rfl⟩ := nr_tuple hnr
                have HNR := Lib.hid hnr
                have HB9 := Lib.hid (HBW2.out.trans ((HB.out.trans (hb9.mono hBz)).mono HBW2.out.size))
                clear hnr hb9 HNM
                go_wp2_with fail
                go_ret2
                exact ⟨HB9.out, .inr (.inr ⟨HOK3.out, HNT.out, HNR.out⟩)⟩
        · subst hcd
          go_enter Tryz.func9, Tryz.ntmps9
          go_wp2_with fail
          rw [← HW1.out, ← HMB.out]
          refine (HCK.out _ HB1.out).mono ?_
          rintro e w2 ⟨rfl, hb2⟩
          have g0 := cell_below hb2 (Nat.le_refl _) Q0.out
          have g1 := cell_below hb2 (Nat.le_refl _) Q1.out
          have g2 := cell_below hb2 (Nat.le_refl _) Q2.out
          have g3 := cell_below hb2 (Nat.le_refl _) Q3.out
          have HB2 := Lib.hid (HB1.out.trans (hb2.mono HB1.out.size))
          clear hb2 HCK
          go_wp2_with fail
          refine (HSIB.out _ HB2.out).mono ?_
          rintro e w4 ⟨b4, base4, V4, rfl, hge4, hG4, hb4⟩
          have g0 := cell_below hb4 (Nat.le_refl _) g0
          have g1 := cell_below hb4 (Nat.le_refl _) g1
          have g2 := cell_below hb4 (Nat.le_refl _) g2
          have g3 := cell_below hb4 (Nat.le_refl _) g3
          have HG4 := Lib.hid hG4
          have HB4 := Lib.hid (HB2.out.trans (hb4.mono HB2.out.size))
          clear hG4 hb4 hge4 HSIB
          go_wp2_with fail
          refine (HSIA.out _ HB4.out).mono ?_
          rintro e w5 ⟨b5, base5, V5, rfl, hge5, hG5, hb5⟩
          have g0 := cell_below hb5 (Nat.le_refl _) g0
          have g1 := cell_below hb5 (Nat.le_refl _) g1
          have g2 := cell_below hb5 (Nat.le_refl _) g2
          have g3 := cell_below hb5 (Nat.le_refl _) g3
          have HG5 := Lib.hid hG5
          have HG45 := Lib.hid (HG4.out.below hb5 (Nat.le_refl _))
          have HB5 := Lib.hid (HB4.out.trans (hb5.mono HB4.out.size))
          clear hG5 hb5 hge5 HSIA
          go_wp2_with fail
          refine (twice_any _ _ _ _ _ _ HG5.out).mono ?_
          rintro e w6 ⟨t1, rfl, ht1, hb6⟩
          have g0 := cell_below hb6 (Nat.le_refl _) g0
          have g1 := cell_below hb6 (Nat.le_refl _) g1
          have g2 := cell_below hb6 (Nat.le_refl _) g2
          have g3 := cell_below hb6 (Nat.le_refl _) g3
          have HGR := Lib.hid (HG45.out.below hb6 (Nat.le_refl _))
          have HBW := Lib.hid (HB5.out.trans (hb6.mono HB5.out.size))
          have HT1 := Lib.hid (twice_of HZA.out (fun z hzz => (HOKA.out z hzz).2) ht1)
          clear hb6 ht1 HG5
          cases t1 with
          | true =>
            go_wp2_with fail
            go_ret2
            exact ⟨HBW.out, .inr (.inl ⟨HOK3.out, .inl ⟨by decide, HT1.out.symm⟩, rfl⟩)⟩
          | false =>
            have GW0 := Lib.hid g0
            have GW1 := Lib.hid g1
            have GW2 := Lib.hid g2
            have GW3 := Lib.hid g3
            have HNT := Lib.hid (show ¬ (((2 : Int) ≠ 1 ∧ twiceB (sgP how names) ps = true) ∨ ((2 : Int) ≠ 2 ∧ twiceB (sgP how names) qs = true)) from by rw [← HT1.out]; simp)
            have hmW : mb < w6.heap.size := World.block_lt_of_cell? w6 _ g0
            go_wp2_with fail
            clear g0 g1 g2 g3
            go_loopw [14, 57] (fun out i wr => ∃ (j : Nat), j ≤ NA ∧ i = .int .i64 j ∧ Hid (OV wr w6.heap.size out ((ps.take j).flatMap (rowP op 2 how names incl flag qs))) ∧ Hid (Below w6.heap.size w6 wr)) (fun _ i _ => NA - (intOf i).toNat)
            case atStart => exact ⟨0, Nat.zero_le _, rfl, OV.nil _ _, Below.refl _ _⟩
            case round =>
              obtain ⟨j, hj, rfl, HO, HB⟩ := hrel
              obtain ⟨wo, rfl⟩ : ∃ wo, wo = wr := ⟨_, rfl⟩
              have hBz := HB.out.size
              have h00 : (0 : Int) ≤ (j : Int) := by omega
              by_cases hlt : j < NA
              · have hltz : (j : Int) < (NA : Int) := by omega
                have hjz : j < zsa.length := by have := HNA.out; omega
                obtain ⟨b, off, rfl, hd⟩ := HCA.out j hjz
                have hbw : Below w.heap.size w wo := HBW.out.trans (HB.out.mono HBW.out.size)
                obtain ⟨z, hzj⟩ : ∃ z, z = zsa[j] := ⟨_, rfl⟩
                have hzm : z ∈ zsa := by rw [hzj]; exact List.getElem_mem hjz
                rw [← hzj] at hd
                have hslz0 := HALA.out z hzm
                have hslz := hslz0.below hbw (Nat.le_refl _)
                have hjp : j < ps.length := by have := HLA.out; omega
                have hpj : ps[j] = z.2 := by
                  rw [hzj]
                  have h1 := HZA.out
                  subst h1
                  rw [List.getElem_map]
                obtain ⟨lv, zl, zf⟩ := z
                have q0 : wo.cell? ⟨b, off + j * 2, none⟩ = some lv := cell_below hbw (Nat.le_refl _) (hd 0 _ rfl)
                have q1 : wo.cell? ⟨b, off + j * 2 + 1, none⟩ = some (.float .f64 zf) := cell_below hbw (Nat.le_refl _) (hd 1 _ rfl)
                obtain ⟨a2, n2, c2, rfl⟩ : ∃ a2 n2 c2, lv = .slice a2 n2 c2 := by
                  obtain ⟨a2, c2, e, -⟩ := hslz
                  exact ⟨a2, _, c2, e⟩
                have G0' := cell_below HB.out (Nat.le_refl _) GW0.out
                have G1' := cell_below HB.out (Nat.le_refl _) GW1.out
                have hbl : b < wo.heap.size := World.block_lt_of_cell? wo _ q0
                have hbgl : mb < wo.heap.size := World.block_lt_of_cell? wo _ G0'
                have hbne : mb ≠ wo.heap.size := by omega
                have hgok : SizesOk zl := (HOKA.out _ hzm).2
                have hgl : zl.length ≤ 1000 := (HOKA.out _ hzm).1
                have HGRP := Lib.hid (fun w' (hb : Below wo.heap.size wo w') => signkey_any how (.slice a2 n2 c2) (.slice an nn cn) zl names w' (hslz.below hb (Nat.le_refl _)) ((HSN.out.below hbw (Nat.le_refl _)).below hb (Nat.le_refl _)) hgl hgok (HTB.out.below (hbw.trans (hb.mono hbw.size)) (Nat.le_refl _)))
                have HTK := Lib.hid (flat_take (rowP op 2 how names incl flag qs) ps j (zl, zf) hjp hpj)
                obtain ⟨s, hs⟩ : ∃ s, s = keyL (signL how names zl) := ⟨_, rfl⟩
                have HKS := Lib.hid (show s.size ≤ maxLen by rw [hs]; exact key_max (hgok.sign how names) (by have := sign_len how names zl; omega))
                rw [← hs] at HGRP
                obtain ⟨F, hF⟩ : ∃ F, F = grpB (sgZ how names) zsb s := ⟨_, rfl⟩
                have hFm : F = membG (sgZ how names) zsb (signL how names zl) := by rw [hF, hs]; exact grp_memb _ (fun z hzz => (HOKB.out z hzz).2.sign how names) (hgok.sign how names)
                have HFP := Lib.hid (show F.map (·.2) = membG (sgP how names) qs (signL how names zl) by
                  rw [hFm, ← HZB.out]
                  exact memb_map (fun z : ZPt => z.2) (sgP how names) zsb _)
                have HFB := Lib.hid (fun z (h : z ∈ F) => (show z ∈ zsb by rw [hFm] at h; exact (List.mem_filter.1 h).1))
                have hFl : F.length ≤ 300 := by rw [hFm]; exact Nat.le_trans (List.length_filter_le _ _) (by have := HNBZ.out; omega)
                have hsF : Sl zenc w6 (V4 s) F := Sl.own zenc_len (by decide) (by have := HGR.out.r s; rw [← hF] at this; exact this)
                obtain ⟨af, cf, hvs, hlf, -, hcf⟩ := hsF.split zenc_len
                have HCF := Lib.hid hcf
                obtain ⟨M, hM⟩ : ∃ n, n = F.length := ⟨_, rfl⟩
                rw [← hM] at hvs hlf hFl
                have HM := Lib.hid hM
                have HLZ := Lib.hid (fun w' (hb : Below w.heap.size w w') => hslz0.below hb (Nat.le_refl _))
                have HZL := Lib.hid hgl
                have HBW9 := Lib.hid hbw
                clear hd hzj hzm hslz hslz0 hbw hgok hgl hs hjp hpj hF hFm hsF hcf hM
                go_wp2_with fail
                refine (HGRP.out _ ((Below.refl _ _).alloc (Nat.le_refl _) _)).mono ?_
                rintro e w8 ⟨rfl, hb4⟩
                have hb5 : Below wo.heap.size wo w8 := ((Below.refl wo.heap.size wo).alloc (Nat.le_refl _) (.cells #[.slice a2 n2 c2, .float .f64 zf] 50)).trans (hb4.mono (by simp))
                have R0 := Lib.hid (show w8.cell? ⟨wo.heap.size, 0, none⟩ = some (.slice a2 n2 c2) from cell_below hb4 (Nat.le_refl _) (by simp))
                have R1 := Lib.hid (show w8.cell? ⟨wo.heap.size, 1, none⟩ = some (.float .f64 zf) from cell_below hb4 (Nat.le_refl _) (by simp))
                have hbW5 := HB.out.trans (hb5.mono hBz)
                have hlk := (HGR.out.below hbW5 (Nat.le_refl _)).m.look Tryz.underlying53 (zero_pts _) HKS.out
                rw [hvs] at hlk
                have HLK := Lib.hid hlk
                have HOV5 := Lib.hid (HO.out.kept hb5)
                have HNB := Lib.hid (show some wo.heap.size ≠ u14.ownBlock from fun e => by obtain ⟨_, _, h0, _⟩ := HO.out; have := (h0.lt _ e.symm).2; omega)
                have HW8 := Lib.hid hbW5
                have hz8 : wo.heap.size < w8.heap.size := World.block_lt_of_cell? w8 _ R0.out
                obtain ⟨pre, hpre⟩ : ∃ l, l = (ps.take j).flatMap (rowP op 2 how names incl flag qs) := ⟨_, rfl⟩
                have hpl : pre.length ≤ 90000 := by
                  rw [hpre]
                  have h1 := flat_le (rowP op 2 how names incl flag qs) 300 (fun p => rowP_len op 2 how names incl flag p HPB3.out) (ps.take j)
                  have h2 : (ps.take j).length ≤ 300 := by rw [List.length_take]; omega
                  have h3 := Nat.mul_le_mul_right 300 h2
                  omega
                rw [← hpre] at HOV5 HTK
                clear hb4 hb5 hbW5 hlk HGRP hvs HO hpre
                go_wp2_with (first
                  | (at_lookup; refine wpList_lookup_of _ rfl _ _ _ false rfl _ _ _ rfl rfl HLK.out ?_))
                go_loopw [14, 69] (fun out i wr => ∃ (k : Nat), k ≤ M ∧ i = .int .i64 k ∧ Hid (OV wr w6.heap.size out (pre ++ ((F.map (·.2)).take k).flatMap (pairP op 2 how names incl flag (zl, zf)))) ∧ Hid (Below w6.heap.size w6 wr) ∧ Hid (wr.cell? ⟨wo.heap.size, 0, none⟩ = some (.slice a2 n2 c2) ∧ wr.cell? ⟨wo.heap.size, 1, none⟩ = some (.float .f64 zf) ∧ some wo.heap.size ≠ out.ownBlock)) (fun _ i _ => M - (intOf i).toNat)
                case atStart => exact ⟨0, Nat.zero_le _, rfl, (show OV w8 w6.heap.size u14 (pre ++ ((F.map (·.2)).take 0).flatMap (pairP op 2 how names incl flag (zl, zf))) by simpa using HOV5.out), HW8.out, R0.out, R1.out, HNB.out⟩
                case round =>
                  obtain ⟨k, hk, rfl, HQ, HK, HRP⟩ := hrel
                  have hKz := HK.out.size
                  have h02 : (0 : Int) ≤ (k : Int) := by omega
                  obtain ⟨p0, p1, hnb⟩ := HRP.out
                  have hpbl : wo.heap.size < wr.heap.size := World.block_lt_of_cell? wr _ p0
                  by_cases hlt2 : k < M
                  · have hltz2 : (k : Int) < (M : Int) := by omega
                    have hkF : k < F.length := by have := HM.out; omega
                    obtain ⟨bf, off2, rfl, hd⟩ := HCF.out k hkF
                    have hbw : Below w.heap.size w wr := HBW.out.trans (HK.out.mono HBW.out.size)
                    obtain ⟨z, hzj⟩ : ∃ z, z = F[k] := ⟨_, rfl⟩
                    have hzm : z ∈ zsb := HFB.out z (by rw [hzj]; exact List.getElem_mem hkF)
                    rw [← hzj] at hd
                    have hslz := (HALB.out z hzm).below hbw (Nat.le_refl _)
                    have HTF := Lib.hid (flat_take (pairP op 2 how names incl flag (zl, zf)) (F.map (·.2)) k z.2 (by simpa using hkF) (by rw [List.getElem_map, hzj]))
                    obtain ⟨lq, ql, qf⟩ := z
                    have e0 : wr.cell? ⟨bf, off2 + k * 2, none⟩ = some lq := cell_below HK.out (Nat.le_refl _) (hd 0 _ rfl)
                    have e1 : wr.cell? ⟨bf, off2 + k * 2 + 1, none⟩ = some (.float .f64 qf) := cell_below HK.out (Nat.le_refl _) (hd 1 _ rfl)
                    obtain ⟨a3, n3, c3, rfl⟩ : ∃ a3 n3 c3, lq = .slice a3 n3 c3 := by
                      obtain ⟨a3, c3, e, -⟩ := hslz
                      exact ⟨a3, _, c3, e⟩
                    have hqln : ql.length ≤ 1000 := (HOKB.out _ hzm).1
                    have hbfl : bf < wr.heap.size := World.block_lt_of_cell? wr _ e0
                    obtain ⟨wA, hwA⟩ : ∃ wA, wA = wr.alloc (.cells #[.slice a3 n3 c3, .float .f64 qf] 50) := ⟨_, rfl⟩
                    obtain ⟨qb, hqb⟩ : ∃ b, b = wr.heap.size := ⟨_, rfl⟩
                    have hbA : Below wr.heap.size wr wA := by rw [hwA]; exact (Below.refl _ _).alloc (Nat.le_refl _) _
                    have t0 : wA.cell? ⟨qb, 0, none⟩ = some (.slice a3 n3 c3) := by rw [hwA, hqb]; simp
                    have t1 : wA.cell? ⟨qb, 1, none⟩ = some (.float .f64 qf) := by rw [hwA, hqb]; simp
                    have r0 := cell_below hbA (Nat.le_refl _) p0
                    have r1 := cell_below hbA (Nat.le_refl _) p1
                    have m0 := cell_below hbA (Nat.le_refl _) (cell_below HK.out (Nat.le_refl _) GW0.out)
                    have m1 := cell_below hbA (Nat.le_refl _) (cell_below HK.out (Nat.le_refl _) GW1.out)
                    have m2 := cell_below hbA (Nat.le_refl _) (cell_below HK.out (Nat.le_refl _) GW2.out)
                    have m3 := cell_below hbA (Nat.le_refl _) (cell_below HK.out (Nat.le_refl _) GW3.out)
                    obtain ⟨hv, hhv⟩ : ∃ b, b = holdsF op zf qf := ⟨_, rfl⟩
                    have HHD := Lib.hid (fun m => (holds_any op zf qf (wA.drewN m)).mono (R' := fun e w'' => e = .returned (.bool hv) ∧ ∃ k, w'' = wA.drewN k) fun _ _ ⟨he, hm⟩ => ⟨by rw [hhv]; exact he, m, hm.symm⟩)
                    have HHV := Lib.hid hhv
                    have HWA := Lib.hid hwA
                    have HQB := Lib.hid hqb
                    have HPR := Lib.hid (fun w' (hb : Below wr.heap.size wr w') => pair_any how 2 (.slice an nn cn) (.slice ai ni ci) (.slice a2 n2 c2) (.slice a3 n3 c3) names incl zl ql w' (HLZ.out w' (hbw.trans (hb.mono hbw.size))) (hslz.below hb (Nat.le_refl _)) (HSN.out.below (hbw.trans (hb.mono hbw.size)) (Nat.le_refl _)) (HSI.out.below (hbw.trans (hb.mono hbw.size)) (Nat.le_refl _)) (by decide) HZL.out hqln)
                    have HBA := Lib.hid hbA
                    have HQL := Lib.hid (show (pre ++ ((F.map (·.2)).take k).flatMap (pairP op 2 how names incl flag (zl, zf))).length ≤ 90300 by
                      have h1 := flat_le (pairP op 2 how names incl flag (zl, zf)) 1 (pairP_len op 2 how names incl flag (zl, zf)) ((F.map (·.2)).take k)
                      have h2 : ((F.map (·.2)).take k).length ≤ 300 := by rw [List.length_take]; omega
                      rw [List.length_append]
                      omega)
                    obtain ⟨cur, hcur⟩ : ∃ l, l = pre ++ ((F.map (·.2)).take k).flatMap (pairP op 2 how names incl flag (zl, zf)) := ⟨_, rfl⟩
                    rw [← hcur] at HQ HQL
                    have HCUR := Lib.hid (show pre ++ ((F.map (·.2)).take (k + 1)).flatMap (pairP op 2 how names incl flag (zl, zf)) = cur ++ pairP op 2 how names incl flag (zl, zf) (ql, qf) by rw [HTF.out, ← List.append_assoc, ← hcur])
                    clear hd hzj hzm hslz hhv hwA hqb hqln hbw hbA hcur p0 p1
                    go_wp2_with fail
                    rw [← HWA.out, ← HQB.out]
                    rw [show wA = wA.drewN 0 from rfl]
                    go_quiet ((go_at_call 24; exact HHD.out _))
                    have t0 : (wA.drewN nq).cell? ⟨qb, 0, none⟩ = some (.slice a3 n3 c3) := t0
                    have r0 : (wA.drewN nq).cell? ⟨wo.heap.size, 0, none⟩ = some (.slice a2 n2 c2) := r0
                    have t1 : (wA.drewN nq).cell? ⟨qb, 1, none⟩ = some (.float .f64 qf) := t1
                    have r1 : (wA.drewN nq).cell? ⟨wo.heap.size, 1, none⟩ = some (.float .f64 zf) := r1
                    have m0 : (wA.drewN nq).cell? ⟨mb, 0, none⟩ = some (.int .i64 how) := m0
                    have m1 : (wA.drewN nq).cell? ⟨mb, 1, none⟩ = some (.slice an nn cn) := m1
                    have m2 : (wA.drewN nq).cell? ⟨mb, 2, none⟩ = some (.int .i64 2) := m2
                    have m3 : (wA.drewN nq).cell? ⟨mb, 3, none⟩ = some (.slice ai ni ci) := m3
                    have HBA := Lib.hid (below_drewN HBA.out nq)
                    by_cases h5 : op < 5
                    · have b5 : decide (op < 5) = true := decide_eq_true h5
                      obtain ⟨ov, hov9⟩ : ∃ y, y = opV op zf qf := ⟨_, rfl⟩
                      have HOP := Lib.hid (op_any op zf qf (wA.drewN nq))
                      rw [← hov9, HOPK.out] at HOP
                      have HVV := Lib.hid hov9
                      clear hov9
                      go_wp2_with fail
                      refine HOP.out.mono ?_
                      rintro e w11 ⟨rfl, n11, rfl⟩
                      have t0 : ((wA.drewN nq).drewN n11).cell? ⟨qb, 0, none⟩ = some (.slice a3 n3 c3) := t0
                      have r0 : ((wA.drewN nq).drewN n11).cell? ⟨wo.heap.size, 0, none⟩ = some (.slice a2 n2 c2) := r0
                      have t1 : ((wA.drewN nq).drewN n11).cell? ⟨qb, 1, none⟩ = some (.float .f64 qf) := t1
                      have r1 : ((wA.drewN nq).drewN n11).cell? ⟨wo.heap.size, 1, none⟩ = some (.float .f64 zf) := r1
                      have m0 : ((wA.drewN nq).drewN n11).cell? ⟨mb, 0, none⟩ = some (.int .i64 how) := m0
                      have m1 : ((wA.drewN nq).drewN n11).cell? ⟨mb, 1, none⟩ = some (.slice an nn cn) := m1
                      have m2 : ((wA.drewN nq).drewN n11).cell? ⟨mb, 2, none⟩ = some (.int .i64 2) := m2
                      have m3 : ((wA.drewN nq).drewN n11).cell? ⟨mb, 3, none⟩ = some (.slice ai ni ci) := m3
                      have hbB := below_drewN HBA.out n11
                      generalize (wA.drewN nq).drewN n11 = wC at t0 t1 r0 r1 m0 m1 m2 m3 hbB ⊢
                      have HBA := Lib.hid hbB
                      clear hbB
                      have HPA := Lib.hid (HPR.out _ HBA.out)
                      have HCC := Lib.hid (show pairP op 2 how names incl flag (zl, zf) (ql, qf) = [(pairL 2 how names incl zl ql, ov)] from pairP_yes (show cellB op flag zf qf = true by unfold cellB; rw [if_pos (Or.inl h5)]; exact HOPK.out) (show cellV op flag zf qf = ov by unfold cellV; rw [if_pos (Or.inl h5)]; exact HVV.out.symm))
                      obtain ⟨pl, hpl2⟩ : ∃ l, l = pairL 2 how names incl zl ql := ⟨_, rfl⟩
                      rw [← hpl2] at HPA HCC
                      have r0' := Lib.hid r0
                      have r1' := Lib.hid r1
                      clear hpl2 HPR
                      go_wp2_with fail
                      refine HPA.out.mono ?_
                      rintro e w9 ⟨a9, n9, c9, rfl, hs9, ho9, hb9⟩
                      have hbq9 : Below wr.heap.size wr w9 := HBA.out.trans (hb9.mono HBA.out.size)
                      have hzA := HBA.out.size
                      have ho9' : ∀ q, (Value.slice a9 n9 c9).ownBlock = some q → wr.heap.size ≤ q := fun q hq => Nat.le_trans hzA (ho9 q hq)
                      have hz9q := hbq9.size
                      have hz9 : w6.heap.size ≤ w9.heap.size := by omega
                      have HLQ := Lib.hid (fun q (hq : u14.ownBlock = some q) => (show w6.heap.size ≤ q ∧ q < wr.heap.size by obtain ⟨_, _, h0, _⟩ := HQ.out; exact h0.lt q hq))
                      have HR9 := Lib.hid (cell_below hb9 (Nat.le_refl _) r0'.out)
                      have HR9' := Lib.hid (cell_below hb9 (Nat.le_refl _) r1'.out)
                      obtain ⟨zs0, hz0s, hown0, hzok0⟩ := HQ.out.kept hbq9
                      have HZ0 := Lib.hid hz0s
                      have HW0 := Lib.hid hown0
                      have HK0 := Lib.hid hzok0
                      have HS9 := Lib.hid hs9
                      have HO9 := Lib.hid ho9'
                      have HB9 := Lib.hid (HK.out.trans (hbq9.mono hKz))
                      have hqll := HQL.out
                      obtain ⟨cl, hcl⟩ : ∃ n, n = cur.length := ⟨_, rfl⟩
                      rw [← hcl] at hqll HW0
                      have HCL := Lib.hid hcl
                      clear hs9 ho9 ho9' hb9 hbq9 hz0s hown0 hzok0 hcl HPA t0 t1 r0 r1 m0 m1 m2 m3
                      go_wp2_with (at_builtin
                                   refine wpList_append_own_at _ rfl (.tmp 96) (.tmp 105) _ rfl w6.heap.size 50 i0 _ 2 32 Tryz.underlying27 hi hz0 hz1 hz2 rfl (by decide) u14 cl (zs0.flatMap zenc) rfl (World.ownsRow.alloc HW0.out _) ⟨w9.heap.size, 0, none⟩ 1 1 [.slice a9 n9 c9, .float .f64 ov] rfl rfl (World.news_of_block (heap_new w9 _)) (by intro u hu; simp at hu; rcases hu with rfl | rfl <;> rfl) (by unfold maxLen; omega) (by omega) (by simp; omega) ?_
                                   intro v' w10 hown' hgrow hnil hat
                                   have hbC : Below w9.heap.size w9 (w9.alloc (.cells #[.slice a9 n9 c9, .float .f64 ov] 50)) := (Below.refl _ _).alloc (Nat.le_refl _) _
                                   have hov' : OV w10 w6.heap.size v' (cur ++ [(pl, ov)]) := OV.appended (v' := v') (w' := w10) (z := (.slice a9 n9 c9, pl, ov)) HZ0.out (fun z hz => (HK0.out z hz).below hbC (Nat.le_refl _))
                                     ⟨HS9.out.below hbC (Nat.le_refl _), fun hx0 he => by
                                       obtain ⟨q, e1, _⟩ := HS9.out.lt hx0
                                       have h3 := HO9.out q e1
                                       have h4 := (HLQ.out q (by rw [← he]; exact e1)).2
                                       omega⟩ (by rw [← HCL.out]; exact hown') hgrow hat
                                   have HOV7 := Lib.hid hov'
                                   have HB10 := Lib.hid ((HB9.out.trans (hbC.mono hz9)).grown hgrow (by simp; omega) (fun q hq => (HLQ.out q hq).1))
                                   have HRP10 := Lib.hid (show w10.cell? ⟨wo.heap.size, 0, none⟩ = some (.slice a2 n2 c2) ∧ w10.cell? ⟨wo.heap.size, 1, none⟩ = some (.float .f64 zf) ∧ some wo.heap.size ≠ v'.ownBlock from ⟨hgrow.cell (cell_below hbC (Nat.le_refl _) HR9.out) hnb, hgrow.cell (cell_below hbC (Nat.le_refl _) HR9'.out) hnb, fun e => by
                                     rcases hat with h | h
                                     · exact hnb (e.trans h)
                                     · rw [h] at e
                                       injection e with e
                                       simp at e
                                       omega⟩)
                                   clear hown' hgrow hnil hat hov' hbC)
                      go_wp2_with fail
                      go_roundw
                      case rel => exact ⟨k + 1, by omega, by go_num, by rw [HCUR.out, HCC.out]; exact HOV7.out, HB10.out, HRP10.out⟩
                      case measure => simp [intOf]; omega
                    · have b5 : decide (op < 5) = false := decide_eq_false h5
                      have h5' : 5 ≤ op := by omega
                      cases flag with
                      | true =>
                        obtain ⟨ov, hov9⟩ : ∃ y, y = opV op zf qf := ⟨_, rfl⟩
                        have HOP := Lib.hid (op_any op zf qf (wA.drewN nq))
                        rw [← hov9, HOPK.out] at HOP
                        have HVV := Lib.hid hov9
                        clear hov9
                        go_wp2_with fail
                        refine HOP.out.mono ?_
                        rintro e w11 ⟨rfl, n11, rfl⟩
                        have t0 : ((wA.drewN nq).drewN n11).cell? ⟨qb, 0, none⟩ = some (.slice a3 n3 c3) := t0
                        have r0 : ((wA.drewN nq).drewN n11).cell? ⟨wo.heap.size, 0, none⟩ = some (.slice a2 n2 c2) := r0
                        have t1 : ((wA.drewN nq).drewN n11).cell? ⟨qb, 1, none⟩ = some (.float .f64 qf) := t1
                        have r1 : ((wA.drewN nq).drewN n11).cell? ⟨wo.heap.size, 1, none⟩ = some (.float .f64 zf) := r1
                        have m0 : ((wA.drewN nq).drewN n11).cell? ⟨mb, 0, none⟩ = some (.int .i64 how) := m0
                        have m1 : ((wA.drewN nq).drewN n11).cell? ⟨mb, 1, none⟩ = some (.slice an nn cn) := m1
                        have m2 : ((wA.drewN nq).drewN n11).cell? ⟨mb, 2, none⟩ = some (.int .i64 2) := m2
                        have m3 : ((wA.drewN nq).drewN n11).cell? ⟨mb, 3, none⟩ = some (.slice ai ni ci) := m3
                        have hbB := below_drewN HBA.out n11
                        generalize (wA.drewN nq).drewN n11 = wC at t0 t1 r0 r1 m0 m1 m2 m3 hbB ⊢
                        have HBA := Lib.hid hbB
                        clear hbB
                        have HPA := Lib.hid (HPR.out _ HBA.out)
                        have HCC := Lib.hid (show pairP op 2 how names incl true (zl, zf) (ql, qf) = [(pairL 2 how names incl zl ql, ov)] from pairP_yes (show cellB op true zf qf = true by unfold cellB; rw [if_pos (Or.inr rfl)]; exact HOPK.out) (show cellV op true zf qf = ov by unfold cellV; rw [if_pos (Or.inr rfl)]; exact HVV.out.symm))
                        obtain ⟨pl, hpl2⟩ : ∃ l, l = pairL 2 how names incl zl ql := ⟨_, rfl⟩
                        rw [← hpl2] at HPA HCC
                        have r0' := Lib.hid r0
                        have r1' := Lib.hid r1
                        clear hpl2 HPR
                        go_wp2_with fail
                        refine HPA.out.mono ?_
                        rintro e w9 ⟨a9, n9, c9, rfl, hs9, ho9, hb9⟩
                        have hbq9 : Below wr.heap.size wr w9 := HBA.out.trans (hb9.mono HBA.out.size)
                        have hzA := HBA.out.size
                        have ho9' : ∀ q, (Value.slice a9 n9 c9).ownBlock = some q → wr.heap.size ≤ q := fun q hq => Nat.le_trans hzA (ho9 q hq)
                        have hz9q := hbq9.size
                        have hz9 : w6.heap.size ≤ w9.heap.size := by omega
                        have HLQ := Lib.hid (fun q (hq : u14.ownBlock = some q) => (show w6.heap.size ≤ q ∧ q < wr.heap.size by obtain ⟨_, _, h0, _⟩ := HQ.out; exact h0.lt q hq))
                        have HR9 := Lib.hid (cell_below hb9 (Nat.le_refl _) r0'.out)
                        have HR9' := Lib.hid (cell_below hb9 (Nat.le_refl _) r1'.out)
                        obtain ⟨zs0, hz0s, hown0, hzok0⟩ := HQ.out.kept hbq9
                        have HZ0 := Lib.hid hz0s
                        have HW0 := Lib.hid hown0
                        have HK0 := Lib.hid hzok0
                        have HS9 := Lib.hid hs9
                        have HO9 := Lib.hid ho9'
                        have HB9 := Lib.hid (HK.out.trans (hbq9.mono hKz))
                        have hqll := HQL.out
                        obtain ⟨cl, hcl⟩ : ∃ n, n = cur.length := ⟨_, rfl⟩
                        rw [← hcl] at hqll HW0
                        have HCL := Lib.hid hcl
                        clear hs9 ho9 ho9' hb9 hbq9 hz0s hown0 hzok0 hcl HPA t0 t1 r0 r1 m0 m1 m2 m3
                        go_wp2_with (at_builtin
                                     refine wpList_append_own_at _ rfl (.tmp 96) (.tmp 105) _ rfl w6.heap.size 50 i0 _ 2 32 Tryz.underlying27 hi hz0 hz1 hz2 rfl (by decide) u14 cl (zs0.flatMap zenc) rfl (World.ownsRow.alloc HW0.out _) ⟨w9.heap.size, 0, none⟩ 1 1 [.slice a9 n9 c9, .float .f64 ov] rfl rfl (World.news_of_block (heap_new w9 _)) (by intro u hu; simp at hu; rcases hu with rfl | rfl <;> rfl) (by unfold maxLen; omega) (by omega) (by simp; omega) ?_
                                     intro v' w10 hown' hgrow hnil hat
                                     have hbC : Below w9.heap.size w9 (w9.alloc (.cells #[.slice a9 n9 c9, .float .f64 ov] 50)) := (Below.refl _ _).alloc (Nat.le_refl _) _
                                     have hov' : OV w10 w6.heap.size v' (cur ++ [(pl, ov)]) := OV.appended (v' := v') (w' := w10) (z := (.slice a9 n9 c9, pl, ov)) HZ0.out (fun z hz => (HK0.out z hz).below hbC (Nat.le_refl _))
                                       ⟨HS9.out.below hbC (Nat.le_refl _), fun hx0 he => by
                                         obtain ⟨q, e1, _⟩ := HS9.out.lt hx0
                                         have h3 := HO9.out q e1
                                         have h4 := (HLQ.out q (by rw [← he]; exact e1)).2
                                         omega⟩ (by rw [← HCL.out]; exact hown') hgrow hat
                                     have HOV7 := Lib.hid hov'
                                     have HB10 := Lib.hid ((HB9.out.trans (hbC.mono hz9)).grown hgrow (by simp; omega) (fun q hq => (HLQ.out q hq).1))
                                     have HRP10 := Lib.hid (show w10.cell? ⟨wo.heap.size, 0, none⟩ = some (.slice a2 n2 c2) ∧ w10.cell? ⟨wo.heap.size, 1, none⟩ = some (.float .f64 zf) ∧ some wo.heap.size ≠ v'.ownBlock from ⟨hgrow.cell (cell_below hbC (Nat.le_refl _) HR9.out) hnb, hgrow.cell (cell_below hbC (Nat.le_refl _) HR9'.out) hnb, fun e => by
                                       rcases hat with h | h
                                       · exact hnb (e.trans h)
                                       · rw [h] at e
                                         injection e with e
                                         simp at e
                                         omega⟩)
                                     clear hown' hgrow hnil hat hov' hbC)
                        go_wp2_with fail
                        go_roundw
                        case rel => exact ⟨k + 1, by omega, by go_num, by rw [HCUR.out, HCC.out]; exact HOV7.out, HB10.out, HRP10.out⟩
                        case measure => simp [intOf]; omega
                      | false =>
                        have hnf : ¬ (op < 5 ∨ false = true) := by simp; omega
                        cases hv with
                        | true =>
                          have HPA := Lib.hid (HPR.out _ HBA.out)
                          have HCC := Lib.hid (show pairP op 2 how names incl false (zl, zf) (ql, qf) = [(pairL 2 how names incl zl ql, zf)] from pairP_yes (show cellB op false zf qf = true by unfold cellB; rw [if_neg hnf]; exact HHV.out.symm) (show cellV op false zf qf = zf by unfold cellV; rw [if_neg hnf]))
                          obtain ⟨pl, hpl2⟩ : ∃ l, l = pairL 2 how names incl zl ql := ⟨_, rfl⟩
                          rw [← hpl2] at HPA HCC
                          have r0' := Lib.hid r0
                          have r1' := Lib.hid r1
                          clear hpl2 HPR
                          go_wp2_with fail
                          refine HPA.out.mono ?_
                          rintro e w9 ⟨a9, n9, c9, rfl, hs9, ho9, hb9⟩
                          have hbq9 : Below wr.heap.size wr w9 := HBA.out.trans (hb9.mono HBA.out.size)
                          have hzA := HBA.out.size
                          have ho9' : ∀ q, (Value.slice a9 n9 c9).ownBlock = some q → wr.heap.size ≤ q := fun q hq => Nat.le_trans hzA (ho9 q hq)
                          have hz9q := hbq9.size
                          have hz9 : w6.heap.size ≤ w9.heap.size := by omega
                          have HLQ := Lib.hid (fun q (hq : u14.ownBlock = some q) => (show w6.heap.size ≤ q ∧ q < wr.heap.size by obtain ⟨_, _, h0, _⟩ := HQ.out; exact h0.lt q hq))
                          have HR9 := Lib.hid (cell_below hb9 (Nat.le_refl _) r0'.out)
                          have HR9' := Lib.hid (cell_below hb9 (Nat.le_refl _) r1'.out)
                          obtain ⟨zs0, hz0s, hown0, hzok0⟩ := HQ.out.kept hbq9
                          have HZ0 := Lib.hid hz0s
                          have HW0 := Lib.hid hown0
                          have HK0 := Lib.hid hzok0
                          have HS9 := Lib.hid hs9
                          have HO9 := Lib.hid ho9'
                          have HB9 := Lib.hid (HK.out.trans (hbq9.mono hKz))
                          have hqll := HQL.out
                          obtain ⟨cl, hcl⟩ : ∃ n, n = cur.length := ⟨_, rfl⟩
                          rw [← hcl] at hqll HW0
                          have HCL := Lib.hid hcl
                          clear hs9 ho9 ho9' hb9 hbq9 hz0s hown0 hzok0 hcl HPA t0 t1 r0 r1 m0 m1 m2 m3
                          go_wp2_with (at_builtin
                                       refine wpList_append_own_at _ rfl (.tmp 96) (.tmp 105) _ rfl w6.heap.size 50 i0 _ 2 32 Tryz.underlying27 hi hz0 hz1 hz2 rfl (by decide) u14 cl (zs0.flatMap zenc) rfl (World.ownsRow.alloc HW0.out _) ⟨w9.heap.size, 0, none⟩ 1 1 [.slice a9 n9 c9, .float .f64 zf] rfl rfl (World.news_of_block (heap_new w9 _)) (by intro u hu; simp at hu; rcases hu with rfl | rfl <;> rfl) (by unfold maxLen; omega) (by omega) (by simp; omega) ?_
                                       intro v' w10 hown' hgrow hnil hat
                                       have hbC : Below w9.heap.size w9 (w9.alloc (.cells #[.slice a9 n9 c9, .float .f64 zf] 50)) := (Below.refl _ _).alloc (Nat.le_refl _) _
                                       have hov' : OV w10 w6.heap.size v' (cur ++ [(pl, zf)]) := OV.appended (v' := v') (w' := w10) (z := (.slice a9 n9 c9, pl, zf)) HZ0.out (fun z hz => (HK0.out z hz).below hbC (Nat.le_refl _))
                                         ⟨HS9.out.below hbC (Nat.le_refl _), fun hx0 he => by
                                           obtain ⟨q, e1, _⟩ := HS9.out.lt hx0
                                           have h3 := HO9.out q e1
                                           have h4 := (HLQ.out q (by rw [← he]; exact e1)).2
                                           omega⟩ (by rw [← HCL.out]; exact hown') hgrow hat
                                       have HOV7 := Lib.hid hov'
                                       have HB10 := Lib.hid ((HB9.out.trans (hbC.mono hz9)).grown hgrow (by simp; omega) (fun q hq => (HLQ.out q hq).1))
                                       have HRP10 := Lib.hid (show w10.cell? ⟨wo.heap.size, 0, none⟩ = some (.slice a2 n2 c2) ∧ w10.cell? ⟨wo.heap.size, 1, none⟩ = some (.float .f64 zf) ∧ some wo.heap.size ≠ v'.ownBlock from ⟨hgrow.cell (cell_below hbC (Nat.le_refl _) HR9.out) hnb, hgrow.cell (cell_below hbC (Nat.le_refl _) HR9'.out) hnb, fun e => by
                                         rcases hat with h | h
                                         · exact hnb (e.trans h)
                                         · rw [h] at e
                                           injection e with e
                                           simp at e
                                           omega⟩)
                                       clear hown' hgrow hnil hat hov' hbC)
                          go_wp2_with fail
                          go_roundw
                          case rel => exact ⟨k + 1, by omega, by go_num, by rw [HCUR.out, HCC.out]; exact HOV7.out, HB10.out, HRP10.out⟩
                          case measure => simp [intOf]; omega
                        | false =>
                          have HCC := Lib.hid (show pairP op 2 how names incl false (zl, zf) (ql, qf) = [] from pairP_no (show cellB op false zf qf = false by unfold cellB; rw [if_neg hnf]; exact HHV.out.symm))
                          have HOV7 := Lib.hid (HQ.out.kept HBA.out)
                          have HB10 := Lib.hid (HK.out.trans (HBA.out.mono hKz))
                          have HRP10 := Lib.hid (⟨r0, r1, hnb⟩ : (wA.drewN nq).cell? ⟨wo.heap.size, 0, none⟩ = some (.slice a2 n2 c2) ∧ (wA.drewN nq).cell? ⟨wo.heap.size, 1, none⟩ = some (.float .f64 zf) ∧ some wo.heap.size ≠ u14.ownBlock)
                          go_wp2_with fail
                          go_roundw
                          case rel => exact ⟨k + 1, by omega, by go_num, by rw [HCUR.out, HCC.out, List.append_nil]; exact HOV7.out, HB10.out, HRP10.out⟩
                          case measure => simp [intOf]; omega
                  · have hltz2 : ¬ (k : Int) < (M : Int) := by omega
                    obtain rfl : k = M := by omega
                    have HQE := Lib.hid (show OV wr w6.heap.size u14 ((ps.take (j + 1)).flatMap (rowP op 2 how names incl flag qs)) by
                      have h1 := HQ.out
                      rw [List.take_of_length_le (by have := HM.out; simp; omega), HFP.out] at h1
                      rw [HTK.out]; exact h1)
                    clear HQ
                    go_wp2_with fail
                    go_roundw
                    case rel => exact ⟨j + 1, by omega, by go_num, HQE.out, HK.out⟩
                    case measure => simp [intOf]; omega
              · have hltz : ¬ (j : Int) < (NA : Int) := by omega
                obtain rfl : j = NA := by omega
                have hov := HO.out
                rw [List.take_of_length_le (by have := HLA.out; omega)] at hov
                have HNM := Lib.hid (normal_any _ _ wo hov.vs (by
                  have h1 := flat_le (rowP op 2 how names incl flag qs) 300 (fun p => rowP_len op 2 how names incl flag p HPB3.out) ps
                  have h2 := HPA3.out
                  have h3 := Nat.mul_le_mul_right 300 h2
                  omega))
                obtain ⟨a8, c8, rfl, -, -⟩ := hov.slice
                obtain ⟨N8, hN8⟩ : ∃ n, n = (ps.flatMap (rowP op 2 how names incl flag qs)).length := ⟨_, rfl⟩
                rw [← hN8] at HNM ⊢
                clear hov HO hN8
                go_wp2_with fail
                refine HNM.out.mono ?_
                rintro e w9 ⟨hb9, hnr⟩
                obtain ⟨v5, n5, rfl⟩ := nr_tuple hnr
                have HNR := Lib.hid hnr
                have HB9 := Lib.hid (HBW.out.trans ((HB.out.trans (hb9.mono hBz)).mono HBW.out.size))
                clear hnr hb9 HNM
                go_wp2_with fail
                go_ret2
                exact ⟨HB9.out, .inr (.inr ⟨HOK3.out, HNT.out, HNR.out⟩)⟩
      · have HC0 := Lib.hid (show mchkL how names card incl ≠ 0 by rw [← hck]; exact hc0)
        have hck1 : ck = 1 := by rw [hck]; exact mchk_one HC0.out
        subst hck1
        clear hc0 hck
        go_enter Tryz.func9, Tryz.ntmps9
        go_wp2_with fail
        rw [← HW1.out, ← HMB.out]
        refine (HCK.out _ HB1.out).mono ?_
        rintro e w2 ⟨rfl, hb2⟩
        have HB2 := Lib.hid (HB1.out.trans (hb2.mono HB1.out.size))
        clear hb2
        go_wp2_with fail
        go_ret2
        exact ⟨HB2.out, .inl ⟨.inr (.inr HC0.out), rfl⟩⟩
end Go.Proofs.YtogjcaakfnfapaaGreatDoor
