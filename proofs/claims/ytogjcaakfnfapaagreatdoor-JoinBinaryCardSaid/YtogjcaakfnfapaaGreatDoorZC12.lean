/- Set operators of two vectors: the code's walk (printed by gen_jn8.py). Whether two points have one sign: a range over the map. (Several texts in one file, by merge.py.) -/
import Derived.Test.YtogjcaakfnfapaaGreatDoorZC10
import Derived.Maps.RangeWalk
namespace Go.Proofs.YtogjcaakfnfapaaGreatDoor
open Go Go.RowKit Go.Maps
set_option linter.unusedVariables false
set_option linter.unusedSimpArgs false
set_option maxRecDepth 100000
def keepP (op how : Int) (names : List ByteArray) (qs : List Pt) (p : Pt) : Bool := keepB op (hasSg (sgP how names) qs (sgP how names p))
def addP (op how : Int) (names : List ByteArray) (ps : List Pt) (q : Pt) : Bool := addB op (hasSg (sgP how names) ps (sgP how names q))
theorem set_eq (op how : Int) (names : List ByteArray) (ps qs : List Pt) : setP op how names ps qs = ps.filter (keepP op how names qs) ++ qs.filter (addP op how names ps) := rfl
theorem take_filter (c : Pt → Bool) (ps : List Pt) (j : Nat) (p : Pt) (h : j < ps.length) (e : ps[j] = p) : (ps.take (j + 1)).filter c = (ps.take j).filter c ++ if c p = true then [p] else [] := by
  rw [List.take_succ_eq_append_getElem h, List.filter_append, e]
  congr 1
  by_cases hc : c p = true
  · rw [if_pos hc, List.filter_cons, if_pos hc]; rfl
  · rw [if_neg hc, List.filter_cons, if_neg hc]; rfl
theorem filter_le (c : Pt → Bool) (ps : List Pt) (j n : Nat) (h : ps.length ≤ n) : ((ps.take j).filter c).length ≤ n := Nat.le_trans (List.length_filter_le _ _) (by rw [List.length_take]; omega)
theorem has_flag {how : Int} {names : List ByteArray} {zs : List ZPt} {ps : List Pt} {l : List Lb} (h : zs.map (·.2) = ps) (hz : ∀ z ∈ zs, SizesOk z.2.1) (hl : SizesOk l) :
    (!(grpB (sgZ how names) zs (keyL (signL how names l))).isEmpty) = hasSg (sgP how names) ps (signL how names l) := by
  rw [grp_has (sgZ how names) zs (fun z hzz => (hz z hzz).sign how names) (hl.sign how names), ← h]
  exact hasSg_map (fun z : ZPt => z.2) (sgP how names) zs _
theorem set_tuple {op how : Int} {names : List ByteArray} {ps qs : List Pt} {e : Ending} {w : World} (h : SetR op how names ps qs e w) : ∃ v n, e = .returned (.tuple #[v, .int .i64 n]) := by
  rcases h with ⟨-, rfl⟩ | ⟨-, h⟩
  · exact ⟨_, _, rfl⟩
  · exact nr_tuple h
set_option maxHeartbeats 64000000 in
theorem set_go (op how : Int) (vn va vb : Value) (names : List ByteArray) (ps qs : List Pt) (w : World) (hva : VS w va ps) (hvb : VS w vb qs) (hn : Sl senc1 w vn names) (hz : ∀ s ∈ names, s.size ≤ maxLen)
    (hpa : ∀ p ∈ ps, PtOk p) (hpb : ∀ p ∈ qs, PtOk p) (hla : ps.length ≤ 300) (hlb : qs.length ≤ 300) (ht : Tab w) :
    Calls Tryz.prog 14 #[.int .i64 op, .agg #[.int .i64 how, vn], va, vb] w fun e w' => Below w.heap.size w w' ∧ SetR op how names ps qs e w' := by
  obtain ⟨i0, hi, hz0, hz1, hz2⟩ := info_parts Tryz.infoPt
  obtain ⟨zsa, hza, hsa, hala⟩ := hva.zpts
  obtain ⟨zsb, hzb, hsb, halb⟩ := hvb.zpts
  have HZA := Lib.hid hza
  have HZB := Lib.hid hzb
  have HOKA := Lib.hid (fun (z : ZPt) (h : z ∈ zsa) => (show z.2.1.length ≤ 1000 ∧ SizesOk z.2.1 from by have := hpa z.2 (by rw [← hza]; exact List.mem_map_of_mem h); exact ⟨this.1, this.2.1⟩))
  have HOKB := Lib.hid (fun (z : ZPt) (h : z ∈ zsb) => (show z.2.1.length ≤ 1000 ∧ SizesOk z.2.1 from by have := hpb z.2 (by rw [← hzb]; exact List.mem_map_of_mem h); exact ⟨this.1, this.2.1⟩))
  have HLA := Lib.hid (show zsa.length = ps.length from by rw [← hza]; simp)
  have HLB := Lib.hid (show zsb.length = qs.length from by rw [← hzb]; simp)
  have HALA := Lib.hid hala
  have HALB := Lib.hid halb
  have HSN := Lib.hid hn
  have HTB := Lib.hid ht
  have HCK := Lib.hid (fun w' (hb : Below w.heap.size w w') => check_any how vn names w' (hn.below hb (Nat.le_refl _)) hz)
  have HSIA := Lib.hid (fun w' (hb : Below w.heap.size w w') => signs_go how va vn names zsa w' (hsa.below hb (Nat.le_refl _)) (fun z hzz => (hala z hzz).below hb (Nat.le_refl _)) (hn.below hb (Nat.le_refl _)) HOKA.out (by rw [HLA.out]; exact hla) (ht.below hb (Nat.le_refl _)))
  have HSIB := Lib.hid (fun w' (hb : Below w.heap.size w w') => signs_go how vb vn names zsb w' (hsb.below hb (Nat.le_refl _)) (fun z hzz => (halb z hzz).below hb (Nat.le_refl _)) (hn.below hb (Nat.le_refl _)) HOKB.out (by rw [HLB.out]; exact hlb) (ht.below hb (Nat.le_refl _)))
  obtain ⟨an, cn, rfl, hlen, -⟩ := hn.strings
  obtain ⟨aa, ca, rfl, hlva, -, hca⟩ := hsa.split zenc_len
  obtain ⟨ab, cb, rfl, hlvb, -, hcb⟩ := hsb.split zenc_len
  have HCA := Lib.hid hca
  have HCB := Lib.hid hcb
  clear hva hvb hn hz hpa hpb ht hza hzb hsa hsb hala halb hca hcb
  obtain ⟨nn, hnn⟩ : ∃ n, n = names.length := ⟨_, rfl⟩
  rw [← hnn] at HCK HSIA HSIB HSN hlen ⊢
  clear hnn
  obtain ⟨NA, hNA⟩ : ∃ n, n = zsa.length := ⟨_, rfl⟩
  rw [← hNA] at HSIA HLA hlva ⊢
  have HNA := Lib.hid hNA
  obtain ⟨NB, hNB⟩ : ∃ n, n = zsb.length := ⟨_, rfl⟩
  rw [← hNB] at HSIB HLB hlvb ⊢
  have HNB := Lib.hid hNB
  have hna3 : NA ≤ 300 := by rw [HLA.out]; exact hla
  have hnb3 : NB ≤ 300 := by rw [HLB.out]; exact hlb
  have HPA3 := Lib.hid hla
  have HPB3 := Lib.hid hlb
  clear hNA hNB hla hlb
  obtain ⟨w1, hw1⟩ : ∃ w1, w1 = w.alloc (.cells #[.int .i64 how, .slice an nn cn] 24) := ⟨_, rfl⟩
  obtain ⟨bg, hbg⟩ : ∃ b, b = w.heap.size := ⟨_, rfl⟩
  have G0 := Lib.hid (show w1.cell? ⟨bg, 0, none⟩ = some (.int .i64 how) by rw [hw1, hbg]; simp)
  have G1 := Lib.hid (show w1.cell? ⟨bg, 1, none⟩ = some (.slice an nn cn) by rw [hw1, hbg]; simp)
  have HB1 := Lib.hid (show Below w.heap.size w w1 by rw [hw1]; exact (Below.refl _ _).alloc (Nat.le_refl _) _)
  have HW1 := Lib.hid hw1
  have HBG := Lib.hid hbg
  clear hw1 hbg
  by_cases h1 : op < 11
  · go_enter Tryz.func14, Tryz.ntmps14
    go_wp2_with fail
    go_ret2
    exact ⟨(Below.refl _ _).alloc (Nat.le_refl _) _, .inl ⟨.inl h1, rfl⟩⟩
  · have h1' : 11 ≤ op := by omega
    clear h1
    by_cases h2 : 14 < op
    · go_enter Tryz.func14, Tryz.ntmps14
      go_wp2_with fail
      go_ret2
      exact ⟨(Below.refl _ _).alloc (Nat.le_refl _) _, .inl ⟨.inr (.inl h2), rfl⟩⟩
    · have h2' : op ≤ 14 := by omega
      have b1 : decide (op < 11) = false := decide_eq_false (by omega)
      have b2 : decide (14 < op) = false := decide_eq_false (by omega)
      clear h2
      obtain ⟨ck, hck⟩ : ∃ c, c = chkL how names := ⟨_, rfl⟩
      rw [← hck] at HCK
      by_cases hc0 : ck = 0
      · subst hc0
        have HC0 := Lib.hid hck
        clear hck
        go_enter Tryz.func14, Tryz.ntmps14
        go_wp2_with fail
        rw [← HW1.out, ← HBG.out]
        refine (HCK.out _ HB1.out).mono ?_
        rintro e w2 ⟨rfl, hb2⟩
        have g0 := cell_below hb2 (Nat.le_refl _) G0.out
        have g1 := cell_below hb2 (Nat.le_refl _) G1.out
        have HB2 := Lib.hid (HB1.out.trans (hb2.mono HB1.out.size))
        have HSA2 := Lib.hid (fun w' (hb : Below w2.heap.size w2 w') => HSIA.out w' (HB2.out.trans (hb.mono HB2.out.size)))
        have HSB2 := Lib.hid (fun w' (hb : Below w2.heap.size w2 w') => HSIB.out w' (HB2.out.trans (hb.mono HB2.out.size)))
        clear hb2 HCK HSIA HSIB
        go_wp2_with fail
        have hbA : Below w2.heap.size w2 w2 := Below.refl _ _
        have hsA := hbA.size
        have hfst : True := trivial
        go_region_held3 (fun w' => w'.cell? ⟨bg, 0, none⟩ = some (.int .i64 how) ∧ w'.cell? ⟨bg, 1, none⟩ = some (.slice an nn cn))
          (exact ⟨cell_below (B := w2.heap.size) (by go_grown) (Nat.le_refl _) g0, cell_below (B := w2.heap.size) (by go_grown) (Nat.le_refl _) g1⟩)
          (first
            | (go_at_call 21
               clear hfst
               refine (HSA2.out _ (by go_grown)).mono ?_
               rintro e w3 ⟨b3, base3, V3, rfl, hge3, hG3, hb3⟩
               have hbA : Below w2.heap.size w2 w3 := Below.trans (by go_grown) (hb3.mono (by first | exact Nat.le_refl _ | (simp; done) | (simp; omega)))
               have hsA := hbA.size)
            | (go_at_call 21
               refine (HSB2.out _ hbA).mono ?_
               rintro e w4 ⟨b4, base4, V4, rfl, hge4, hG4, hb4⟩
               have hbA : Below w2.heap.size w2 w4 := hbA.trans (hb4.mono hsA)
               have hsA := hbA.size))
        have HGL := Lib.hid (hG3.below hb4 (Nat.le_refl _))
        have HGR := Lib.hid hG4
        have HBW := Lib.hid (HB2.out.trans (hbA.mono HB2.out.size))
        have GW0 := Lib.hid (cell_below hbA (Nat.le_refl _) g0)
        have GW1 := Lib.hid (cell_below hbA (Nat.le_refl _) g1)
        have HOP := Lib.hid (show op = 11 ∨ op = 12 ∨ op = 13 ∨ op = 14 by omega)
        clear hbA hsA hG3 hG4 hb3 hb4 g0 g1 HSA2 HSB2 hge3 hge4
        go_wp2_with fail
        go_loopw [13, 41] (fun out i wr => ∃ (j : Nat), j ≤ NA ∧ i = .int .i64 j ∧ Hid (OV wr w4.heap.size out ((ps.take j).filter (keepP op how names qs))) ∧ Hid (Below w4.heap.size w4 wr)) (fun _ i _ => NA - (intOf i).toNat)
        case atStart => exact ⟨0, Nat.zero_le _, rfl, OV.nil _ _, Below.refl _ _⟩
        case round =>
          obtain ⟨j, hj, rfl, HO, HB⟩ := hrel
          have hBz := HB.out.size
          have h00 : (0 : Int) ≤ (j : Int) := by omega
          by_cases hlt : j < NA
          · have hltz : (j : Int) < (NA : Int) := by omega
            have hjz : j < zsa.length := by have := HNA.out; omega
            obtain ⟨b, off, rfl, hd⟩ := HCA.out j hjz
            have hbw : Below w.heap.size w wr := HBW.out.trans (HB.out.mono HBW.out.size)
            obtain ⟨z, hzj⟩ : ∃ z, z = zsa[j] := ⟨_, rfl⟩
            have hzm : z ∈ zsa := by rw [hzj]; exact List.getElem_mem hjz
            rw [← hzj] at hd
            have hslz0 := HALA.out z hzm
            have hslz := hslz0.below hbw (Nat.le_refl _)
            have hjp : j < ps.length := by have := HLA.out; omega
            have hpj : ps[j] = z.2 := by
              rw [hzj]
              have h1 := HZA.out
              subst h1
              rw [List.getElem_map]
            obtain ⟨lv, zl, zf⟩ := z
            have q0 : wr.cell? ⟨b, off + j * 2, none⟩ = some lv := cell_below hbw (Nat.le_refl _) (hd 0 _ rfl)
            have q1 : wr.cell? ⟨b, off + j * 2 + 1, none⟩ = some (.float .f64 zf) := cell_below hbw (Nat.le_refl _) (hd 1 _ rfl)
            obtain ⟨a2, n2, c2, rfl⟩ : ∃ a2 n2 c2, lv = .slice a2 n2 c2 := by
              obtain ⟨a2, c2, e, -⟩ := hslz
              exact ⟨a2, _, c2, e⟩
            have G0' := cell_below HB.out (Nat.le_refl _) GW0.out
            have G1' := cell_below HB.out (Nat.le_refl _) GW1.out
            have hbl : b < wr.heap.size := World.block_lt_of_cell? wr _ q0
            have hbgl : bg < wr.heap.size := World.block_lt_of_cell? wr _ G0'
            have hbne : bg ≠ wr.heap.size := by omega
            have hgok : SizesOk zl := (HOKA.out _ hzm).2
            have hgl : zl.length ≤ 1000 := (HOKA.out _ hzm).1
            have HGRP := Lib.hid (fun w' (hb : Below wr.heap.size wr w') => signkey_any how (.slice a2 n2 c2) (.slice an nn cn) zl names w' (hslz.below hb (Nat.le_refl _)) ((HSN.out.below hbw (Nat.le_refl _)).below hb (Nat.le_refl _)) hgl hgok (HTB.out.below (hbw.trans (hb.mono hbw.size)) (Nat.le_refl _)))
            obtain ⟨hb0, hhb0⟩ : ∃ b, b = hasSg (sgP how names) qs (signL how names zl) := ⟨_, rfl⟩
            have hflag := has_flag (how := how) (names := names) (l := zl) HZB.out (fun z hzz => (HOKB.out z hzz).2) hgok
            rw [← hhb0] at hflag
            have HTK := Lib.hid (take_filter (keepP op how names qs) ps j (zl, zf) hjp hpj)
            have HCV := Lib.hid (show (keepP op how names qs) (zl, zf) = keepB op hb0 by rw [hhb0]; rfl)
            obtain ⟨s, hs⟩ : ∃ s, s = keyL (signL how names zl) := ⟨_, rfl⟩
            have HKS := Lib.hid (show s.size ≤ maxLen by rw [hs]; exact key_max (hgok.sign how names) (by have := sign_len how names zl; omega))
            rw [← hs] at HGRP hflag
            have HFL := Lib.hid hflag
            have HSZ := Lib.hid (hslz0.below HBW.out (Nat.le_refl _))
            clear hd hzj hzm hslz hslz0 hbw hgok hgl hs hhb0 hflag hpj hjp
            go_wp2_with fail
            refine (HGRP.out _ ((Below.refl _ _).alloc (Nat.le_refl _) _)).mono ?_
            rintro e w5 ⟨rfl, hb4⟩
            have hb5 : Below wr.heap.size wr w5 := ((Below.refl wr.heap.size wr).alloc (Nat.le_refl _) (.cells #[.slice a2 n2 c2, .float .f64 zf] 50)).trans (hb4.mono (by simp))
            have r0 : w5.cell? ⟨wr.heap.size, 0, none⟩ = some (.slice a2 n2 c2) := cell_below hb4 (Nat.le_refl _) (by simp)
            have r1 : w5.cell? ⟨wr.heap.size, 1, none⟩ = some (.float .f64 zf) := cell_below hb4 (Nat.le_refl _) (by simp)
            have hbW5 := HB.out.trans (hb5.mono hBz)
            have hlk := (HGR.out.below hbW5 (Nat.le_refl _)).m.lookOk Tryz.underlying53 (zero_pts _) HKS.out
            rw [HFL.out] at hlk
            have HLK := Lib.hid hlk
            have HOV5 := Lib.hid (HO.out.kept hb5)
            obtain ⟨zs0, hz0s, hown0, hzok0⟩ := HO.out.kept hb5
            have hql : ((ps.take j).filter (keepP op how names qs)).length ≤ 600 := Nat.le_trans (filter_le _ _ _ 300 HPA3.out) (by decide)
            have HZ0 := Lib.hid hz0s
            have HW0 := Lib.hid hown0
            have HK0 := Lib.hid hzok0
            have HBW5 := Lib.hid hbW5
            have hz5 : wr.heap.size < w5.heap.size := World.block_lt_of_cell? w5 _ r0
            have hzw : w4.heap.size ≤ w5.heap.size := hbW5.size
            obtain ⟨ql, hqll⟩ : ∃ n, n = ((ps.take j).filter (keepP op how names qs)).length := ⟨_, rfl⟩
            rw [← hqll] at hql HW0 hown0
            have HQL := Lib.hid hqll
            clear hb4 hb5 hbW5 hlk hz0s hown0 hzok0 hqll HGRP
            rcases HOP.out with rfl | rfl | rfl | rfl
            · cases hb0 with
              | true =>
                have HT := Lib.hid HTK.out
                rw [show (keepP 11 how names qs) (zl, zf) = true from HCV.out] at HT
                rw [if_pos rfl] at HT
                go_wp2_with (first
                  | (at_lookup; refine wpList_lookup_of _ rfl _ _ _ true rfl _ _ _ rfl rfl HLK.out ?_)
                  | (at_builtin
                     refine wpList_append_own_at _ rfl (.tmp 75) (.tmp 77) _ rfl w4.heap.size 50 i0 _ 2 32 Tryz.underlying27 hi hz0 hz1 hz2 rfl (by decide) u13 ql (zs0.flatMap zenc) rfl (World.ownsRow.alloc HW0.out _) ⟨w5.heap.size, 0, none⟩ 1 1 [.slice a2 n2 c2, .float .f64 zf] rfl rfl (World.news_of_block (heap_new w5 _)) (by intro u hu; simp at hu; rcases hu with rfl | rfl <;> rfl) (by unfold maxLen; omega) (by omega) (by simp; omega) ?_
                     intro v' w7 hown' hgrow hnil hat
                     have hbC : Below w5.heap.size w5 (w5.alloc (.cells #[.slice a2 n2 c2, .float .f64 zf] 50)) := (Below.refl _ _).alloc (Nat.le_refl _) _
                     have hov' : OV w7 w4.heap.size v' (((ps.take j).filter (keepP 11 how names qs)) ++ [(zl, zf)]) := OV.appended (v' := v') (w' := w7) (z := (.slice a2 n2 c2, zl, zf)) HZ0.out (fun z hz => (HK0.out z hz).below hbC (Nat.le_refl _))
                       (((ZOk.fresh (z := (.slice a2 n2 c2, zl, zf)) HSZ.out (fun q hq => (HW0.out.lt q hq).1)).below HBW5.out (Nat.le_refl _)).below hbC (Nat.le_refl _)) (by rw [← HQL.out]; exact hown') hgrow hat
                     have HOV7 := Lib.hid hov'
                     have HB7 := Lib.hid ((HBW5.out.trans (hbC.mono hzw)).grown hgrow (by simp; omega) (fun q hq => (HW0.out.lt q hq).1))
                     clear hown' hgrow hnil hat hov' hbC))
                go_wp2_with fail
                go_roundw
                case rel => exact ⟨j + 1, by omega, by go_num, by rw [HT.out]; exact HOV7.out, HB7.out⟩
                case measure => simp [intOf]; omega
              | false =>
                have HT := Lib.hid HTK.out
                rw [show (keepP 11 how names qs) (zl, zf) = false from HCV.out] at HT
                rw [if_neg (by decide), List.append_nil] at HT
                go_wp2_with (first
                  | (at_lookup; refine wpList_lookup_of _ rfl _ _ _ true rfl _ _ _ rfl rfl HLK.out ?_))
                go_roundw
                case rel => exact ⟨j + 1, by omega, by go_num, by rw [HT.out]; exact HOV5.out, HBW5.out⟩
                case measure => simp [intOf]; omega
            · cases hb0 with
              | true =>
                have HT := Lib.hid HTK.out
                rw [show (keepP 12 how names qs) (zl, zf) = true from HCV.out] at HT
                rw [if_pos rfl] at HT
                go_wp2_with (first
                  | (at_lookup; refine wpList_lookup_of _ rfl _ _ _ true rfl _ _ _ rfl rfl HLK.out ?_)
                  | (at_builtin
                     refine wpList_append_own_at _ rfl (.tmp 75) (.tmp 77) _ rfl w4.heap.size 50 i0 _ 2 32 Tryz.underlying27 hi hz0 hz1 hz2 rfl (by decide) u13 ql (zs0.flatMap zenc) rfl (World.ownsRow.alloc HW0.out _) ⟨w5.heap.size, 0, none⟩ 1 1 [.slice a2 n2 c2, .float .f64 zf] rfl rfl (World.news_of_block (heap_new w5 _)) (by intro u hu; simp at hu; rcases hu with rfl | rfl <;> rfl) (by unfold maxLen; omega) (by omega) (by simp; omega) ?_
                     intro v' w7 hown' hgrow hnil hat
                     have hbC : Below w5.heap.size w5 (w5.alloc (.cells #[.slice a2 n2 c2, .float .f64 zf] 50)) := (Below.refl _ _).alloc (Nat.le_refl _) _
                     have hov' : OV w7 w4.heap.size v' (((ps.take j).filter (keepP 12 how names qs)) ++ [(zl, zf)]) := OV.appended (v' := v') (w' := w7) (z := (.slice a2 n2 c2, zl, zf)) HZ0.out (fun z hz => (HK0.out z hz).below hbC (Nat.le_refl _))
                       (((ZOk.fresh (z := (.slice a2 n2 c2, zl, zf)) HSZ.out (fun q hq => (HW0.out.lt q hq).1)).below HBW5.out (Nat.le_refl _)).below hbC (Nat.le_refl _)) (by rw [← HQL.out]; exact hown') hgrow hat
                     have HOV7 := Lib.hid hov'
                     have HB7 := Lib.hid ((HBW5.out.trans (hbC.mono hzw)).grown hgrow (by simp; omega) (fun q hq => (HW0.out.lt q hq).1))
                     clear hown' hgrow hnil hat hov' hbC))
                go_wp2_with fail
                go_roundw
                case rel => exact ⟨j + 1, by omega, by go_num, by rw [HT.out]; exact HOV7.out, HB7.out⟩
                case measure => simp [intOf]; omega
              | false =>
                have HT := Lib.hid HTK.out
                rw [show (keepP 12 how names qs) (zl, zf) = true from HCV.out] at HT
                rw [if_pos rfl] at HT
                go_wp2_with (first
                  | (at_lookup; refine wpList_lookup_of _ rfl _ _ _ true rfl _ _ _ rfl rfl HLK.out ?_)
                  | (at_builtin
                     refine wpList_append_own_at _ rfl (.tmp 75) (.tmp 77) _ rfl w4.heap.size 50 i0 _ 2 32 Tryz.underlying27 hi hz0 hz1 hz2 rfl (by decide) u13 ql (zs0.flatMap zenc) rfl (World.ownsRow.alloc HW0.out _) ⟨w5.heap.size, 0, none⟩ 1 1 [.slice a2 n2 c2, .float .f64 zf] rfl rfl (World.news_of_block (heap_new w5 _)) (by intro u hu; simp at hu; rcases hu with rfl | rfl <;> rfl) (by unfold maxLen; omega) (by omega) (by simp; omega) ?_
                     intro v' w7 hown' hgrow hnil hat
                     have hbC : Below w5.heap.size w5 (w5.alloc (.cells #[.slice a2 n2 c2, .float .f64 zf] 50)) := (Below.refl _ _).alloc (Nat.le_refl _) _
                     have hov' : OV w7 w4.heap.size v' (((ps.take j).filter (keepP 12 how names qs)) ++ [(zl, zf)]) := OV.appended (v' := v') (w' := w7) (z := (.slice a2 n2 c2, zl, zf)) HZ0.out (fun z hz => (HK0.out z hz).below hbC (Nat.le_refl _))
                       (((ZOk.fresh (z := (.slice a2 n2 c2, zl, zf)) HSZ.out (fun q hq => (HW0.out.lt q hq).1)).below HBW5.out (Nat.le_refl _)).below hbC (Nat.le_refl _)) (by rw [← HQL.out]; exact hown') hgrow hat
                     have HOV7 := Lib.hid hov'
                     have HB7 := Lib.hid ((HBW5.out.trans (hbC.mono hzw)).grown hgrow (by simp; omega) (fun q hq => (HW0.out.lt q hq).1))
                     clear hown' hgrow hnil hat hov' hbC))
                go_wp2_with fail
                go_roundw
                case rel => exact ⟨j + 1, by omega, by go_num, by rw [HT.out]; exact HOV7.out, HB7.out⟩
                case measure => simp [intOf]; omega
            · cases hb0 with
              | true =>
                have HT := Lib.hid HTK.out
                rw [show (keepP 13 how names qs) (zl, zf) = false from HCV.out] at HT
                rw [if_neg (by decide), List.append_nil] at HT
                go_wp2_with (first
                  | (at_lookup; refine wpList_lookup_of _ rfl _ _ _ true rfl _ _ _ rfl rfl HLK.out ?_))
                go_roundw
                case rel => exact ⟨j + 1, by omega, by go_num, by rw [HT.out]; exact HOV5.out, HBW5.out⟩
                case measure => simp [intOf]; omega
              | false =>
                have HT := Lib.hid HTK.out
                rw [show (keepP 13 how names qs) (zl, zf) = true from HCV.out] at HT
                rw [if_pos rfl] at HT
                go_wp2_with (first
                  | (at_lookup; refine wpList_lookup_of _ rfl _ _ _ true rfl _ _ _ rfl rfl HLK.out ?_)
                  | (at_builtin
                     refine wpList_append_own_at _ rfl (.tmp 75) (.tmp 77) _ rfl w4.heap.size 50 i0 _ 2 32 Tryz.underlying27 hi hz0 hz1 hz2 rfl (by decide) u13 ql (zs0.flatMap zenc) rfl (World.ownsRow.alloc HW0.out _) ⟨w5.heap.size, 0, none⟩ 1 1 [.slice a2 n2 c2, .float .f64 zf] rfl rfl (World.news_of_block (heap_new w5 _)) (by intro u hu; simp at hu; rcases hu with rfl | rfl <;> rfl) (by unfold maxLen; omega) (by omega) (by simp; omega) ?_
                     intro v' w7 hown' hgrow hnil hat
                     have hbC : Below w5.heap.size w5 (w5.alloc (.cells #[.slice a2 n2 c2, .float .f64 zf] 50)) := (Below.refl _ _).alloc (Nat.le_refl _) _
                     have hov' : OV w7 w4.heap.size v' (((ps.take j).filter (keepP 13 how names qs)) ++ [(zl, zf)]) := OV.appended (v' := v') (w' := w7) (z := (.slice a2 n2 c2, zl, zf)) HZ0.out (fun z hz => (HK0.out z hz).below hbC (Nat.le_refl _))
                       (((ZOk.fresh (z := (.slice a2 n2 c2, zl, zf)) HSZ.out (fun q hq => (HW0.out.lt q hq).1)).below HBW5.out (Nat.le_refl _)).below hbC (Nat.le_refl _)) (by rw [← HQL.out]; exact hown') hgrow hat
                     have HOV7 := Lib.hid hov'
                     have HB7 := Lib.hid ((HBW5.out.trans (hbC.mono hzw)).grown hgrow (by simp; omega) (fun q hq => (HW0.out.lt q hq).1))
                     clear hown' hgrow hnil hat hov' hbC))
                go_wp2_with fail
                go_roundw
                case rel => exact ⟨j + 1, by omega, by go_num, by rw [HT.out]; exact HOV7.out, HB7.out⟩
                case measure => simp [intOf]; omega
            · cases hb0 with
              | true =>
                have HT := Lib.hid HTK.out
                rw [show (keepP 14 how names qs) (zl, zf) = true from HCV.out] at HT
                rw [if_pos rfl] at HT
                go_wp2_with (first
                  | (at_lookup; refine wpList_lookup_of _ rfl _ _ _ true rfl _ _ _ rfl rfl HLK.out ?_)
                  | (at_builtin
                     refine wpList_append_own_at _ rfl (.tmp 75) (.tmp 77) _ rfl w4.heap.size 50 i0 _ 2 32 Tryz.underlying27 hi hz0 hz1 hz2 rfl (by decide) u13 ql (zs0.flatMap zenc) rfl (World.ownsRow.alloc HW0.out _) ⟨w5.heap.size, 0, none⟩ 1 1 [.slice a2 n2 c2, .float .f64 zf] rfl rfl (World.news_of_block (heap_new w5 _)) (by intro u hu; simp at hu; rcases hu with rfl | rfl <;> rfl) (by unfold maxLen; omega) (by omega) (by simp; omega) ?_
                     intro v' w7 hown' hgrow hnil hat
                     have hbC : Below w5.heap.size w5 (w5.alloc (.cells #[.slice a2 n2 c2, .float .f64 zf] 50)) := (Below.refl _ _).alloc (Nat.le_refl _) _
                     have hov' : OV w7 w4.heap.size v' (((ps.take j).filter (keepP 14 how names qs)) ++ [(zl, zf)]) := OV.appended (v' := v') (w' := w7) (z := (.slice a2 n2 c2, zl, zf)) HZ0.out (fun z hz => (HK0.out z hz).below hbC (Nat.le_refl _))
                       (((ZOk.fresh (z := (.slice a2 n2 c2, zl, zf)) HSZ.out (fun q hq => (HW0.out.lt q hq).1)).below HBW5.out (Nat.le_refl _)).below hbC (Nat.le_refl _)) (by rw [← HQL.out]; exact hown') hgrow hat
                     have HOV7 := Lib.hid hov'
                     have HB7 := Lib.hid ((HBW5.out.trans (hbC.mono hzw)).grown hgrow (by simp; omega) (fun q hq => (HW0.out.lt q hq).1))
                     clear hown' hgrow hnil hat hov' hbC))
                go_wp2_with fail
                go_roundw
                case rel => exact ⟨j + 1, by omega, by go_num, by rw [HT.out]; exact HOV7.out, HB7.out⟩
                case measure => simp [intOf]; omega
              | false =>
                have HT := Lib.hid HTK.out
                rw [show (keepP 14 how names qs) (zl, zf) = true from HCV.out] at HT
                rw [if_pos rfl] at HT
                go_wp2_with (first
                  | (at_lookup; refine wpList_lookup_of _ rfl _ _ _ true rfl _ _ _ rfl rfl HLK.out ?_)
                  | (at_builtin
                     refine wpList_append_own_at _ rfl (.tmp 75) (.tmp 77) _ rfl w4.heap.size 50 i0 _ 2 32 Tryz.underlying27 hi hz0 hz1 hz2 rfl (by decide) u13 ql (zs0.flatMap zenc) rfl (World.ownsRow.alloc HW0.out _) ⟨w5.heap.size, 0, none⟩ 1 1 [.slice a2 n2 c2, .float .f64 zf] rfl rfl (World.news_of_block (heap_new w5 _)) (by intro u hu; simp at hu; rcases hu with rfl | rfl <;> rfl) (by unfold maxLen; omega) (by omega) (by simp; omega) ?_
                     intro v' w7 hown' hgrow hnil hat
                     have hbC : Below w5.heap.size w5 (w5.alloc (.cells #[.slice a2 n2 c2, .float .f64 zf] 50)) := (Below.refl _ _).alloc (Nat.le_refl _) _
                     have hov' : OV w7 w4.heap.size v' (((ps.take j).filter (keepP 14 how names qs)) ++ [(zl, zf)]) := OV.appended (v' := v') (w' := w7) (z := (.slice a2 n2 c2, zl, zf)) HZ0.out (fun z hz => (HK0.out z hz).below hbC (Nat.le_refl _))
                       (((ZOk.fresh (z := (.slice a2 n2 c2, zl, zf)) HSZ.out (fun q hq => (HW0.out.lt q hq).1)).below HBW5.out (Nat.le_refl _)).below hbC (Nat.le_refl _)) (by rw [← HQL.out]; exact hown') hgrow hat
                     have HOV7 := Lib.hid hov'
                     have HB7 := Lib.hid ((HBW5.out.trans (hbC.mono hzw)).grown hgrow (by simp; omega) (fun q hq => (HW0.out.lt q hq).1))
                     clear hown' hgrow hnil hat hov' hbC))
                go_wp2_with fail
                go_roundw
                case rel => exact ⟨j + 1, by omega, by go_num, by rw [HT.out]; exact HOV7.out, HB7.out⟩
                case measure => simp [intOf]; omega
          · have hltz : ¬ (j : Int) < (NA : Int) := by omega
            obtain rfl : j = NA := by omega
            have HOVE := Lib.hid (show OV wr w4.heap.size u13 (ps.filter (keepP op how names qs)) by
              have h1 := HO.out
              rwa [List.take_of_length_le (by have := HLA.out; omega)] at h1)
            have HBE := Lib.hid HB.out
            clear HO HB hltz hlt hj
            go_wp2_with fail
            go_loopw [13, 82] (fun out i wr => ∃ (j : Nat), j ≤ NB ∧ i = .int .i64 j ∧ Hid (OV wr w4.heap.size out (ps.filter (keepP op how names qs) ++ (qs.take j).filter (addP op how names ps))) ∧ Hid (Below w4.heap.size w4 wr)) (fun _ i _ => NB - (intOf i).toNat)
            case atStart => exact ⟨0, Nat.zero_le _, rfl, (show OV wr w4.heap.size u13 (ps.filter (keepP op how names qs) ++ (qs.take 0).filter (addP op how names ps)) by simpa using HOVE.out), HBE.out⟩
            case round =>
              obtain ⟨j, hj, rfl, HO, HB⟩ := hrel
              have hBz := HB.out.size
              have h00 : (0 : Int) ≤ (j : Int) := by omega
              by_cases hlt : j < NB
              · have hltz : (j : Int) < (NB : Int) := by omega
                have hjz : j < zsb.length := by have := HNB.out; omega
                obtain ⟨b, off, rfl, hd⟩ := HCB.out j hjz
                have hbw : Below w.heap.size w wr := HBW.out.trans (HB.out.mono HBW.out.size)
                obtain ⟨z, hzj⟩ : ∃ z, z = zsb[j] := ⟨_, rfl⟩
                have hzm : z ∈ zsb := by rw [hzj]; exact List.getElem_mem hjz
                rw [← hzj] at hd
                have hslz0 := HALB.out z hzm
                have hslz := hslz0.below hbw (Nat.le_refl _)
                have hjp : j < qs.length := by have := HLB.out; omega
                have hpj : qs[j] = z.2 := by
                  rw [hzj]
                  have h1 := HZB.out
                  subst h1
                  rw [List.getElem_map]
                obtain ⟨lv, zl, zf⟩ := z
                have q0 : wr.cell? ⟨b, off + j * 2, none⟩ = some lv := cell_below hbw (Nat.le_refl _) (hd 0 _ rfl)
                have q1 : wr.cell? ⟨b, off + j * 2 + 1, none⟩ = some (.float .f64 zf) := cell_below hbw (Nat.le_refl _) (hd 1 _ rfl)
                obtain ⟨a2, n2, c2, rfl⟩ : ∃ a2 n2 c2, lv = .slice a2 n2 c2 := by
                  obtain ⟨a2, c2, e, -⟩ := hslz
                  exact ⟨a2, _, c2, e⟩
                have G0' := cell_below HB.out (Nat.le_refl _) GW0.out
                have G1' := cell_below HB.out (Nat.le_refl _) GW1.out
                have hbl : b < wr.heap.size := World.block_lt_of_cell? wr _ q0
                have hbgl : bg < wr.heap.size := World.block_lt_of_cell? wr _ G0'
                have hbne : bg ≠ wr.heap.size := by omega
                have hgok : SizesOk zl := (HOKB.out _ hzm).2
                have hgl : zl.length ≤ 1000 := (HOKB.out _ hzm).1
                have HGRP := Lib.hid (fun w' (hb : Below wr.heap.size wr w') => signkey_any how (.slice a2 n2 c2) (.slice an nn cn) zl names w' (hslz.below hb (Nat.le_refl _)) ((HSN.out.below hbw (Nat.le_refl _)).below hb (Nat.le_refl _)) hgl hgok (HTB.out.below (hbw.trans (hb.mono hbw.size)) (Nat.le_refl _)))
                obtain ⟨hb0, hhb0⟩ : ∃ b, b = hasSg (sgP how names) ps (signL how names zl) := ⟨_, rfl⟩
                have hflag := has_flag (how := how) (names := names) (l := zl) HZA.out (fun z hzz => (HOKA.out z hzz).2) hgok
                rw [← hhb0] at hflag
                have HTK := Lib.hid (take_filter (addP op how names ps) qs j (zl, zf) hjp hpj)
                have HCV := Lib.hid (show (addP op how names ps) (zl, zf) = addB op hb0 by rw [hhb0]; rfl)
                obtain ⟨s, hs⟩ : ∃ s, s = keyL (signL how names zl) := ⟨_, rfl⟩
                have HKS := Lib.hid (show s.size ≤ maxLen by rw [hs]; exact key_max (hgok.sign how names) (by have := sign_len how names zl; omega))
                rw [← hs] at HGRP hflag
                have HFL := Lib.hid hflag
                have HSZ := Lib.hid (hslz0.below HBW.out (Nat.le_refl _))
                clear hd hzj hzm hslz hslz0 hbw hgok hgl hs hhb0 hflag hpj hjp
                go_wp2_with fail
                refine (HGRP.out _ ((Below.refl _ _).alloc (Nat.le_refl _) _)).mono ?_
                rintro e w5 ⟨rfl, hb4⟩
                have hb5 : Below wr.heap.size wr w5 := ((Below.refl wr.heap.size wr).alloc (Nat.le_refl _) (.cells #[.slice a2 n2 c2, .float .f64 zf] 50)).trans (hb4.mono (by simp))
                have r0 : w5.cell? ⟨wr.heap.size, 0, none⟩ = some (.slice a2 n2 c2) := cell_below hb4 (Nat.le_refl _) (by simp)
                have r1 : w5.cell? ⟨wr.heap.size, 1, none⟩ = some (.float .f64 zf) := cell_below hb4 (Nat.le_refl _) (by simp)
                have hbW5 := HB.out.trans (hb5.mono hBz)
                have hlk := (HGL.out.below hbW5 (Nat.le_refl _)).m.lookOk Tryz.underlying53 (zero_pts _) HKS.out
                rw [HFL.out] at hlk
                have HLK := Lib.hid hlk
                have HOV5 := Lib.hid (HO.out.kept hb5)
                obtain ⟨zs0, hz0s, hown0, hzok0⟩ := HO.out.kept hb5
                have hql : (ps.filter (keepP op how names qs) ++ (qs.take j).filter (addP op how names ps)).length ≤ 600 := by have h1 := filter_le (keepP op how names qs) ps ps.length 300 HPA3.out; rw [List.take_length] at h1; have h2 := filter_le (addP op how names ps) qs j 300 HPB3.out; rw [List.length_append]; omega
                have HZ0 := Lib.hid hz0s
                have HW0 := Lib.hid hown0
                have HK0 := Lib.hid hzok0
                have HBW5 := Lib.hid hbW5
                have hz5 : wr.heap.size < w5.heap.size := World.block_lt_of_cell? w5 _ r0
                have hzw : w4.heap.size ≤ w5.heap.size := hbW5.size
                obtain ⟨ql, hqll⟩ : ∃ n, n = (ps.filter (keepP op how names qs) ++ (qs.take j).filter (addP op how names ps)).length := ⟨_, rfl⟩
                rw [← hqll] at hql HW0 hown0
                have HQL := Lib.hid hqll
                clear hb4 hb5 hbW5 hlk hz0s hown0 hzok0 hqll HGRP
                rcases HOP.out with rfl | rfl | rfl | rfl
                · cases hb0 with
                  | true =>
                    have HT := Lib.hid HTK.out
                    rw [show (addP 11 how names ps) (zl, zf) = false from HCV.out] at HT
                    rw [if_neg (by decide), List.append_nil] at HT
                    go_wp2_with (first
                      | (at_lookup; refine wpList_lookup_of _ rfl _ _ _ true rfl _ _ _ rfl rfl HLK.out ?_))
                    go_roundw
                    case rel => exact ⟨j + 1, by omega, by go_num, by rw [HT.out]; exact HOV5.out, HBW5.out⟩
                    case measure => simp [intOf]; omega
                  | false =>
                    have HT := Lib.hid HTK.out
                    rw [show (addP 11 how names ps) (zl, zf) = false from HCV.out] at HT
                    rw [if_neg (by decide), List.append_nil] at HT
                    go_wp2_with (first
                      | (at_lookup; refine wpList_lookup_of _ rfl _ _ _ true rfl _ _ _ rfl rfl HLK.out ?_))
                    go_roundw
                    case rel => exact ⟨j + 1, by omega, by go_num, by rw [HT.out]; exact HOV5.out, HBW5.out⟩
                    case measure => simp [intOf]; omega
                · cases hb0 with
                  | true =>
                    have HT := Lib.hid HTK.out
                    rw [show (addP 12 how names ps) (zl, zf) = false from HCV.out] at HT
                    rw [if_neg (by decide), List.append_nil] at HT
                    go_wp2_with (first
                      | (at_lookup; refine wpList_lookup_of _ rfl _ _ _ true rfl _ _ _ rfl rfl HLK.out ?_))
                    go_roundw
                    case rel => exact ⟨j + 1, by omega, by go_num, by rw [HT.out]; exact HOV5.out, HBW5.out⟩
                    case measure => simp [intOf]; omega
                  | false =>
                    have HT := Lib.hid HTK.out
                    rw [show (addP 12 how names ps) (zl, zf) = true from HCV.out] at HT
                    rw [if_pos rfl] at HT
                    go_wp2_with (first
                      | (at_lookup; refine wpList_lookup_of _ rfl _ _ _ true rfl _ _ _ rfl rfl HLK.out ?_)
                      | (at_builtin
                         refine wpList_append_own_at _ rfl (.tmp 105) (.tmp 107) _ rfl w4.heap.size 50 i0 _ 2 32 Tryz.underlying27 hi hz0 hz1 hz2 rfl (by decide) u13 ql (zs0.flatMap zenc) rfl (World.ownsRow.alloc HW0.out _) ⟨w5.heap.size, 0, none⟩ 1 1 [.slice a2 n2 c2, .float .f64 zf] rfl rfl (World.news_of_block (heap_new w5 _)) (by intro u hu; simp at hu; rcases hu with rfl | rfl <;> rfl) (by unfold maxLen; omega) (by omega) (by simp; omega) ?_
                         intro v' w7 hown' hgrow hnil hat
                         have hbC : Below w5.heap.size w5 (w5.alloc (.cells #[.slice a2 n2 c2, .float .f64 zf] 50)) := (Below.refl _ _).alloc (Nat.le_refl _) _
                         have hov' : OV w7 w4.heap.size v' ((ps.filter (keepP 12 how names qs) ++ (qs.take j).filter (addP 12 how names ps)) ++ [(zl, zf)]) := OV.appended (v' := v') (w' := w7) (z := (.slice a2 n2 c2, zl, zf)) HZ0.out (fun z hz => (HK0.out z hz).below hbC (Nat.le_refl _))
                           (((ZOk.fresh (z := (.slice a2 n2 c2, zl, zf)) HSZ.out (fun q hq => (HW0.out.lt q hq).1)).below HBW5.out (Nat.le_refl _)).below hbC (Nat.le_refl _)) (by rw [← HQL.out]; exact hown') hgrow hat
                         have HOV7 := Lib.hid hov'
                         have HB7 := Lib.hid ((HBW5.out.trans (hbC.mono hzw)).grown hgrow (by simp; omega) (fun q hq => (HW0.out.lt q hq).1))
                         clear hown' hgrow hnil hat hov' hbC))
                    go_wp2_with fail
                    go_roundw
                    case rel => exact ⟨j + 1, by omega, by go_num, by rw [HT.out, ← List.append_assoc]; exact HOV7.out, HB7.out⟩
                    case measure => simp [intOf]; omega
                · cases hb0 with
                  | true =>
                    have HT := Lib.hid HTK.out
                    rw [show (addP 13 how names ps) (zl, zf) = false from HCV.out] at HT
                    rw [if_neg (by decide), List.append_nil] at HT
                    go_wp2_with (first
                      | (at_lookup; refine wpList_lookup_of _ rfl _ _ _ true rfl _ _ _ rfl rfl HLK.out ?_))
                    go_roundw
                    case rel => exact ⟨j + 1, by omega, by go_num, by rw [HT.out]; exact HOV5.out, HBW5.out⟩
                    case measure => simp [intOf]; omega
                  | false =>
                    have HT := Lib.hid HTK.out
                    rw [show (addP 13 how names ps) (zl, zf) = false from HCV.out] at HT
                    rw [if_neg (by decide), List.append_nil] at HT
                    go_wp2_with (first
                      | (at_lookup; refine wpList_lookup_of _ rfl _ _ _ true rfl _ _ _ rfl rfl HLK.out ?_))
                    go_roundw
                    case rel => exact ⟨j + 1, by omega, by go_num, by rw [HT.out]; exact HOV5.out, HBW5.out⟩
                    case measure => simp [intOf]; omega
                · cases hb0 with
                  | true =>
                    have HT := Lib.hid HTK.out
                    rw [show (addP 14 how names ps) (zl, zf) = false from HCV.out] at HT
                    rw [if_neg (by decide), List.append_nil] at HT
                    go_wp2_with (first
                      | (at_lookup; refine wpList_lookup_of _ rfl _ _ _ true rfl _ _ _ rfl rfl HLK.out ?_))
                    go_roundw
                    case rel => exact ⟨j + 1, by omega, by go_num, by rw [HT.out]; exact HOV5.out, HBW5.out⟩
                    case measure => simp [intOf]; omega
                  | false =>
                    have HT := Lib.hid HTK.out
                    rw [show (addP 14 how names ps) (zl, zf) = true from HCV.out] at HT
                    rw [if_pos rfl] at HT
                    go_wp2_with (first
                      | (at_lookup; refine wpList_lookup_of _ rfl _ _ _ true rfl _ _ _ rfl rfl HLK.out ?_)
                      | (at_builtin
                         refine wpList_append_own_at _ rfl (.tmp 105) (.tmp 107) _ rfl w4.heap.size 50 i0 _ 2 32 Tryz.underlying27 hi hz0 hz1 hz2 rfl (by decide) u13 ql (zs0.flatMap zenc) rfl (World.ownsRow.alloc HW0.out _) ⟨w5.heap.size, 0, none⟩ 1 1 [.slice a2 n2 c2, .float .f64 zf] rfl rfl (World.news_of_block (heap_new w5 _)) (by intro u hu; simp at hu; rcases hu with rfl | rfl <;> rfl) (by unfold maxLen; omega) (by omega) (by simp; omega) ?_
                         intro v' w7 hown' hgrow hnil hat
                         have hbC : Below w5.heap.size w5 (w5.alloc (.cells #[.slice a2 n2 c2, .float .f64 zf] 50)) := (Below.refl _ _).alloc (Nat.le_refl _) _
                         have hov' : OV w7 w4.heap.size v' ((ps.filter (keepP 14 how names qs) ++ (qs.take j).filter (addP 14 how names ps)) ++ [(zl, zf)]) := OV.appended (v' := v') (w' := w7) (z := (.slice a2 n2 c2, zl, zf)) HZ0.out (fun z hz => (HK0.out z hz).below hbC (Nat.le_refl _))
                           (((ZOk.fresh (z := (.slice a2 n2 c2, zl, zf)) HSZ.out (fun q hq => (HW0.out.lt q hq).1)).below HBW5.out (Nat.le_refl _)).below hbC (Nat.le_refl _)) (by rw [← HQL.out]; exact hown') hgrow hat
                         have HOV7 := Lib.hid hov'
                         have HB7 := Lib.hid ((HBW5.out.trans (hbC.mono hzw)).grown hgrow (by simp; omega) (fun q hq => (HW0.out.lt q hq).1))
                         clear hown' hgrow hnil hat hov' hbC))
                    go_wp2_with fail
                    go_roundw
                    case rel => exact ⟨j + 1, by omega, by go_num, by rw [HT.out, ← List.append_assoc]; exact HOV7.out, HB7.out⟩
                    case measure => simp [intOf]; omega
              · have hltz : ¬ (j : Int) < (NB : Int) := by omega
                obtain rfl : j = NB := by omega
                have hov := HO.out
                rw [List.take_of_length_le (by have := HLB.out; omega)] at hov
                have HNM := Lib.hid (normal_any _ _ wr hov.vs (by
                  have h1 := filter_le (keepP op how names qs) ps ps.length 300 HPA3.out; rw [List.take_length] at h1
                  have h2 := filter_le (addP op how names ps) qs qs.length 300 HPB3.out; rw [List.take_length] at h2
                  rw [List.length_append]; omega))
                obtain ⟨a8, c8, rfl, -, -⟩ := hov.slice
                obtain ⟨N8, hN8⟩ : ∃ n, n = (ps.filter (keepP op how names qs) ++ qs.filter (addP op how names ps)).length := ⟨_, rfl⟩
                rw [← hN8] at HNM ⊢
                clear hov HO hN8
                go_wp2_with fail
                refine HNM.out.mono ?_
                rintro e w5 ⟨hb5, hnr⟩
                obtain ⟨v5, n5, rfl⟩ := nr_tuple hnr
                have HNR := Lib.hid hnr
                have HB5 := Lib.hid (HBW.out.trans ((HB.out.trans (hb5.mono hBz)).mono HBW.out.size))
                clear hnr hb5 HNM
                go_wp2_with fail
                go_ret2
                exact ⟨HB5.out, .inr ⟨⟨h1', h2', HC0.out.symm⟩, HNR.out⟩⟩
      · have hck1 : ck = 1 := by
          rw [hck]; unfold chkL; rw [if_pos]
          rw [hck] at hc0; unfold chkL at hc0
          exact Classical.byContradiction fun hx => hc0 (if_neg hx)
        have HC0 := Lib.hid (show chkL how names ≠ 0 by rw [← hck]; exact hc0)
        subst hck1
        clear hc0 hck
        go_enter Tryz.func14, Tryz.ntmps14
        go_wp2_with fail
        rw [← HW1.out, ← HBG.out]
        refine (HCK.out _ HB1.out).mono ?_
        rintro e w2 ⟨rfl, hb2⟩
        have HB2 := Lib.hid (HB1.out.trans (hb2.mono HB1.out.size))
        clear hb2
        go_wp2_with fail
        go_ret2
        exact ⟨HB2.out, .inl ⟨.inr (.inr HC0.out), rfl⟩⟩
end Go.Proofs.YtogjcaakfnfapaaGreatDoor
namespace Go.Proofs.YtogjcaakfnfapaaGreatDoor
open Go Go.RowKit Go.Maps
set_option linter.unusedVariables false
set_option linter.unusedSimpArgs false
set_option maxRecDepth 100000
theorem row_shape {w : World} {base : Nat} {e : TypeId} {s n : Nat} {v : Value} {xs : List Value} (h : w.ownsRow base e s v n xs) : ∃ a c, v = .slice a n c ∧ n ≤ maxLen := by
  rcases h.2 with ⟨rfl, h0⟩ | ⟨k, cap, cur, rfl, -, -, h1, h2, -, -⟩
  · exact ⟨none, 0, by rw [h0], by rw [h0]; exact Nat.zero_le _⟩
  · exact ⟨_, _, rfl, by omega⟩
set_option maxHeartbeats 8000000 in
theorem twice_any (b base n : Nat) (f : ByteArray → List ZPt) (V : ByteArray → Value) (w : World) (h : GMap w base b n f V) :
    Calls Tryz.prog 22 #[.map (some b)] w fun e w' => ∃ t, e = .returned (.bool t) ∧ (t = true ↔ ∃ s, 2 ≤ (f s).length) ∧ Below w.heap.size w w' := by
  obtain ⟨D, hown, hhas, hat⟩ := h.m
  have HR := Lib.hid h.r
  have HH := Lib.hid hhas
  have HA := Lib.hid hat
  clear hhas hat h
  go_enter Tryz.func22, Tryz.ntmps22
  go_wp2_with (first
    | (at_range; refine wpList_range_own _ rfl _ 53 rfl 9 27 str_keyed Tryz.underlying53 holdV b n D rfl hown ?_; intro w0 hrg0 hg0 hs0)
    | go_in)
  try go_frame
  go_loopw [4] (fun _ wr => ∃ (left : Lit → Bool) (cnt : Nat), wr.ranges Tryz.prog 9 holdV b w.heap.size n D left cnt ∧ Hid (∀ s, Maps.has D (kl s) = true → left (kl s) = false → (f s).length ≤ 1) ∧ Hid (w.grownBy wr none))
    (fun _ wr => wr.rangeLeft b w.heap.size)
  case atStart => exact ⟨_, _, hrg0, (show ∀ s, Maps.has D (kl s) = true → Maps.has D (kl s) = false → (f s).length ≤ 1 from (fun s h1 h2 => by rw [h1] at h2; cases h2)), hg0⟩
  case round =>
    obtain ⟨left, cnt, hrg, HL, HG⟩ := hrel
    go_wp2_with (first
      | (at_next; refine wpList_next_ranges _ rfl _ rfl 9 str_keyed holdV Value.string (fun v : Value => v) (fun key kq h => by obtain ⟨s, e, -⟩ := Go.WideMaps.string_of_keyOf Tryz.underlying9 h; exact ⟨s, e⟩) (fun v y _ => ⟨v, rfl⟩) b w.heap.size n _ _ _ rfl hrg ?_ ?_)
      | go_in)
    · intro _ hl0
      have HL0 := Lib.hid hl0
      clear hl0
      go_wp2_with fail
      go_ret
      refine ⟨false, rfl, ⟨(fun h => by cases h), (fun ⟨s, hs⟩ => ?_)⟩, ⟨HG.out.os, HG.out.tape, HG.out.output, HG.out.size, fun i hi => HG.out.block i hi (by simp)⟩⟩
      have h1 : Maps.has D (kl s) = true := by
        rw [HH.out s]
        cases hf : f s with
        | nil => rw [hf] at hs; simp at hs
        | cons a r => rfl
      have := HL.out s h1 (HL0.out _)
      omega
    · intro x c kq y1 y2 w1 cnt1 hkey hlx hR hat hrg1 hlt hg1 hs1 hen
      have hgw1 := HG.out.andThen hg1 (fun j hj => by cases hj; exact Or.inl (Nat.le_refl _))
      obtain ⟨s, e1, e2, -⟩ := Go.WideMaps.string_of_keyOf Tryz.underlying9 hkey
      injection e1 with e1
      subst e1
      have e3 : kq = kl x := e2
      subst e3
      have e4 : c = V x := by
        have h1 := hat (.held (.slice none 0 0))
        rw [HA.out x] at h1
        unfold holdV at hR
        injection hR with hR
        injection hR with hR _
        rw [← hR] at h1
        injection h1 with h1
        exact h1.symm
      subst e4
      obtain ⟨a, cp, hv, hm⟩ := row_shape (HR.out x)
      rw [hv] at hen ⊢
      have HGW := Lib.hid hgw1
      have HRG := Lib.hid hrg
      obtain ⟨m, hm0⟩ : ∃ m, m = (f x).length := ⟨_, rfl⟩
      rw [← hm0] at hen hm ⊢
      have HM := Lib.hid hm0
      clear hkey hlx hR hat hg1 hgw1 hv hm0 e2 hown hrg
      by_cases h2 : 1 < m
      · have h3 : (1 : Int) < (m : Int) := by omega
        go_wp2_with fail
        go_ret
        refine ⟨true, rfl, ⟨fun _ => ⟨x, by rw [← HM.out]; omega⟩, fun _ => rfl⟩, ⟨HGW.out.os, HGW.out.tape, HGW.out.output, HGW.out.size, fun i hi => HGW.out.block i hi (by simp)⟩⟩
      · have h3 : (m : Int) ≤ 1 := by omega
        go_wp2_with fail
        go_roundw
        case rel =>
          refine ⟨_, cnt1, hrg1, fun s h4 h5 => ?_, HGW.out⟩
          by_cases h6 : left (kl s) = false
          · exact HL.out s h4 h6
          · have h7 : left (kl s) = true := by simpa using h6
            rw [h7] at h5
            have h8 : (kl s).sameKey (kl x) = true := by simpa using h5
            have := kl_inj (WideAt.sameKey_eq h8)
            subst this
            rw [← HM.out]; omega
        case measure => rw [hrg1.left_eq, HRG.out.left_eq]; exact hlt
end Go.Proofs.YtogjcaakfnfapaaGreatDoor
