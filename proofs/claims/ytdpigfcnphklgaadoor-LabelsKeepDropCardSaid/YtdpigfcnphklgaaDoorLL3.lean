/- LabelsKeepDrop: the walk. -/
import Derived.Test.YtdpigfcnphklgaaDoorLL2
import Derived.Test.YtdpigfcnphklgaaDoorLp2
namespace Go.Proofs.YtdpigfcnphklgaaDoor
open Go Go.RowKit
set_option linter.unusedVariables false
set_option linter.unusedSimpArgs false
set_option maxRecDepth 100000
set_option maxHeartbeats 16000000 in
theorem labelsKeepDrop_walk (v0 : Value) (l : List Lb) (v1 : Value) (ns : List ByteArray) (name value : ByteArray) (w : World) (ht : Tab w) (h0 : Sl lenc w v0 l) (h1 : Sl senc1 w v1 ns) (hs3 : name.size ≤ 9223372036854775807) (hs4 : value.size ≤ 9223372036854775807) :
    Calls Tryd.prog 5 #[v0, v1, .string name, .string value] w fun e w' => e = .returned (.bool true) ∧ Below w.heap.size w w' := by
  obtain ⟨i0, hi, hz0, hz1, hz2⟩ := info_parts Tryd.infoLb
  have HL := Lib.hid h0
  have HN := Lib.hid h1
  have HK := Lib.hid (known_any _ ht)
  clear ht h0 h1
  go_enter Tryd.func5, Tryd.ntmps5
  go_wp2_with fail
  refine HK.out.mono ?_
  rintro e w1 ⟨rfl, hb1⟩
  have HB1 := Lib.hid hb1
  have HL1 := Lib.hid (HL.out.below hb1 (Nat.le_refl _))
  have HN1 := Lib.hid (HN.out.below hb1 (Nat.le_refl _))
  clear hb1 HL HN HK
  have HFW := Lib.hid (few_any v0 l w1 HL1.out)
  go_wp2_with fail
  refine HFW.out.mono ?_
  rintro e w1' ⟨rfl, rfl⟩
  by_cases hf : fewL l = true
  · rw [hf]
    have hl80 := few_len hf
    clear hf
    have HRW := Lib.hid (rright_any v0 l w1' HL1.out)
    go_wp2_with fail
    refine HRW.out.mono ?_
    by_cases hr : rightL l = true
    · rw [hr]
      rintro e w2 ⟨rfl, n2, rfl⟩
      have HR := Lib.hid hr
      clear hr
      have HB2 := Lib.hid (below_drewN HB1.out n2)
      have HL2 := Lib.hid (HL1.out.drewN n2)
      have HN2 := Lib.hid (HN1.out.drewN n2)
      clear HB1 HL1 HN1 HFW HRW
      generalize w1'.drewN n2 = w2 at HB2 HL2 HN2 ⊢
      have HNA := Lib.hid (names_any v1 ns w2 HN2.out)
      go_wp2_with fail
      refine HNA.out.mono ?_
      rintro e w3 ⟨hnn, rfl⟩
      rcases hnn with rfl | ⟨rfl, hns⟩
      · go_wp2_with fail
        go_ret
        exact ⟨rfl, HB2.out⟩
      · by_cases hnz : 400 < name.size
        · have hnz1 : (400 : Int) < (name.size : Int) := by omega
          have hnzb : decide ((400 : Int) < (name.size : Int)) = true := decide_eq_true hnz1
          go_wp2_with fail
          go_ret
          exact ⟨rfl, HB2.out⟩
        · have hnz1 : ¬ (400 : Int) < (name.size : Int) := by omega
          have hnzb : decide ((400 : Int) < (name.size : Int)) = false := decide_eq_false hnz1
          by_cases hvz : 2000 < value.size
          · have hvz1 : (2000 : Int) < (value.size : Int) := by omega
            have hvzb : decide ((2000 : Int) < (value.size : Int)) = true := decide_eq_true hvz1
            go_wp2_with fail
            go_ret
            exact ⟨rfl, HB2.out⟩
          · have hvz1 : ¬ (2000 : Int) < (value.size : Int) := by omega
            have hvzb : decide ((2000 : Int) < (value.size : Int)) = false := decide_eq_false hvz1
            have HKE := Lib.hid (keep_any v0 v1 l ns w3 HL2.out HN2.out (by omega))
            go_wp2_with fail
            refine HKE.out.mono ?_
            rintro e w4 ⟨vk, rfl, hsk, hb4⟩
            have HB4 := Lib.hid (HB2.out.trans (hb4.mono HB2.out.size))
            have HL4 := Lib.hid (HL2.out.below hb4 (Nat.le_refl _))
            have HN4 := Lib.hid (HN2.out.below hb4 (Nat.le_refl _))
            have HK4 := Lib.hid hsk
            clear hb4 hsk HKE HNA HB2 HL2 HN2
            have HDE := Lib.hid (drop_any v0 v1 l ns w4 HL4.out HN4.out (by omega))
            go_wp2_with fail
            refine HDE.out.mono ?_
            rintro e w5 ⟨vd, rfl, hsd, hb5⟩
            have HB5 := Lib.hid (HB4.out.trans (hb5.mono HB4.out.size))
            have HL5 := Lib.hid (HL4.out.below hb5 (Nat.le_refl _))
            have HK5 := Lib.hid (HK4.out.below hb5 (Nat.le_refl _))
            have HD5 := Lib.hid hsd
            clear hb5 hsd HDE HB4 HL4 HN4 HK4
            have hkl := pick_len ns true l
            have hdl := pick_len ns false l
            have hsp := set_parts ns HR.out
            have HSP := Lib.hid hsp
            have hRK := right_pick ns true HR.out
            have hRD := right_pick ns false HR.out
            have HRK := Lib.hid hRK
            have HRD := Lib.hid hRD
            clear hsp hRK hRD
            generalize pickL ns true l = K at HK5 hkl HSP HRK
            generalize pickL ns false l = D at HD5 hdl HSP HRD
            obtain ⟨ka, kc, hvk, klen, -⟩ := HK5.out.split lenc_len
            obtain ⟨da, dc, hvd, dlen, -⟩ := HD5.out.split lenc_len
            obtain ⟨-, nk, sk⟩ := (show Sl lenc w5 (.slice ka K.length kc) K by rw [← hvk]; exact HK5.out).src lenc_pos
            obtain ⟨-, nd, sd⟩ := (show Sl lenc w5 (.slice da D.length dc) D by rw [← hvd]; exact HD5.out).src lenc_pos
            have HVK := Lib.hid hvk
            have HVD := Lib.hid hvd
            clear hvk hvd
            have NK := Lib.hid nk
            have ND := Lib.hid nd
            have SK := Lib.hid sk
            have SD := Lib.hid sd
            clear nk nd sk sd
            go_wp2_with (at_builtin; refine wpList_append_rd rfl (.tmp 47) (.tmp 48) _ rfl w5.heap.size 33 i0 (.agg #[.string ⟨#[]⟩, .string ⟨#[]⟩]) 2 32 Tryd.underlying22 hi hz0 hz1 hz2 rfl (by decide) _ 0 [] rfl (owns_lit (heap_new _ _) (Nat.le_refl _)) ka K.length kc (K.flatMap lenc) HVK.out NK.out (flat_length lenc_len K) (fun ad e j u hu => cell_below ((Below.refl w5.heap.size w5).alloc (Nat.le_refl _) _) (Nat.le_refl _) (SK.out ad e j u hu)) (oneCell_flat _) (by unfold maxLen; omega) (by omega) (by simp) ?_)
            intro va w6 hown6 hg6
            have hb6 : Below w5.heap.size w5 w6 := ((Below.refl w5.heap.size w5).alloc (Nat.le_refl _) _).grown hg6 (by simp) (fun j hj => by simp [Value.ownBlock] at hj; omega)
            have HB6 := Lib.hid hb6
            have hz6 := hb6.size
            have HO6 := Lib.hid hown6
            clear hg6 hb6
            go_wp2_with (at_builtin; refine wpList_append_rd rfl (.tmp 49) (.tmp 50) _ rfl w5.heap.size 33 i0 (.agg #[.string ⟨#[]⟩, .string ⟨#[]⟩]) 2 32 Tryd.underlying22 hi hz0 hz1 hz2 rfl (by decide) va K.length (K.flatMap lenc) rfl hown6 da D.length dc (D.flatMap lenc) HVD.out ND.out (flat_length lenc_len D) (fun ad e j u hu => cell_below HB6.out (Nat.le_refl _) (SD.out ad e j u hu)) (oneCell_flat _) (by unfold maxLen; omega) (by omega) hz6 ?_)
            intro vb w7 hown7 hg7
            have hb7 : Below w5.heap.size w5 w7 := HB6.out.grown hg7 hz6 (fun j hj => (HO6.out.lt j hj).1)
            have hs7 : Sl lenc w7 vb (K ++ D) := Sl.own lenc_len (by decide) (e := 33) (n := K.length + D.length) (base := w5.heap.size) (by rw [List.flatMap_append]; exact hown7)
            have HB7 := Lib.hid (HB5.out.trans (hb7.mono HB5.out.size))
            have HL7 := Lib.hid (HL5.out.below hb7 (Nat.le_refl _))
            have HK7 := Lib.hid (HK5.out.below hb7 (Nat.le_refl _))
            have HD7 := Lib.hid (HD5.out.below hb7 (Nat.le_refl _))
            have HSE := Lib.hid (cset_any vb (K ++ D) w7 hs7 (by rw [List.length_append]; omega))
            clear hown6 hown7 hg7 hb7 hs7 HB5 HL5 HK5 HD5 HO6 HB6 NK ND SK SD
            go_wp2_with fail
            refine HSE.out.mono ?_
            rintro e w8 ⟨hb8, hr8⟩
            have HB8 := Lib.hid (HB7.out.trans (hb8.mono HB7.out.size))
            have HL8 := Lib.hid (HL7.out.below hb8 (Nat.le_refl _))
            have HK8 := Lib.hid (HK7.out.below hb8 (Nat.le_refl _))
            have HD8 := Lib.hid (HD7.out.below hb8 (Nat.le_refl _))
            clear hb8 HB7 HL7 HK7 HD7
            rcases hr8 with ⟨-, -, vs, rfl, hss⟩ | ⟨hno, -⟩
            · have HV8 := Lib.hid (show Sl lenc w8 vs l by rw [HSP.out.2.2] at hss; exact hss)
              clear hss HSE
              have HSM := Lib.hid (same_below vs v0 l w8 HV8.out HL8.out)
              go_wp2_with fail
              refine HSM.out.mono ?_
              rintro e w9 ⟨rfl, hb9⟩
              have HB9 := Lib.hid (HB8.out.trans (hb9.mono HB8.out.size))
              have HL9 := Lib.hid (HL8.out.below hb9 (Nat.le_refl _))
              have HK9 := Lib.hid (HK8.out.below hb9 (Nat.le_refl _))
              have HD9 := Lib.hid (HD8.out.below hb9 (Nat.le_refl _))
              clear hb9 HB8 HL8 HK8 HD8 HV8 HSM
              have HR1 := Lib.hid (right_any _ K w9 HK9.out)
              go_wp2_with fail
              refine HR1.out.mono ?_
              rw [HRK.out]
              rintro e w10 ⟨rfl, hg10⟩
              have HB10 := Lib.hid (HB9.out.trans (hg10.below.mono HB9.out.size))
              have HL10 := Lib.hid (HL9.out.below hg10.below (Nat.le_refl _))
              have HD10 := Lib.hid (HD9.out.below hg10.below (Nat.le_refl _))
              clear hg10 HB9 HL9 HK9 HD9 HR1
              have HR2 := Lib.hid (right_any _ D w10 HD10.out)
              go_wp2_with fail
              refine HR2.out.mono ?_
              rw [HRD.out]
              rintro e w11 ⟨rfl, hg11⟩
              have HB11 := Lib.hid (HB10.out.trans (hg11.below.mono HB10.out.size))
              have HL11 := Lib.hid (HL10.out.below hg11.below (Nat.le_refl _))
              clear hg11 HB10 HL10 HD10 HR2
              have HW1 := Lib.hid (with_any v0 l name value w11 HL11.out (by omega))
              go_wp2_with fail
              refine HW1.out.mono ?_
              rintro e w12 ⟨vw, rfl, hsw, hb12⟩
              have HB12 := Lib.hid (HB11.out.trans (hb12.mono HB11.out.size))
              have HL12 := Lib.hid (HL11.out.below hb12 (Nat.le_refl _))
              have HV12 := Lib.hid hsw
              clear hb12 hsw HW1 HB11 HL11
              have HRW := Lib.hid (with_right l name value HR.out)
              have HR3 := Lib.hid (right_any vw _ w12 HV12.out)
              go_wp2_with fail
              refine HR3.out.mono ?_
              rw [HRW.out]
              rintro e w13 ⟨rfl, hg13⟩
              have HB13 := Lib.hid (HB12.out.trans (hg13.below.mono HB12.out.size))
              have HL13 := Lib.hid (HL12.out.below hg13.below (Nat.le_refl _))
              have HV13 := Lib.hid (HV12.out.below hg13.below (Nat.le_refl _))
              clear hg13 HB12 HL12 HV12 HR3
              have HW2 := Lib.hid (with_any v0 l name value w13 HL13.out (by omega))
              go_wp2_with fail
              refine HW2.out.mono ?_
              rintro e w14 ⟨vx, rfl, hsx, hb14⟩
              have HB14 := Lib.hid (HB13.out.trans (hb14.mono HB13.out.size))
              have HL14 := Lib.hid (HL13.out.below hb14 (Nat.le_refl _))
              have HV14 := Lib.hid (HV13.out.below hb14 (Nat.le_refl _))
              have HX14 := Lib.hid hsx
              clear hb14 hsx HW2 HB13 HL13 HV13
              have HW3 := Lib.hid (with_any vx _ name ⟨#[]⟩ w14 HX14.out (by have := ((right_iff _).1 HRW.out).2.2; omega))
              go_wp2_with fail
              refine HW3.out.mono ?_
              rintro e w15 ⟨vy, rfl, hsy, hb15⟩
              have HB15 := Lib.hid (HB14.out.trans (hb15.mono HB14.out.size))
              have HL15 := Lib.hid (HL14.out.below hb15 (Nat.le_refl _))
              have HV15 := Lib.hid (HV14.out.below hb15 (Nat.le_refl _))
              have HY15 := Lib.hid hsy
              clear hb15 hsy HW3 HB14 HL14 HV14 HX14
              by_cases hv : 0 < value.size
              · have hv1 : value.toList.isEmpty = false := by have := not_empty_of hv; simpa using this
                have hv2 : ¬ value.toList = [] := not_empty_of hv
                obtain ⟨a, cap, rfl, hlen⟩ := sl_split2 HL15.out
                by_cases hl32 : 32 ≤ l.length
                · have hlz : (32 : Int) ≤ (l.length : Int) := by omega
                  have hlb : decide ((32 : Int) ≤ (l.length : Int)) = true := decide_eq_true hlz
                  go_wp2_with fail
                  go_ret
                  exact ⟨rfl, HB15.out⟩
                · have hlz : ¬ (32 : Int) ≤ (l.length : Int) := by omega
                  have hlb : decide ((32 : Int) ≤ (l.length : Int)) = false := decide_eq_false hlz
                  go_wp2_with fail
                  refine (name_any _ _).mono ?_
                  rintro e w16 ⟨rfl, rfl⟩
                  by_cases hn : nameB name = true
                  · rw [hn]
                    by_cases hv256 : 256 < value.size
                    · have hvz3 : (256 : Int) < (value.size : Int) := by omega
                      have hvb3 : decide ((256 : Int) < (value.size : Int)) = true := decide_eq_true hvz3
                      go_wp2_with fail
                      go_ret
                      exact ⟨rfl, HB15.out⟩
                    · have hvz3 : ¬ (256 : Int) < (value.size : Int) := by omega
                      have hvb3 : decide ((256 : Int) < (value.size : Int)) = false := decide_eq_false hvz3
                      have HWB := Lib.hid (with_back HR.out (by omega) hn hv (by omega))
                      have HGT := Lib.hid (get_any vw _ name w16 HV15.out)
                      have hvv : (value.toList == value.toList) = true := by simp
                      clear hv hn
                      go_wp2_with fail
                      refine HGT.out.mono ?_
                      rw [HWB.out.1]
                      rintro e w17 ⟨rfl, hb17⟩
                      have HB17 := Lib.hid (HB15.out.trans (hb17.mono HB15.out.size))
                      have HL17 := Lib.hid (HL15.out.below hb17 (Nat.le_refl _))
                      have HY17 := Lib.hid (HY15.out.below hb17 (Nat.le_refl _))
                      have hb18 : Below w17.heap.size w17 (w17.alloc (.cells #[.string name] 9)) := (Below.refl _ _).alloc (Nat.le_refl _) _
                      have HDR := Lib.hid (drop_any _ (.slice (some ⟨w17.heap.size, 0, none⟩) 1 1) l [name] (w17.alloc (.cells #[.string name] 9)) (HL17.out.below hb18 (Nat.le_refl _)) (sl_one w17 name) (by omega))
                      have HB18 := Lib.hid (HB17.out.trans (hb18.mono HB17.out.size))
                      have HY18 := Lib.hid (HY17.out.below hb18 (Nat.le_refl _))
                      clear hb17 hb18 HGT
                      go_wp2_with fail
                      refine HDR.out.mono ?_
                      rintro e w19 ⟨vz, rfl, hsz, hb19⟩
                      have HB19 := Lib.hid (HB18.out.trans (hb19.mono HB18.out.size))
                      have HSM := Lib.hid (same_below vy vz (pickL [name] false l) w19 (by rw [← HWB.out.2]; exact HY18.out.below hb19 (Nat.le_refl _)) hsz)
                      clear hsz hb19
                      go_wp2_with fail
                      refine HSM.out.mono ?_
                      rintro e w20 ⟨rfl, hb20⟩
                      have HB20 := Lib.hid (HB19.out.trans (hb20.mono HB19.out.size))
                      clear hb20
                      go_wp2_with fail
                      go_ret
                      exact ⟨rfl, HB20.out⟩
                  · have hn2 : nameB name = false := by simpa using hn
                    rw [hn2]
                    clear hn hn2
                    go_wp2_with fail
                    go_ret
                    exact ⟨rfl, HB15.out⟩
              · have hv1 : value.toList.isEmpty = true := by have := empty_of (s := value) (by omega); simpa using this
                have hv2 : value.toList = [] := empty_of (by omega)
                go_wp2_with fail
                go_ret
                exact ⟨rfl, HB15.out⟩
            · exact absurd ⟨HSP.out.1, HSP.out.2.1⟩ hno
    · have hr2 : rightL l = false := by simpa using hr
      rw [hr2]
      rintro e w2 ⟨rfl, n2, rfl⟩
      go_wp2_with fail
      go_ret
      exact ⟨rfl, below_drewN HB1.out _⟩
  · have hf2 : fewL l = false := by simpa using hf
    rw [hf2]
    go_wp2_with fail
    go_ret
    exact ⟨rfl, HB1.out⟩
end Go.Proofs.YtdpigfcnphklgaaDoor
