/- LabelsSets: the walk. -/
import Derived.Test.YtdpigfcnphklgaaDoorLk1
import Derived.Test.YtdpigfcnphklgaaDoorLo1
namespace Go.Proofs.YtdpigfcnphklgaaDoor
open Go Go.RowKit
set_option linter.unusedVariables false
set_option linter.unusedSimpArgs false
set_option maxRecDepth 100000
theorem same_self (v1 v2 : Value) (xs : List Lb) (w : World) (h1 : Sl lenc w v1 xs) (h2 : Sl lenc w v2 xs) :
    Calls Tryd.prog 15 #[v1, v2] w fun e w' => e = .returned (.bool true) ∧ ∃ n, w' = w.drewN n := by
  refine (rsame_any v1 v2 xs xs w h1 h2).mono ?_
  rintro e w' ⟨rfl, h⟩
  exact ⟨by rw [(cmpL_eq xs xs).2 rfl]; rfl, h⟩
theorem sl_split2 {w : World} {v : Value} {xs : List Lb} (h : Sl lenc w v xs) : ∃ a cap, v = .slice a xs.length cap ∧ (xs.length ≤ cap ∧ cap ≤ 9223372036854775807) := by
  obtain ⟨a, cap, e, h1, -, -⟩ := h.split lenc_len
  exact ⟨a, cap, e, h1⟩
set_option maxHeartbeats 8000000 in
theorem labelsSets_walk (v : Value) (l : List Lb) (w : World) (ht : Tab w) (h : Sl lenc w v l) :
    Calls Tryd.prog 3 #[v] w fun e w' => e = .returned (.bool true) ∧ Below w.heap.size w w' := by
  have HT := Lib.hid ht
  have HSL := Lib.hid h
  clear ht h
  go_enter Tryd.func3, Tryd.ntmps3
  go_wp2_with fail
  refine (known_any _ HT.out).mono ?_
  rintro e w1 ⟨rfl, hb1⟩
  have HB1 := Lib.hid hb1
  have HS1 := Lib.hid (HSL.out.below hb1 (Nat.le_refl _))
  clear hb1
  have HFW := Lib.hid (few_any v l w1 HS1.out)
  go_wp2_with fail
  refine HFW.out.mono ?_
  rintro e w1' ⟨rfl, rfl⟩
  by_cases hf : fewL l = true
  · rw [hf]
    have hl80 := few_len hf
    clear hf
    have HCS := Lib.hid (cset_any v l w1' HS1.out (by omega))
    go_wp2_with fail
    refine HCS.out.mono ?_
    rintro e w2 ⟨hb2, hr2⟩
    have HB2 := Lib.hid (HB1.out.trans (hb2.mono HB1.out.size))
    have HS2 := Lib.hid (HS1.out.below hb2 (Nat.le_refl _))
    clear hb2
    have HRS := Lib.hid (rset_any v l w2 HS2.out (by omega))
    rcases hr2 with ⟨ho, hk, v1, rfl, hs1⟩ | ⟨hno, rfl⟩
    · have HA1 := Lib.hid hs1
      have HO := Lib.hid (And.intro ho hk)
      clear hs1 ho hk
      go_wp2_with fail
      refine HRS.out.mono ?_
      rintro e w3 ⟨hb3, hr3⟩
      have HB3 := Lib.hid (HB2.out.trans (hb3.mono HB2.out.size))
      have HS3 := Lib.hid (HS2.out.below hb3 (Nat.le_refl _))
      have HA3 := Lib.hid (HA1.out.below hb3 (Nat.le_refl _))
      clear hb3 HRS HCS
      rcases hr3 with ⟨-, -, v2, rfl, hs2⟩ | ⟨hno, -⟩
      · have HV2 := Lib.hid hs2
        clear hs2
        have HRM := Lib.hid (right_of_set HO.out)
        obtain ⟨m, hm⟩ : ∃ m, m = insL (keepL l) := ⟨_, rfl⟩
        rw [← hm] at HA1 HA3 HV2 HRM
        clear hm
        have HSM := Lib.hid (same_self v1 v2 m w3 HA3.out HV2.out)
        go_wp2_with fail
        refine HSM.out.mono ?_
        rintro e w4 ⟨rfl, n4, rfl⟩
        have HB4 := Lib.hid (below_drewN HB3.out n4)
        have HRB : ∃ rb : Bool, Hid (∀ w : World, Sl lenc w v l → Calls Tryd.prog 16 #[v] w fun e w' => e = .returned (.bool rb) ∧ Grew w w') ∧ Hid (∀ w : World, Sl lenc w v l → Calls Tryd.prog 17 #[v] w fun e w' => e = .returned (.bool rb) ∧ ∃ n, w' = w.drewN n) := ⟨rightL l, fun w h => right_any v l w h, fun w h => rright_any v l w h⟩
        obtain ⟨rb, HR1, HR2⟩ := HRB
        have HS4 := Lib.hid (HS3.out.drewN n4)
        have HA4 := Lib.hid (HA3.out.drewN n4)
        rcases rb with _ | _
        all_goals
          go_wp2_with fail
          refine (HR1.out _ HS4.out).mono ?_
          rintro e w5 ⟨rfl, hg5⟩
          have HB5 := Lib.hid (HB4.out.trans (hg5.below.mono HB4.out.size))
          have HS5 := Lib.hid (HS4.out.below hg5.below (Nat.le_refl _))
          have HA5 := Lib.hid (HA4.out.below hg5.below (Nat.le_refl _))
          clear hg5
          go_wp2_with fail
          refine (HR2.out _ HS5.out).mono ?_
          rintro e w6 ⟨rfl, n6, rfl⟩
          have HS6 := Lib.hid (HS5.out.drewN n6)
          have HA6 := Lib.hid (HA5.out.drewN n6)
          have HB6 := Lib.hid (below_drewN HB5.out n6)
          generalize w5.drewN n6 = w6 at HS6 HA6 HB6 ⊢
          obtain ⟨a, cap, rfl, hlen⟩ := sl_split2 HSL.out
          go_wp2_with fail
          go_loopw [7] (fun i wr => ∃ k : Nat, k ≤ l.length ∧ i = .int .i64 k ∧ ∃ n, wr = w6.drewN n) (fun i _ => l.length - (intOf i).toNat)
          case atStart => exact ⟨0, Nat.zero_le _, rfl, 0, rfl⟩
          case round =>
            obtain ⟨k, hk, rfl, n, rfl⟩ := hrel
            have h00 : (0 : Int) ≤ (k : Int) := by omega
            by_cases hlt : k < l.length
            · have hltz : (k : Int) < (l.length : Int) := by omega
              obtain ⟨a', cap', e', -, -, hc⟩ := HS6.out.split lenc_len
              obtain ⟨b, off, hab, hk0, hk1⟩ := lab_cells (k := k) hc (Below.refl _ _) (Nat.le_refl _) hlt
              injection e' with e1 e2 e3
              subst e1 hab
              clear e2 e3 hc
              have HNB : ∃ nb : Bool, Hid (∀ w : World, Calls Tryd.prog 18 #[.string (lx l k).1] w fun e w' => e = .returned (.bool nb) ∧ w = w') ∧ Hid (∀ w : World, Calls Tryd.prog 19 #[.string (lx l k).1] w fun e w' => e = .returned (.bool nb) ∧ w = w') := ⟨nameB (lx l k).1, fun w => name_qs _ w, fun w => rname_qs _ w⟩
              obtain ⟨nb, HN1, HN2⟩ := HNB
              rcases nb with _ | _
              all_goals
                go_wp2_with fail
                go_quiet ((first | (go_at_call 18; first | refine qs (HN1.out _) | refine quiet_same (HN1.out _)) | (go_at_call 19; first | refine qs (HN2.out _) | refine quiet_same (HN2.out _))))
                go_wp2_with fail
                go_roundw
                case rel => exact ⟨k + 1, by omega, by go_num, _, by first | rfl | (simp only [World.drewN_drewN])⟩
                case measure => simp [intOf]; omega
            · have hltz : ¬ (k : Int) < (l.length : Int) := by omega
              have HA7 := Lib.hid (HA6.out.drewN n)
              have HB7 := Lib.hid (below_drewN HB6.out n)
              have HC2 := Lib.hid (cset_any v1 m _ HA7.out (by have := ((right_iff m).1 HRM.out).2.2; omega))
              go_wp2_with fail
              refine HC2.out.mono ?_
              rintro e w8 ⟨hb8, hr8⟩
              have HB8 := Lib.hid (HB7.out.trans (hb8.mono HB7.out.size))
              have HA8 := Lib.hid (HA7.out.below hb8 (Nat.le_refl _))
              clear hb8
              rcases hr8 with ⟨-, -, v9, rfl, hs9⟩ | ⟨hno, -⟩
              · have HV9 := Lib.hid (show Sl lenc w8 v9 m by
                  obtain ⟨_, _, h3, h4⟩ := okP_right HRM.out
                  rw [h3, h4] at hs9
                  exact hs9)
                clear hs9
                have HRR := Lib.hid (right_any v1 m w8 HA8.out)
                go_wp2_with fail
                refine HRR.out.mono ?_
                rw [HRM.out]
                rintro e w9 ⟨rfl, hg9⟩
                have HB9 := Lib.hid (HB8.out.trans (hg9.below.mono HB8.out.size))
                have HSS := Lib.hid (same_self v1 v9 m w9 (HA8.out.below hg9.below (Nat.le_refl _)) (HV9.out.below hg9.below (Nat.le_refl _)))
                clear hg9
                go_wp2_with fail
                refine HSS.out.mono ?_
                rintro e w10 ⟨rfl, n10, rfl⟩
                go_wp2_with fail
                go_ret
                exact ⟨rfl, below_drewN HB9.out _⟩
              · exact absurd ⟨(okP_right HRM.out).1, (okP_right HRM.out).2.1⟩ hno
      · exact absurd HO.out hno
    · have HNO := Lib.hid hno
      clear hno HCS
      go_wp2_with fail
      refine HRS.out.mono ?_
      rintro e w3 ⟨hb3, hr3⟩
      have HB3 := Lib.hid (HB2.out.trans (hb3.mono HB2.out.size))
      have HS3 := Lib.hid (HS2.out.below hb3 (Nat.le_refl _))
      clear hb3 HRS
      rcases hr3 with ⟨ho, hk, -⟩ | ⟨-, rfl⟩
      · exact absurd ⟨ho, hk⟩ HNO.out
      · obtain ⟨v1, hv1⟩ : ∃ v1 : Value, v1 = .slice none 0 0 := ⟨_, rfl⟩
        have HA3 := Lib.hid (show Sl lenc w3 v1 [] by rw [hv1]; exact Sl.nil _)
        clear hv1
        have HSM := Lib.hid (same_self (.slice none 0 0) (.slice none 0 0) [] w3 (Sl.nil _) (Sl.nil _))
        go_wp2_with fail
        refine HSM.out.mono ?_
        rintro e w4 ⟨rfl, n4, rfl⟩
        have HB4 := Lib.hid (below_drewN HB3.out n4)
        have HRB : ∃ rb : Bool, Hid (∀ w : World, Sl lenc w v l → Calls Tryd.prog 16 #[v] w fun e w' => e = .returned (.bool rb) ∧ Grew w w') ∧ Hid (∀ w : World, Sl lenc w v l → Calls Tryd.prog 17 #[v] w fun e w' => e = .returned (.bool rb) ∧ ∃ n, w' = w.drewN n) := ⟨rightL l, fun w h => right_any v l w h, fun w h => rright_any v l w h⟩
        obtain ⟨rb, HR1, HR2⟩ := HRB
        have HS4 := Lib.hid (HS3.out.drewN n4)
        have HA4 := Lib.hid (HA3.out.drewN n4)
        rcases rb with _ | _
        all_goals
          go_wp2_with fail
          refine (HR1.out _ HS4.out).mono ?_
          rintro e w5 ⟨rfl, hg5⟩
          have HB5 := Lib.hid (HB4.out.trans (hg5.below.mono HB4.out.size))
          have HS5 := Lib.hid (HS4.out.below hg5.below (Nat.le_refl _))
          have HA5 := Lib.hid (HA4.out.below hg5.below (Nat.le_refl _))
          clear hg5
          go_wp2_with fail
          refine (HR2.out _ HS5.out).mono ?_
          rintro e w6 ⟨rfl, n6, rfl⟩
          have HS6 := Lib.hid (HS5.out.drewN n6)
          have HA6 := Lib.hid (HA5.out.drewN n6)
          have HB6 := Lib.hid (below_drewN HB5.out n6)
          generalize w5.drewN n6 = w6 at HS6 HA6 HB6 ⊢
          obtain ⟨a, cap, rfl, hlen⟩ := sl_split2 HSL.out
          go_wp2_with fail
          go_loopw [7] (fun i wr => ∃ k : Nat, k ≤ l.length ∧ i = .int .i64 k ∧ ∃ n, wr = w6.drewN n) (fun i _ => l.length - (intOf i).toNat)
          case atStart => exact ⟨0, Nat.zero_le _, rfl, 0, rfl⟩
          case round =>
            obtain ⟨k, hk, rfl, n, rfl⟩ := hrel
            have h00 : (0 : Int) ≤ (k : Int) := by omega
            by_cases hlt : k < l.length
            · have hltz : (k : Int) < (l.length : Int) := by omega
              obtain ⟨a', cap', e', -, -, hc⟩ := HS6.out.split lenc_len
              obtain ⟨b, off, hab, hk0, hk1⟩ := lab_cells (k := k) hc (Below.refl _ _) (Nat.le_refl _) hlt
              injection e' with e1 e2 e3
              subst e1 hab
              clear e2 e3 hc
              have HNB : ∃ nb : Bool, Hid (∀ w : World, Calls Tryd.prog 18 #[.string (lx l k).1] w fun e w' => e = .returned (.bool nb) ∧ w = w') ∧ Hid (∀ w : World, Calls Tryd.prog 19 #[.string (lx l k).1] w fun e w' => e = .returned (.bool nb) ∧ w = w') := ⟨nameB (lx l k).1, fun w => name_qs _ w, fun w => rname_qs _ w⟩
              obtain ⟨nb, HN1, HN2⟩ := HNB
              rcases nb with _ | _
              all_goals
                go_wp2_with fail
                go_quiet ((first | (go_at_call 18; first | refine qs (HN1.out _) | refine quiet_same (HN1.out _)) | (go_at_call 19; first | refine qs (HN2.out _) | refine quiet_same (HN2.out _))))
                go_wp2_with fail
                go_roundw
                case rel => exact ⟨k + 1, by omega, by go_num, _, by first | rfl | (simp only [World.drewN_drewN])⟩
                case measure => simp [intOf]; omega
            · have hltz : ¬ (k : Int) < (l.length : Int) := by omega
              go_wp2_with fail
              go_ret
              exact ⟨rfl, below_drewN HB6.out n⟩
  · have hf2 : fewL l = false := by simpa using hf
    rw [hf2]
    clear hf
    go_wp2_with fail
    go_ret
    exact ⟨rfl, HB1.out⟩
end Go.Proofs.YtdpigfcnphklgaaDoor
