/- The reference's Duration: the walk. -/
import Derived.Test.YtkflhfdpdgnbfaaDoorSt2
import Derived.Test.YtkflhfdpdgnbfaaDoorSt9
namespace Go.Proofs.YtkflhfdpdgnbfaaDoor
open Go Go.RowKit
set_option linter.unusedVariables false
set_option linter.unusedSimpArgs false
set_option maxRecDepth 100000

def DV (s : ByteArray) (R : Int × Int) (i : Nat) (out li : Int) : Prop :=
  (i = s.size ∧ fin out = R) ∨ (i < s.size ∧ ∃ k, s.size - i < k ∧ durL k (s.data.toList.drop i) out li = R)
def RO (s : ByteArray) (R : Int × Int) (sv lv bv av : Value) : Prop := ∃ (i : Nat) (sm lr out li : Int) (bg : Bool), sv = .int .i64 sm ∧ lv = .int .i64 lr ∧ bv = .bool bg ∧ av = .int .i64 i ∧ i ≤ s.size ∧ SI sm out bg ∧ LR lr li ∧ DV s R i out li
def RI (s : ByteArray) (R : Int × Int) (i0 k : Nat) (out li : Int) (b0 : Bool) (bv av nv cv : Value) : Prop := ∃ (i : Nat) (nr ni cnt : Int) (bn : Bool), bv = .bool bn ∧ av = .int .i64 i ∧ nv = .int .i64 nr ∧ cv = .int .i64 cnt ∧ i0 ≤ i ∧ i ≤ s.size ∧ 0 ≤ cnt ∧ cnt ≤ i ∧ NI nr ni b0 bn ∧ durT (durL k) (digs (s.data.toList.drop i) ni (decide (cnt ≠ 0))) out li = R
theorem NI_bd {nr ni : Int} {b0 bn : Bool} (h : NI nr ni b0 bn) : 0 ≤ nr ∧ nr ≤ 11258999068426249 := by
  rcases h with ⟨h1, h2, _, _⟩ | ⟨h1, h2, _, _⟩ <;> omega
theorem NI_more {nr ni d : Int} {b0 bn : Bool} (h : NI nr ni b0 bn) (hd : 0 ≤ d ∧ d ≤ 9) :
    (1125899906842624 < nr → NI nr (min (10 * ni + d) 2251799813685248) b0 true) ∧ (nr ≤ 1125899906842624 → NI (10 * nr + d) (min (10 * ni + d) 2251799813685248) b0 bn) := by
  rcases h with ⟨h1, h2, h3, h4⟩ | ⟨h1, h2, h3, h4⟩
  · refine ⟨fun h => by omega, fun _ => ?_⟩
    subst h3
    by_cases hm : 10 * ni + d ≤ 1125899906842624
    · left
      exact ⟨by omega, hm, by rw [Int.min_eq_left (by omega)], h4⟩
    · right
      refine ⟨by omega, by omega, ?_, Int.min_le_right _ _⟩
      rcases Int.le_total (10 * ni + d) 2251799813685248 with h | h
      · rw [Int.min_eq_left h]; omega
      · rw [Int.min_eq_right h]; omega
  · refine ⟨fun _ => .inr ⟨h1, h2, ?_, Int.min_le_right _ _⟩, fun h => by omega⟩
    rw [Int.min_eq_right (by omega)]; omega
theorem sub_lt4 {n i j z m : Nat} (h : n - i < m + 1) (hij : i ≤ j) (hz : 1 ≤ z) (hj : j + z ≤ n) : n - (j + z) < m := by omega
theorem drop_ne {s : ByteArray} {i : Nat} (h : i < s.size) : s.data.toList.drop i ≠ [] := by rw [drop_cons s i h]; simp
theorem LR_le {lr li u e z : Int} (h : LR lr li) (hu : (u = -1 ∧ e = 0 ∧ z = 0) ∨ (UR u e ∧ 1 ≤ z)) : u ≤ lr ↔ (z = 0 ∨ li ≤ e) := by
  unfold LR UR at *
  omega

set_option maxHeartbeats 8000000 in
theorem rduration_any (s : ByteArray) (w : World) (hs : s.size ≤ 9223372036854775806) :
    Calls Tryd.prog 10 #[.string s] w fun e w' => e = .returned (.tuple #[.int .i64 (durV s.data.toList).1, .int .i64 (durV s.data.toList).2]) ∧ Below w.heap.size w w' := by
  obtain ⟨R, hR⟩ : ∃ R, R = durV s.data.toList := ⟨_, rfl⟩
  rw [← hR]
  have HR := Lib.hid hR
  clear hR
  by_cases h0 : s.size = 0
  · have e1 := data_nil h0
    have e2 : s.toList = [] := by rw [ByteArray.toList_eq]; exact e1
    have HQ := Lib.hid (show R = (0, 2) by rw [HR.out, e1]; rfl)
    clear e1 h0
    go_enter Tryd.func10, Tryd.ntmps10
    go_wp2_with fail
    all_goals
      go_ret2
      exact ⟨ret2 (by rw [HQ.out]) (by rw [HQ.out]), Below.refl _ _⟩
  · have h1 : 0 < s.size := by omega
    have e1 : s.data.toList ≠ [] := ne_data h1
    have e2 : s.toList ≠ [] := by rw [ByteArray.toList_eq]; exact e1
    have e3 : s.toList.isEmpty = false := by simpa using e2
    by_cases h64 : s.size ≤ 64
    · have HQ := Lib.hid (show R = durL (s.size + 1) s.data.toList 0 86400001 by
        rw [HR.out, durV, if_neg (by intro h; rcases h with h | h; exact e1 h; simp at h; omega)]; simp)
      clear h0 e1 HR
      go_enter Tryd.func10, Tryd.ntmps10
      go_wp2_with fail
      go_loopw [4, 5, 6, 7] (fun sv lv bv av wr => RO s R sv lv bv av ∧ Below w.heap.size w wr) (fun _ _ _ a _ => s.size - (intOf a).toNat)
      case atStart => exact ⟨⟨0, 0, -1, 0, 86400001, false, rfl, rfl, rfl, rfl, by omega, ⟨by omega, by omega, by omega, by omega, fun _ => rfl, fun h => by cases h⟩, .inl ⟨rfl, rfl⟩, .inr ⟨h1, s.size + 1, by omega, HQ.out.symm⟩⟩, Below.refl _ _⟩
      case round =>
        obtain ⟨⟨i, sm, lr, out, li, bg, rfl, rfl, rfl, rfl, hi, hsi, hlr, hdv⟩, hb⟩ := hrel
        have HB := Lib.hid hb
        have hsi1 : 0 ≤ sm := hsi.1
        have hsi2 : sm ≤ 1125899906842624 := hsi.2.1
        have HSI := Lib.hid hsi
        have HLR := Lib.hid hlr
        clear hb hsi hlr HQ
        have hi0 : (0 : Int) ≤ (i : Int) := Int.natCast_nonneg _
        rcases hdv with ⟨hie, hfin⟩ | ⟨hlt, k, hk, hv⟩
        · have h2 : ¬ (i : Int) < (s.size : Int) := by omega
          have HF := Lib.hid (fin_of HSI.out)
          have HFR := Lib.hid hfin
          clear hie hfin
          cases bg
          · by_cases hz : sm = 0
            · subst hz
              have HX := Lib.hid (show R = (0, 1) by rw [← HFR.out, HF.out, if_neg (by simp), if_pos rfl])
              go_wp2_with fail
              go_ret2
              exact ⟨ret2 (by rw [HX.out]) (by rw [HX.out]), HB.out⟩
            · have HX := Lib.hid (show R = (sm, 0) by rw [← HFR.out, HF.out, if_neg (by simp), if_neg hz])
              have hz2 : (sm == 0) = false := by simpa using hz
              clear hz
              go_wp2_with fail
              go_ret2
              exact ⟨ret2 (by rw [HX.out]) (by rw [HX.out]), HB.out⟩
          · have HX := Lib.hid (show R = (0, 1) by rw [← HFR.out, HF.out, if_pos rfl])
            go_wp2_with fail
            go_ret2
            exact ⟨ret2 (by rw [HX.out]) (by rw [HX.out]), HB.out⟩
        · have h2 : (i : Int) < (s.size : Int) := by omega
          obtain ⟨m, rfl⟩ : ∃ m, k = m + 1 := ⟨k - 1, by omega⟩
          have HV := Lib.hid (show durT (durL m) (digs (s.data.toList.drop i) 0 false) out li = R from hv)
          clear hv
          go_wp2_with fail
          obtain ⟨wo, hwo⟩ : ∃ wo, wo = wr := ⟨_, rfl⟩
          rw [← hwo]
          have HBo := Lib.hid (show Below w.heap.size w wo by rw [hwo]; exact HB.out)
          clear hwo HB
          go_loopw [6, 7, 8, 9] (fun bv av nv cv wi => RI s R i m out li bg bv av nv cv ∧ wi = wo) (fun _ a _ _ _ => s.size - (intOf a).toNat)
          case atStart => exact ⟨⟨i, 0, 0, 0, bg, rfl, rfl, rfl, rfl, Nat.le_refl _, hi, by omega, by omega, .inl ⟨by omega, by omega, rfl, rfl⟩, HV.out⟩, rfl⟩
          case round =>
            obtain ⟨⟨j, nr, ni, cnt, bn, rfl, rfl, rfl, rfl, hij, hj, hc0, hcj, hni, hdt⟩, rfl⟩ := hrel
            have ⟨n1, n2⟩ := NI_bd hni
            have HNI := Lib.hid hni
            have HDT := Lib.hid hdt
            clear hni hdt HV
            have hj0 : (0 : Int) ≤ (j : Int) := Int.natCast_nonneg _
            by_cases hd : ∃ h : j < s.size, (48 : Int) ≤ (s[j].toNat : Int) ∧ (s[j].toNat : Int) ≤ 57
            · obtain ⟨hj1, hd1, hd2⟩ := hd
              have hj2 : (j : Int) < (s.size : Int) := by omega
              have HM := Lib.hid (NI_more (d := (s[j].toNat : Int) - 48) HNI.out (by omega))
              have HD := Lib.hid (show durT (durL m) (digs (s.data.toList.drop (j + 1)) (min ((10 : Int) * ni + ((s[j].toNat : Int) - 48)) 2251799813685248) (decide (cnt + 1 ≠ 0))) out li = R by
                rw [← HDT.out, drop_cons s j hj1, digs, if_pos ⟨hd1, hd2⟩]
                rw [show decide (cnt + 1 ≠ 0) = true by simp; omega])
              by_cases hbig : 1125899906842624 < nr
              · go_wp2_with fail
                go_roundw
                case rel => exact ⟨⟨j + 1, nr, _, cnt + 1, true, rfl, by go_num, rfl, rfl, by omega, by omega, by omega, by omega, HM.out.1 hbig, HD.out⟩, trivial⟩
                case measure => simp [intOf]; omega
              · have hb2 : nr ≤ 1125899906842624 := by omega
                clear hbig
                go_wp2_with fail
                go_roundw
                case rel => exact ⟨⟨j + 1, _, _, cnt + 1, bn, rfl, by go_num, rfl, rfl, by omega, by omega, by omega, by omega, HM.out.2 hb2, HD.out⟩, trivial⟩
                case measure => simp [intOf]; omega
            · have HQ := Lib.hid (show durT (durL m) (ni, decide (cnt ≠ 0), s.data.toList.drop j) out li = R by
                rw [← HDT.out]
                by_cases h0 : j < s.size
                · rw [drop_cons s j h0, digs, if_neg (fun h => hd ⟨h0, h⟩)]
                · rw [drop_end s j (by omega)]; rfl)
              have hway : ¬ (j : Int) < (s.size : Int) ∨ (∃ h : j < s.size, (j : Int) < (s.size : Int) ∧ (s[j].toNat : Int) < 48) ∨ (∃ h : j < s.size, (j : Int) < (s.size : Int) ∧ (57 : Int) < (s[j].toNat : Int)) := by
                by_cases h0 : j < s.size
                · by_cases h1 : (s[j].toNat : Int) < 48
                  · exact .inr (.inl ⟨h0, by omega, h1⟩)
                  · refine .inr (.inr ⟨h0, by omega, ?_⟩)
                    have : ¬ (s[j].toNat : Int) ≤ 57 := fun h2 => hd ⟨h0, by omega, h2⟩
                    omega
                · left; omega
              have HU := Lib.hid (fun w => runit_any s j w hj hs)
              have hru := rU_unit (s.data.toList.drop j)
              have huc := unitL_cases (s.data.toList.drop j)
              have hlj : (s.data.toList.drop j).length = s.size - j := by simp
              obtain ⟨u, z, hrU⟩ : ∃ u z, rU (s.data.toList.drop j) = (u, z) := ⟨_, _, rfl⟩
              obtain ⟨e, z', hU⟩ : ∃ e z', unitL (s.data.toList.drop j) = (e, z') := ⟨_, _, rfl⟩
              have hdt := HQ.out
              simp only [durT, hU] at hdt
              rw [hrU, hU] at hru
              rw [hU, hlj] at huc
              simp only at hru huc
              obtain ⟨rfl, hru⟩ := hru
              have HU2 := Lib.hid (show ∀ w, Calls Tryd.prog 28 #[.string s, .int .i64 j] w fun e w' => e = .returned (.tuple #[.int .i64 u, .int .i64 z]) ∧ w = w' from fun w => by have := HU.out w; rw [hrU] at this; exact this)
              have hle := LR_le HLR.out hru
              have HDR := Lib.hid hdt
              have HRU := Lib.hid hru
              clear hd hrU hU hdt HDT HQ HU hru hlj
              by_cases ha : cnt = 0 ∨ u ≤ lr
              · have HX := Lib.hid (show R = (0, 2) by
                  rw [← HDR.out, if_pos]
                  rcases ha with h | h
                  · left; simp [h]
                  · exact .inr (hle.1 h))
                have hb : (cnt == 0) = true ∨ ((cnt == 0) = false ∧ u ≤ lr) := by
                  by_cases hz : cnt = 0
                  · left; simpa using hz
                  · right; exact ⟨by simpa using hz, by rcases ha with h | h; exact absurd h hz; exact h⟩
                clear ha hle huc
                rcases hb with hb | ⟨hb, hb2⟩ <;> rcases hway with h | ⟨h, h1, h2⟩ | ⟨h, h1, h2⟩
                all_goals
                  go_wp2_with fail
                  refine (HU2.out _).mono ?_
                  rintro x w' ⟨rfl, rfl⟩
                  go_wp2_with fail
                  go_ret2
                  exact ⟨ret2 (by rw [HX.out]) (by rw [HX.out]), HBo.out⟩
              · have hc1 : cnt ≠ 0 := fun h => ha (.inl h)
                have hc2 : lr < u := by
                  have : ¬ u ≤ lr := fun h => ha (.inr h)
                  omega
                have hc3 : ¬ (z = 0 ∨ li ≤ e) := fun h => by have := hle.2 h; omega
                have hur : UR u e ∧ 1 ≤ z := by
                  rcases HRU.out with ⟨h1, h2, h3⟩ | h
                  · exact absurd (.inl h3) hc3
                  · exact h
                have hz1 : z ≤ (s.size - j : Nat) := by
                  rcases huc with ⟨_, h⟩ | ⟨_, _, h⟩
                  · omega
                  · exact h
                have hz0 : 1 ≤ z := hur.2
                obtain ⟨zn, hzn⟩ : ∃ zn : Nat, z = zn := ⟨z.toNat, by omega⟩
                subst hzn
                have hjz : j + zn ≤ s.size := by omega
                have hz2 : 1 ≤ zn := by omega
                have hmm : s.size - (j + zn) < m := sub_lt4 hk hij hz2 hjz
                have hway2 : (∃ h : j < s.size, (j : Int) < (s.size : Int) ∧ (s[j].toNat : Int) < 48) ∨ (∃ h : j < s.size, (j : Int) < (s.size : Int) ∧ (57 : Int) < (s[j].toNat : Int)) := by
                  rcases hway with h | h | h
                  · omega
                  · exact .inl h
                  · exact .inr h
                have hdr := HDR.out
                rw [if_neg (by rintro (h | h); simp at h; exact hc1 h; exact hc3 h)] at hdr
                have hps := part_sum HSI.out HNI.out hur.1
                obtain ⟨out', ho'⟩ : ∃ o, min (out + capN ni e * e) 2251799813685248 = o := ⟨_, rfl⟩
                rw [ho'] at hdr hps
                rw [Int.toNat_natCast] at hdr
                clear ho' hway huc
                have hdv : DV s R (j + zn) out' e := by
                  by_cases hend : j + zn = s.size
                  · left
                    refine ⟨hend, ?_⟩
                    rw [← hdr, if_pos]
                    rw [List.drop_drop]
                    apply List.drop_eq_nil_of_le
                    simp; omega
                  · right
                    have hlt4 : j + zn < s.size := Nat.lt_of_le_of_ne hjz hend
                    refine ⟨hlt4, m, hmm, ?_⟩
                    rw [← hdr, List.drop_drop, if_neg (drop_ne hlt4)]
                have he0 : e ≠ 0 := by rcases hur.1 with ⟨_, h⟩ | ⟨_, h⟩ | ⟨_, h⟩ | ⟨_, h⟩ | ⟨_, h⟩ <;> omega
                have he1 : 1 ≤ e := by rcases hur.1 with ⟨_, h⟩ | ⟨_, h⟩ | ⟨_, h⟩ | ⟨_, h⟩ | ⟨_, h⟩ <;> omega
                have hq0 : 0 ≤ (1125899906842624 : Int) / e := Int.ediv_nonneg (by omega) (by omega)
                have hq1 : (1125899906842624 : Int) / e ≤ 1125899906842624 := Int.ediv_le_self _ (by omega)
                have hb : (cnt == 0) = false := by simpa using hc1
                have HUR := Lib.hid hur.1
                have HDV := Lib.hid hdv
                have HSZ := Lib.hid (fun w => rsize_any u e w hur.1)
                have HJZ := Lib.hid hjz
                clear ha hle hc1 hc3 hur hdr hdv hmm
                rcases hps with ⟨p1, ps⟩ | ⟨p1, p2, p3, p4, ps⟩ | ⟨p1, p2, p3, p4, ps⟩
                · have HPS := Lib.hid ps
                  clear ps
                  rcases hway2 with ⟨h, h1, h2⟩ | ⟨h, h1, h2⟩
                  all_goals
                    go_wp2_with fail
                    refine (HU2.out _).mono ?_
                    rintro x w' ⟨rfl, rfl⟩
                    go_wp2_with fail
                    refine (HSZ.out _).mono ?_
                    rintro x w1 ⟨rfl, hb1⟩
                    have HB1 := Lib.hid (HBo.out.trans (hb1.mono HBo.out.size))
                    clear hb1
                    go_wp2_with fail
                    go_roundw
                    case rel => exact ⟨⟨j + zn, sm, u, out', e, true, rfl, rfl, rfl, by go_num, HJZ.out, HPS.out, .inr HUR.out, HDV.out⟩, HB1.out⟩
                    case measure => simp [intOf]; omega
                · have HPS := Lib.hid ps
                  clear ps
                  rcases hway2 with ⟨h, h1, h2⟩ | ⟨h, h1, h2⟩
                  all_goals
                    go_wp2_with fail
                    refine (HU2.out _).mono ?_
                    rintro x w' ⟨rfl, rfl⟩
                    go_wp2_with fail
                    refine (HSZ.out _).mono ?_
                    rintro x w1 ⟨rfl, hb1⟩
                    have HB1 := Lib.hid (HBo.out.trans (hb1.mono HBo.out.size))
                    clear hb1
                    go_wp2_with fail
                    refine (HSZ.out _).mono ?_
                    rintro x w2 ⟨rfl, hb2⟩
                    have HB2 := Lib.hid (HB1.out.trans (hb2.mono HB1.out.size))
                    clear hb2
                    go_wp2_with fail
                    go_roundw
                    case rel => exact ⟨⟨j + zn, sm, u, out', e, true, rfl, rfl, rfl, by go_num, HJZ.out, HPS.out, .inr HUR.out, HDV.out⟩, HB2.out⟩
                    case measure => simp [intOf]; omega
                · have HPS := Lib.hid ps
                  clear ps
                  rcases hway2 with ⟨h, h1, h2⟩ | ⟨h, h1, h2⟩
                  all_goals
                    go_wp2_with fail
                    refine (HU2.out _).mono ?_
                    rintro x w' ⟨rfl, rfl⟩
                    go_wp2_with fail
                    refine (HSZ.out _).mono ?_
                    rintro x w1 ⟨rfl, hb1⟩
                    have HB1 := Lib.hid (HBo.out.trans (hb1.mono HBo.out.size))
                    clear hb1
                    go_wp2_with fail
                    refine (HSZ.out _).mono ?_
                    rintro x w2 ⟨rfl, hb2⟩
                    have HB2 := Lib.hid (HB1.out.trans (hb2.mono HB1.out.size))
                    clear hb2
                    go_wp2_with fail
                    refine (HSZ.out _).mono ?_
                    rintro x w3 ⟨rfl, hb3⟩
                    have HB3 := Lib.hid (HB2.out.trans (hb3.mono HB2.out.size))
                    clear hb3
                    go_wp2_with fail
                    go_roundw
                    case rel => exact ⟨⟨j + zn, sm + nr * e, u, out', e, bn, rfl, rfl, rfl, by go_num, HJZ.out, HPS.out, .inr HUR.out, HDV.out⟩, HB3.out⟩
                    case measure => simp [intOf]; omega
    · have HQ := Lib.hid (show R = (0, 2) by
        rw [HR.out, durV, if_pos (.inr (by simp; omega))])
      have h65 : 64 < s.size := by omega
      clear h0 e1 h64
      go_enter Tryd.func10, Tryd.ntmps10
      go_wp2_with fail
      all_goals
        go_ret2
        exact ⟨ret2 (by rw [HQ.out]) (by rw [HQ.out]), Below.refl _ _⟩
end Go.Proofs.YtkflhfdpdgnbfaaDoor
