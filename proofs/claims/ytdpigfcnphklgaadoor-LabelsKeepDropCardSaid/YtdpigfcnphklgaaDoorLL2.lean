/- LabelsParts: the walk. -/
import Derived.Test.YtdpigfcnphklgaaDoorLk1
import Derived.Test.YtdpigfcnphklgaaDoorLo1
import Derived.Test.YtdpigfcnphklgaaDoorLL1
import Derived.Test.YtdpigfcnphklgaaDoorLw1
import Derived.Test.YtdpigfcnphklgaaDoorLg1
import Derived.Outline
namespace Go.Proofs.YtdpigfcnphklgaaDoor
open Go Go.RowKit
set_option linter.unusedVariables false
set_option linter.unusedSimpArgs false
set_option maxRecDepth 100000
theorem bthen {a b c : World} (h : Below a.heap.size a b) (k : Below b.heap.size b c) : Below a.heap.size a c := h.trans (k.mono h.size)
theorem same_below (v1 v2 : Value) (xs : List Lb) (w : World) (h1 : Sl lenc w v1 xs) (h2 : Sl lenc w v2 xs) :
    Calls Tryd.prog 15 #[v1, v2] w fun e w' => e = .returned (.bool true) ∧ Below w.heap.size w w' :=
  (same_self v1 v2 xs w h1 h2).mono fun e w' ⟨he, n, hw⟩ => ⟨he, by rw [hw]; exact below_drewN (Below.refl _ _) n⟩
set_option maxHeartbeats 16000000 in
theorem labelsParts_walk (v0 : Value) (l : List Lb) (v1 : Value) (ns : List ByteArray) (how : Int) (gu : Value) (gn : List ByteArray) (name value : ByteArray) (w : World) (ht : Tab w) (h0 : Sl lenc w v0 l) (h1 : Sl senc1 w v1 ns) (h2 : Sl senc1 w gu gn) (hs3 : name.size ≤ 9223372036854775807) (hs4 : value.size ≤ 9223372036854775807) :
    Calls Tryd.prog 6 #[v0, v1, .agg #[.int .i64 how, gu], .string name, .string value] w fun e w' => e = .returned (.bool true) ∧ Below w.heap.size w w' := by
  obtain ⟨ga, gcap, rfl, glen, -⟩ := h2.strings
  have hb0 : Below w.heap.size w (w.alloc (.cells #[.int .i64 how, .slice ga gn.length gcap] 48)) := (Below.refl _ _).alloc (Nat.le_refl _) _
  have HT := Lib.hid (ht.below hb0 (Nat.le_refl _))
  have HL := Lib.hid (h0.below hb0 (Nat.le_refl _))
  have HN := Lib.hid (h1.below hb0 (Nat.le_refl _))
  have HG := Lib.hid (h2.below hb0 (Nat.le_refl _))
  have HB0 := Lib.hid hb0
  have hz0 : w.heap.size < (w.alloc (.cells #[.int .i64 how, .slice ga gn.length gcap] 48)).heap.size := by simp
  have q0 : (w.alloc (.cells #[.int .i64 how, .slice ga gn.length gcap] 48)).cell? ⟨w.heap.size, 0, none⟩ = some (.int .i64 how) := by simp
  have q1 : (w.alloc (.cells #[.int .i64 how, .slice ga gn.length gcap] 48)).cell? ⟨w.heap.size, 1, none⟩ = some (.slice ga gn.length gcap) := by simp
  have HK := Lib.hid (known_any _ HT.out)
  obtain ⟨wa, hwa⟩ : ∃ wa, wa = w.alloc (.cells #[.int .i64 how, .slice ga gn.length gcap] 48) := ⟨_, rfl⟩
  have HWA := Lib.hid hwa
  rw [← hwa] at HT HL HN HG HB0 hz0 q0 q1
  clear ht h0 h1 h2 hb0 hwa
  go_enter Tryd.func6, Tryd.ntmps6
  go_wp2_with fail
  refine HK.out.mono ?_
  rw [← HWA.out]
  rintro e w1 ⟨rfl, hb1⟩
  replace q0 := cell_below hb1 (Nat.le_refl _) q0
  replace q1 := cell_below hb1 (Nat.le_refl _) q1
  have HB1 := Lib.hid (HB0.out.trans (hb1.mono (by omega)))
  have HL1 := Lib.hid (HL.out.below hb1 (Nat.le_refl _))
  have HN1 := Lib.hid (HN.out.below hb1 (Nat.le_refl _))
  have HG1 := Lib.hid (HG.out.below hb1 (Nat.le_refl _))
  clear hb1 hz0 HT HL HN HG HB0 HK HWA
  have HFW := Lib.hid (few_any v0 l w1 HL1.out)
  go_wp2_with fail
  refine HFW.out.mono ?_
  rintro e w1' ⟨rfl, rfl⟩
  by_cases hf : fewL l = true
  · rw [hf]
    have hl80 := few_len hf
    clear hf
    have HRW := Lib.hid (rright_any v0 l w1' HL1.out)
    go_wp2_with fail
    refine HRW.out.mono ?_
    by_cases hr : rightL l = true
    · rw [hr]
      rintro e w2 ⟨rfl, n2, rfl⟩
      have HR := Lib.hid hr
      clear hr
      have HB2 := Lib.hid (below_drewN HB1.out n2)
      have HL2 := Lib.hid (HL1.out.drewN n2)
      have HN2 := Lib.hid (HN1.out.drewN n2)
      have HG2 := Lib.hid (HG1.out.drewN n2)
      replace q0 : (w1'.drewN n2).cell? ⟨w.heap.size, 0, none⟩ = some (.int .i64 how) := q0
      replace q1 : (w1'.drewN n2).cell? ⟨w.heap.size, 1, none⟩ = some (.slice ga gn.length gcap) := q1
      clear HB1 HL1 HN1 HG1 HFW HRW
      generalize w1'.drewN n2 = w2 at HB2 HL2 HN2 HG2 q0 q1 ⊢
      have HNA := Lib.hid (names_any v1 ns w2 HN2.out)
      go_wp2_with fail
      refine HNA.out.mono ?_
      rintro e w3 ⟨hnn, rfl⟩
      rcases hnn with rfl | ⟨rfl, hns⟩
      · go_wp2_with fail
        go_ret
        exact ⟨rfl, HB2.out⟩
      · have HNG := Lib.hid (names_any _ gn w3 HG2.out)
        go_wp2_with fail
        refine HNG.out.mono ?_
        rintro e w4 ⟨hnn, rfl⟩
        rcases hnn with rfl | ⟨rfl, hgs⟩
        · go_wp2_with fail
          go_ret
          exact ⟨rfl, HB2.out⟩
        · by_cases hnz : 400 < name.size
          · have hnz1 : (400 : Int) < (name.size : Int) := by omega
            have hnzb : decide ((400 : Int) < (name.size : Int)) = true := decide_eq_true hnz1
            go_wp2_with fail
            go_ret
            exact ⟨rfl, HB2.out⟩
          · have hnz1 : ¬ (400 : Int) < (name.size : Int) := by omega
            have hnzb : decide ((400 : Int) < (name.size : Int)) = false := decide_eq_false hnz1
            by_cases hvz : 2000 < value.size
            · have hvz1 : (2000 : Int) < (value.size : Int) := by omega
              have hvzb : decide ((2000 : Int) < (value.size : Int)) = true := decide_eq_true hvz1
              go_wp2_with fail
              go_ret
              exact ⟨rfl, HB2.out⟩
            · have hvz1 : ¬ (2000 : Int) < (value.size : Int) := by omega
              have hvzb : decide ((2000 : Int) < (value.size : Int)) = false := decide_eq_false hvz1
              have HGT := Lib.hid (get_any v0 l name w4 HL2.out)
              have hgq : ((getL name l).toList == (getL name l).toList) = true := by simp
              go_wp2_with fail
              refine HGT.out.mono ?_
              rintro e w5 ⟨rfl, hb5⟩
              have HRG := Lib.hid (rget_any v0 l name w5 (HL2.out.below hb5 (Nat.le_refl _)))
              have HB5 := Lib.hid (HB2.out.trans (hb5.mono HB2.out.size))
              have HL5 := Lib.hid (HL2.out.below hb5 (Nat.le_refl _))
              have HN5 := Lib.hid (HN2.out.below hb5 (Nat.le_refl _))
              have HG5 := Lib.hid (HG2.out.below hb5 (Nat.le_refl _))
              replace q0 := cell_below hb5 (Nat.le_refl _) q0
              replace q1 := cell_below hb5 (Nat.le_refl _) q1
              clear hb5
              go_wp2_with fail
              refine HRG.out.mono ?_
              rintro e w6 ⟨rfl, rfl⟩
              have HWI := Lib.hid (with_any v0 l name value w6 HL5.out (by omega))
              generalize getL name l = gt at hgq ⊢
              go_wp2_with fail
              refine HWI.out.mono ?_
              rintro e w7 ⟨vw, rfl, hsw, hb7⟩
              have HB7 := Lib.hid (HB5.out.trans (hb7.mono HB5.out.size))
              have HL7 := Lib.hid (HL5.out.below hb7 (Nat.le_refl _))
              have HN7 := Lib.hid (HN5.out.below hb7 (Nat.le_refl _))
              have HG7 := Lib.hid (HG5.out.below hb7 (Nat.le_refl _))
              have HW7 := Lib.hid hsw
              replace q0 := cell_below hb7 (Nat.le_refl _) q0
              replace q1 := cell_below hb7 (Nat.le_refl _) q1
              clear hb7 hsw HWI HRG HGT
              have HRW := Lib.hid (rwith_any v0 l name value w7 HL7.out (by omega))
              go_wp2_with fail
              refine HRW.out.mono ?_
              rintro e w8 ⟨vr, rfl, hsr, hb8⟩
              have HB8 := Lib.hid (HB7.out.trans (hb8.mono HB7.out.size))
              have HL8 := Lib.hid (HL7.out.below hb8 (Nat.le_refl _))
              have HN8 := Lib.hid (HN7.out.below hb8 (Nat.le_refl _))
              have HG8 := Lib.hid (HG7.out.below hb8 (Nat.le_refl _))
              have HW8 := Lib.hid (HW7.out.below hb8 (Nat.le_refl _))
              have HR8 := Lib.hid hsr
              replace q0 := cell_below hb8 (Nat.le_refl _) q0
              replace q1 := cell_below hb8 (Nat.le_refl _) q1
              clear hb8 hsr HRW HL5 HN5 HG5 HL2 HN2 HG2 HB2 HB5 HL7 HN7 HG7 HW7 HB7 HNA HNG
              have HSM := Lib.hid (same_self vw vr _ w8 HW8.out HR8.out)
              go_wp2_with fail
              refine HSM.out.mono ?_
              rintro e w9 ⟨rfl, n9, rfl⟩
              have HB9 := Lib.hid (below_drewN HB8.out n9)
              have HL9 := Lib.hid (HL8.out.drewN n9)
              have HN9 := Lib.hid (HN8.out.drewN n9)
              have HG9 := Lib.hid (HG8.out.drewN n9)
              replace q0 : (w8.drewN n9).cell? ⟨w.heap.size, 0, none⟩ = some (.int .i64 how) := q0
              replace q1 : (w8.drewN n9).cell? ⟨w.heap.size, 1, none⟩ = some (.slice ga gn.length gcap) := q1
              clear HSM HW8 HR8 HB8 HL8 HN8 HG8
              generalize w8.drewN n9 = w3 at HB9 HL9 HN9 HG9 q0 q1 ⊢
              go_wp2_with fail
              go_region_held3 (fun w' => Below w3.heap.size w3 w' ∧ w'.cell? ⟨w.heap.size, 0, none⟩ = some (.int .i64 how) ∧ w'.cell? ⟨w.heap.size, 1, none⟩ = some (.slice ga gn.length gcap))
                (exact S_keep2 q0 q1 (by go_grown))
                (first
                  | (go_at_call 27
                     refine (keep_any v0 v1 l ns _ ?_ ?_ (by omega)).mono ?_
                     exact HL9.out.below (B := w3.heap.size) (by go_grown) (Nat.le_refl _)
                     exact HN9.out.below (B := w3.heap.size) (by go_grown) (Nat.le_refl _)
                     rintro e wK ⟨vK, rfl, hsK, hbK⟩
                     have hBK : Below w3.heap.size w3 wK := bthen (by go_grown) hbK)
                  | (go_at_call 33
                     refine (rkeep_any v0 v1 l ns _ ?_ ?_ (by omega)).mono ?_
                     exact HL9.out.below (B := w3.heap.size) (by go_grown) (Nat.le_refl _)
                     exact HN9.out.below (B := w3.heap.size) (by go_grown) (Nat.le_refl _)
                     rintro e wR ⟨vR, rfl, hsR, hbR⟩
                     have hBR : Below w3.heap.size w3 wR := bthen (by go_grown) hbR)
                  | (go_at_call 15
                     refine (same_below vK vR (pickL ns true l) _ ?_ ?_).mono ?_
                     (first | exact hsK | exact hsK.below hbR (Nat.le_refl _))
                     (first | exact hsR | exact hsR.below hbK (Nat.le_refl _))
                     rintro e wS ⟨rfl, hbS⟩
                     have hBS : Below w3.heap.size w3 wS := bthen (by go_grown) hbS)
                  | (go_at_call 28
                     refine (drop_any v0 v1 l ns _ ?_ ?_ (by omega)).mono ?_
                     exact HL9.out.below (B := w3.heap.size) (by go_grown) (Nat.le_refl _)
                     exact HN9.out.below (B := w3.heap.size) (by go_grown) (Nat.le_refl _)
                     rintro e wD ⟨vD, rfl, hsD, hbD⟩
                     have hBD : Below w3.heap.size w3 wD := bthen (by go_grown) hbD)
                  | (go_at_call 34
                     refine (rdrop_any v0 v1 l ns _ ?_ ?_ (by omega)).mono ?_
                     exact HL9.out.below (B := w3.heap.size) (by go_grown) (Nat.le_refl _)
                     exact HN9.out.below (B := w3.heap.size) (by go_grown) (Nat.le_refl _)
                     rintro e wE ⟨vE, rfl, hsE, hbE⟩
                     have hBE : Below w3.heap.size w3 wE := bthen (by go_grown) hbE)
                  | (go_at_call 15
                     refine (same_below vD vE (pickL ns false l) _ ?_ ?_).mono ?_
                     (first | exact hsD | exact hsD.below hbE (Nat.le_refl _))
                     (first | exact hsE | exact hsE.below hbD (Nat.le_refl _))
                     rintro e wT ⟨rfl, hbT⟩
                     have hBT : Below w3.heap.size w3 wT := bthen (by go_grown) hbT)
                  | (go_at_call 35
                     refine (group_any v0 (.slice ga gn.length gcap) how l gn _ ?_ ?_ (by omega)).mono ?_
                     exact HL9.out.below (B := w3.heap.size) (by go_grown) (Nat.le_refl _)
                     exact HG9.out.below (B := w3.heap.size) (by go_grown) (Nat.le_refl _)
                     rintro e wG ⟨vG, rfl, hsG, hbG⟩
                     have hBG : Below w3.heap.size w3 wG := bthen (by go_grown) hbG)
                  | (go_at_call 36
                     refine (rgroup_any v0 (.slice ga gn.length gcap) how l gn _ ?_ ?_ (by omega) (by omega)).mono ?_
                     exact HL9.out.below (B := w3.heap.size) (by go_grown) (Nat.le_refl _)
                     exact HG9.out.below (B := w3.heap.size) (by go_grown) (Nat.le_refl _)
                     rintro e wH ⟨vH, rfl, hsH, hbH⟩
                     have hBH : Below w3.heap.size w3 wH := bthen (by go_grown) hbH)
                  | (go_at_call 15
                     refine (same_below vG vH (groupL how gn l) _ ?_ ?_).mono ?_
                     (first | exact hsG | exact hsG.below hbH (Nat.le_refl _))
                     (first | exact hsH | exact hsH.below hbG (Nat.le_refl _))
                     rintro e wU ⟨rfl, hbU⟩
                     have hBU : Below w3.heap.size w3 wU := bthen (by go_grown) hbU))
              all_goals
                have hFIN := HB9.out.trans (hBU.mono HB9.out.size)
                have HFIN := Lib.hid hFIN
                clear hFIN
                go_wp2_with fail
                go_ret
                exact ⟨rfl, HFIN.out⟩
    · have hr2 : rightL l = false := by simpa using hr
      rw [hr2]
      rintro e w2 ⟨rfl, n2, rfl⟩
      go_wp2_with fail
      go_ret
      exact ⟨rfl, below_drewN HB1.out _⟩
  · have hf2 : fewL l = false := by simpa using hf
    rw [hf2]
    go_wp2_with fail
    go_ret
    exact ⟨rfl, HB1.out⟩
end Go.Proofs.YtdpigfcnphklgaaDoor
