/- LabelsTexts: the walk. -/
import Derived.Test.YtdpigfcnphklgaaDoorLL1
import Derived.Test.YtdpigfcnphklgaaDoorLt2
import Derived.Test.YtdpigfcnphklgaaDoorLu4
namespace Go.Proofs.YtdpigfcnphklgaaDoor
open Go Go.RowKit
set_option linter.unusedVariables false
set_option linter.unusedSimpArgs false
set_option maxRecDepth 100000
theorem nameB_size {s : ByteArray} (h : nameB s = true) : s.size ≤ 64 := by
  unfold nameB at h
  simp only [Bool.and_eq_true, decide_eq_true_eq] at h
  exact h.1.1.2
theorem sizes_right {l : List Lb} (h : rightL l = true) : SizesOk l := by
  intro x hx
  obtain ⟨h1, h2⟩ := (labOk_iff x).1 (((right_iff l).1 h).1 x hx)
  have := nameB_size h1.1
  have := h1.2
  omega
theorem uqR_quote (s more : ByteArray) (e : Ending) (h : UqR (quoteS s ++ more).data.toList e) : e = .returned (.tuple #[.string s, .int .i64 (quoteS s).size, .int .i64 0]) := by
  unfold UqR at h
  have e1 : (quoteS s ++ more).data.toList = quoteL s.data.toList ++ more.data.toList := by
    rw [ByteArray.data_append, Array.toList_append]; rfl
  rw [e1, uqS_quote] at h
  rw [h]
  have e2 : (quoteS s).size = (quoteL s.data.toList).length := by unfold quoteS; show (quoteL _).toArray.size = _; simp
  rw [e2]
set_option maxHeartbeats 8000000 in
theorem labelsTexts_walk (s more : ByteArray) (v : Value) (l : List Lb) (w : World) (ht : Tab w) (hs1 : s.size ≤ 9223372036854775807) (hs2 : more.size ≤ 9223372036854775807) (h : Sl lenc w v l) :
    Calls Tryd.prog 4 #[.string s, .string more, v] w fun e w' => e = .returned (.bool true) ∧ Below w.heap.size w w' := by
  have HT := Lib.hid ht
  have HSL := Lib.hid h
  clear ht h
  go_enter Tryd.func4, Tryd.ntmps4
  go_wp2_with fail
  refine (known_any _ HT.out).mono ?_
  rintro e w1 ⟨rfl, hb1⟩
  have HB1 := Lib.hid hb1
  have HS1 := Lib.hid (HSL.out.below hb1 (Nat.le_refl _))
  clear hb1
  by_cases hz1 : 2000 < s.size
  · have hz1z : (2000 : Int) < (s.size : Int) := by omega
    have hz1b : decide ((2000 : Int) < (s.size : Int)) = true := decide_eq_true hz1z
    go_wp2_with fail
    go_ret
    exact ⟨rfl, HB1.out⟩
  · have hz1z : ¬ (2000 : Int) < (s.size : Int) := by omega
    have hz1b : decide ((2000 : Int) < (s.size : Int)) = false := decide_eq_false hz1z
    by_cases hz2 : 2000 < more.size
    · have hz2z : (2000 : Int) < (more.size : Int) := by omega
      have hz2b : decide ((2000 : Int) < (more.size : Int)) = true := decide_eq_true hz2z
      go_wp2_with fail
      go_ret
      exact ⟨rfl, HB1.out⟩
    · have hz2z : ¬ (2000 : Int) < (more.size : Int) := by omega
      have hz2b : decide ((2000 : Int) < (more.size : Int)) = false := decide_eq_false hz2z
      have HFW := Lib.hid (few_any v l w1 HS1.out)
      go_wp2_with fail
      refine HFW.out.mono ?_
      rintro e w1' ⟨rfl, rfl⟩
      by_cases hf : fewL l = true
      · rw [hf]
        have hl80 := few_len hf
        clear hf
        go_wp2_with fail
        refine (quote_any s _ (by omega)).mono ?_
        rintro e w2 ⟨rfl, hb2⟩
        have HB2 := Lib.hid (HB1.out.trans (hb2.mono HB1.out.size))
        have HS2 := Lib.hid (HS1.out.below hb2 (Nat.le_refl _))
        clear hb2
        have hqs := quoteS_size s
        obtain ⟨Q, hQ⟩ : ∃ Q, Q = quoteS s := ⟨_, rfl⟩
        rw [← hQ] at hqs
        have HU1 := Lib.hid (fun w => (unquote_any (Q ++ more) w (by rw [ByteArray.size_append]; omega)))
        have HUQ := Lib.hid (fun e h => uqR_quote s more e h)
        rw [← hQ] at HUQ ⊢
        have HRQ := Lib.hid (fun w => rquote_any s w (by omega))
        rw [← hQ] at HRQ
        clear hQ
        have hsum : ¬ 9223372036854775807 < Q.size + more.size := by omega
        go_wp2_with fail
        refine (HU1.out _).mono ?_
        rintro e w3 ⟨he, hb3⟩
        have he2 := HUQ.out e he
        subst he2
        have HB3 := Lib.hid (HB2.out.trans (hb3.mono HB2.out.size))
        have HS3 := Lib.hid (HS2.out.below hb3 (Nat.le_refl _))
        clear he hb3
        go_wp2_with fail
        refine (unquote_any s _ (by omega)).mono ?_
        rintro e w4 ⟨he, hb4⟩
        unfold UqR at he
        subst he
        have HB4 := Lib.hid (HB3.out.trans (hb4.mono HB3.out.size))
        have HS4 := Lib.hid (HS3.out.below hb4 (Nat.le_refl _))
        clear hb4
        go_wp2_with fail
        refine (runquote_any s _ (by omega)).mono ?_
        rintro e w5 ⟨he, hb5⟩
        unfold UqR at he
        subst he
        have HB5 := Lib.hid (HB4.out.trans (hb5.mono HB4.out.size))
        have HS5 := Lib.hid (HS4.out.below hb5 (Nat.le_refl _))
        clear hb5
        generalize (uqS s.data.toList).2.1 = M
        generalize (uqS s.data.toList).2.2 = F
        generalize (⟨(uqS s.data.toList).1.toArray⟩ : ByteArray) = Y
        go_wp2_with fail
        refine (HRQ.out _).mono ?_
        rintro e w6 ⟨rfl, hb6⟩
        have HB6 := Lib.hid (HB5.out.trans (hb6.mono HB5.out.size))
        have HS6 := Lib.hid (HS5.out.below hb6 (Nat.le_refl _))
        clear hb6
        have HRR := Lib.hid (rright_any v l w6 HS6.out)
        go_wp2_with fail
        refine HRR.out.mono ?_
        by_cases hr : rightL l = true
        · rw [hr]
          rintro e w7 ⟨rfl, n7, rfl⟩
          have hso := sizes_right hr
          have HB7 := Lib.hid (below_drewN HB6.out n7)
          have HT7 := Lib.hid (text_any v l (w6.drewN n7) (HS6.out.drewN n7) (by omega) hso)
          have HSO := Lib.hid hso
          clear hr hso
          go_wp2_with fail
          refine HT7.out.mono ?_
          rintro e w8 ⟨rfl, hb8⟩
          have HB8 := Lib.hid (HB7.out.trans (hb8.mono HB7.out.size))
          have HT8 := Lib.hid (rtext_any v l w8 ((HS6.out.drewN n7).below hb8 (Nat.le_refl _)) (by omega) HSO.out)
          clear hb8
          generalize textL l = X at HT8 ⊢
          go_wp2_with fail
          refine HT8.out.mono ?_
          rintro e w9 ⟨rfl, hb9⟩
          have HB9 := Lib.hid (HB8.out.trans (hb9.mono HB8.out.size))
          clear hb9
          go_wp2_with fail
          go_ret
          first | exact ⟨rfl, HB9.out⟩ | exact ⟨by simp, HB9.out⟩
        · have hr2 : rightL l = false := by simpa using hr
          rw [hr2]
          rintro e w7 ⟨rfl, n7, rfl⟩
          clear hr hr2
          go_wp2_with fail
          go_ret
          exact ⟨rfl, below_drewN HB6.out n7⟩
      · have hf2 : fewL l = false := by simpa using hf
        rw [hf2]
        clear hf hf2
        go_wp2_with fail
        go_ret
        exact ⟨rfl, HB1.out⟩
end Go.Proofs.YtdpigfcnphklgaaDoor
