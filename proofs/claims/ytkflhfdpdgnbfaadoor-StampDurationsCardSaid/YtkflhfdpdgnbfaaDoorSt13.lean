/- The walk of StampDurations. -/
import Derived.Test.YtkflhfdpdgnbfaaDoorSt6
import Derived.Test.YtkflhfdpdgnbfaaDoorSt7
import Derived.Test.YtkflhfdpdgnbfaaDoorSt10
import Derived.Test.YtkflhfdpdgnbfaaDoorSt12
namespace Go.Proofs.YtkflhfdpdgnbfaaDoor
open Go Go.RowKit
set_option linter.unusedVariables false
set_option linter.unusedSimpArgs false
set_option maxRecDepth 100000

set_option maxHeartbeats 4000000 in
theorem durations_walk (s : ByteArray) (d : Int) (w : World) (ht : Tab w) (hs : s.size ≤ 2000) :
    Calls Tryd.prog 3 #[.string s, .int .i64 d] w fun e w' => e = .returned (.bool true) ∧ Below w.heap.size w w' := by
  have HT := Lib.hid ht
  have h1 := fun w => duration_any s w (by omega)
  have h2 := fun w => rduration_any s w (by omega)
  obtain ⟨a, e, hp⟩ : ∃ a e, durV s.data.toList = (a, e) := ⟨_, _, rfl⟩
  rw [hp] at h1 h2
  have H1 := Lib.hid h1
  have H2 := Lib.hid h2
  have h3 := text_any d
  have h4 := fun w => rtext_any d w
  have hs2 : ¬ (2000 : Int) < (s.size : Int) := by omega
  clear ht h1 h2 hp
  by_cases hg : d < 1 ∨ 1125899906842624 < d
  · have hv : textV d = (⟨#[]⟩, 1) := by rw [textV, if_pos hg]
    rw [hv] at h3 h4
    have H3 := Lib.hid h3
    have H4 := Lib.hid h4
    clear h3 h4 hv hg
    go_enter Tryd.func3, Tryd.ntmps3
    go_wp2_with fail
    refine (known_any _ HT.out).mono ?_
    rintro x w1 ⟨rfl, hb1⟩
    have HB1 := Lib.hid hb1
    have HT1 := Lib.hid (HT.out.below hb1 (Nat.le_refl _))
    clear hb1
    go_wp2_with fail
    refine (H1.out _).mono ?_
    rintro x w2 ⟨rfl, rfl⟩
    go_wp2_with fail
    refine (H2.out _).mono ?_
    rintro x w2 ⟨rfl, hb2⟩
    have HB2 := Lib.hid (HB1.out.trans (hb2.mono HB1.out.size))
    have HT2 := Lib.hid (HT1.out.below hb2 (Nat.le_refl _))
    clear hb2
    go_wp2_with fail
    refine (H3.out _ HT2.out).mono ?_
    rintro x w3 ⟨rfl, hb3⟩
    have HB3 := Lib.hid (HB2.out.trans (hb3.mono HB2.out.size))
    clear hb3
    go_wp2_with fail
    refine (H4.out _).mono ?_
    rintro x w4 ⟨rfl, hb4⟩
    have HB4 := Lib.hid (HB3.out.trans (hb4.mono HB3.out.size))
    clear hb4
    go_wp2_with fail
    go_ret
    exact ⟨rfl, HB4.out⟩
  · have hv : textV d = (textFrom unitsL d ⟨#[]⟩, 0) := by rw [textV, if_neg hg]
    have hd := dur_text d (by omega) (by omega)
    have hsz : (textFrom unitsL d ⟨#[]⟩).size ≤ 64 := by
      have h := tl_len d (by omega) (by omega)
      have ht := textFrom_tl unitsL d ⟨#[]⟩ (by omega) (by intro x hx; simp [unitsL] at hx; rcases hx with rfl | rfl | rfl | rfl | rfl <;> decide)
      have ht : (textFrom unitsL d ⟨#[]⟩).data.toList = tl unitsL d := by rw [ht]; rfl
      have := congrArg List.length ht
      simp at this
      omega
    obtain ⟨t, ht⟩ : ∃ t, t = textFrom unitsL d ⟨#[]⟩ := ⟨_, rfl⟩
    rw [hv, ← ht] at h3 h4
    rw [← ht] at hd hsz
    have h5 := fun w => duration_any t w (by omega)
    rw [hd] at h5
    have H3 := Lib.hid h3
    have H4 := Lib.hid h4
    have H5 := Lib.hid h5
    clear h3 h4 h5 hv hg hd ht
    go_enter Tryd.func3, Tryd.ntmps3
    go_wp2_with fail
    refine (known_any _ HT.out).mono ?_
    rintro x w1 ⟨rfl, hb1⟩
    have HB1 := Lib.hid hb1
    have HT1 := Lib.hid (HT.out.below hb1 (Nat.le_refl _))
    clear hb1
    go_wp2_with fail
    refine (H1.out _).mono ?_
    rintro x w2 ⟨rfl, rfl⟩
    go_wp2_with fail
    refine (H2.out _).mono ?_
    rintro x w2 ⟨rfl, hb2⟩
    have HB2 := Lib.hid (HB1.out.trans (hb2.mono HB1.out.size))
    have HT2 := Lib.hid (HT1.out.below hb2 (Nat.le_refl _))
    clear hb2
    go_wp2_with fail
    refine (H3.out _ HT2.out).mono ?_
    rintro x w3 ⟨rfl, hb3⟩
    have HB3 := Lib.hid (HB2.out.trans (hb3.mono HB2.out.size))
    clear hb3
    go_wp2_with fail
    refine (H4.out _).mono ?_
    rintro x w4 ⟨rfl, hb4⟩
    have HB4 := Lib.hid (HB3.out.trans (hb4.mono HB3.out.size))
    clear hb4
    go_wp2_with fail
    refine (H5.out _).mono ?_
    rintro x w5 ⟨rfl, rfl⟩
    go_wp2_with fail
    go_ret
    exact ⟨rfl, HB4.out⟩
theorem stampDurations_walk (s : ByteArray) (d : Int) (w : World) (ht : Tab w) (hs : s.size ≤ 9223372036854775807) (hd : (Lit.int .i64 d).wf = true) :
    Calls Tryd.prog 3 #[.string s, .int .i64 d] w fun e w' => e = .returned (.bool true) ∧ Below w.heap.size w w' := by
  by_cases h : s.size ≤ 2000
  · exact durations_walk s d w ht h
  · have h2 : (2000 : Int) < (s.size : Int) := by omega
    have HT := Lib.hid ht
    clear ht h
    go_enter Tryd.func3, Tryd.ntmps3
    go_wp2_with fail
    refine (known_any _ HT.out).mono ?_
    rintro x w1 ⟨rfl, hb1⟩
    have HB1 := Lib.hid hb1
    clear hb1
    go_wp2_with fail
    go_ret
    exact ⟨rfl, HB1.out⟩
end Go.Proofs.YtkflhfdpdgnbfaaDoor
