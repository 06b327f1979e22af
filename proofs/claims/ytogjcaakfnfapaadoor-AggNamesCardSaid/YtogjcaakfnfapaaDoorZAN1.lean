/- AggNames: the walk. (Several texts in one file, by merge.py.) -/
import Derived.Test.YtogjcaakfnfapaaDoorZA13
namespace Go.Proofs.YtogjcaakfnfapaaDoor
open Go Go.RowKit
set_option linter.unusedVariables false
set_option linter.unusedSimpArgs false
set_option maxRecDepth 100000
set_option maxHeartbeats 4000000 in
theorem aggNames_walk (op : Int) (s : ByteArray) (w : World) (ht : Tab w) (h0 : (Lit.int .i64 op).wf = true) (h1 : s.size ≤ 9223372036854775807) :
    Calls Tryd.prog 5 #[.int .i64 op, .string s] w fun e w' => e = .returned (.bool true) ∧ Below w.heap.size w w' := by
  have HK := Lib.hid (known_any w ht)
  have H1 := Lib.hid (fun w => agNamed_any s w)
  have H2 := Lib.hid (fun w => agrnamed_any s w)
  have H3 := Lib.hid (fun w => agName_any op w)
  have H4 := Lib.hid (fun w => agrname_any op w)
  have H5 := Lib.hid (fun w => takes_any op w)
  have H6 := Lib.hid (fun w => rtakes_any op w)
  obtain ⟨⟨n, b⟩, hnb⟩ : ∃ x, x = agNamedI s := ⟨_, rfl⟩
  rw [← hnb] at H1 H2
  obtain ⟨nm, hnm⟩ : ∃ x, x = agNameOf op := ⟨_, rfl⟩
  rw [← hnm] at H3 H4
  obtain ⟨tk, htk⟩ : ∃ x, x = takesB op := ⟨_, rfl⟩
  rw [← htk] at H5 H6
  clear hnb hnm htk ht h0 h1
  have e1 : (n == n) = true := by simp
  have e2 : (b == b) = true := by simp
  have e3 : (nm.toList == nm.toList) = true := by simp
  have e4 : (tk == tk) = true := by simp
  go_enter Tryd.func5, Tryd.ntmps5
  go_wp2_with fail
  refine HK.out.mono ?_
  rintro e w1 ⟨rfl, hb1⟩
  have HB1 := Lib.hid hb1
  clear hb1
  go_wp2_with fail
  refine (H1.out _).mono ?_
  rintro e w2 ⟨rfl, hb2⟩
  have HB2 := Lib.hid (HB1.out.trans (hb2.mono HB1.out.size))
  clear hb2
  go_wp2_with fail
  refine (H2.out _).mono ?_
  rintro e w3 ⟨rfl, hb3⟩
  have HB3 := Lib.hid (HB2.out.trans (hb3.mono HB2.out.size))
  clear hb3
  go_wp2_with fail
  refine (H3.out _).mono ?_
  rintro e w4 ⟨rfl, hb4⟩
  have HB4 := Lib.hid (HB3.out.trans (hb4.mono HB3.out.size))
  clear hb4
  go_wp2_with fail
  refine (H4.out _).mono ?_
  rintro e w5 ⟨rfl, hb5⟩
  have HB5 := Lib.hid (HB4.out.trans (hb5.mono HB4.out.size))
  clear hb5
  go_wp2_with fail
  refine (H5.out _).mono ?_
  rintro e w6 ⟨rfl, rfl⟩
  go_wp2_with fail
  refine (H6.out _).mono ?_
  rintro e w7 ⟨rfl, rfl⟩
  go_wp2_with fail
  go_ret
  exact ⟨by first | rfl | (simp; done), HB5.out⟩
end Go.Proofs.YtogjcaakfnfapaaDoor
