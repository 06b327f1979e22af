/- The known case of the laws of chapter 8; the walk of WindowNames. -/
import Derived.Test.YtidmbjgnkodiiaaWin10
import Derived.Test.YtidmbjgnkodiiaaWin11
namespace Go.Proofs.Ytidmbjgnkodiiaa
open Go.RowKit
set_option linter.unusedVariables false
set_option linter.unusedSimpArgs false

def KS : List (Int × Nat) := [(1, 4617315517961601024), (2, 4619567317775286272), (3, 4607182418800017408)]
theorem kfn : fnR 8 0 3 KS = (4613937818241073152, true) := by decide +kernel
theorem knamed : namedI ⟨#[114, 97, 116, 101]⟩ = (9, true) := by decide +kernel
theorem kname : nameOf 13 = ⟨#[119, 97, 118, 101, 95, 109, 97, 103]⟩ := by decide +kernel
theorem kcut : (cutL 1 2 KS).length = 1 := by decide +kernel
theorem korder : FloatKind.f64.format.order 4613937818241073152 4613937818241073152 = some .eq := by decide +kernel

set_option maxRecDepth 100000 in
set_option maxHeartbeats 1000000 in
theorem known8 (w : World) : Calls Try.prog 4 #[] w fun e w' => e = .returned (.bool true) ∧ Below w.heap.size w w' := by
  have hfn := fn_any 8
  have HFN := Lib.hid hfn
  clear hfn
  have hko := korder
  go_enter Try.func4, Try.ntmps4
  go_wp2_with fail
  obtain ⟨w0, hw0⟩ : ∃ w0, w0 = w.alloc (.cells #[.int .i64 1, .float .f64 4617315517961601024, .int .i64 2, .float .f64 4619567317775286272, .int .i64 3, .float .f64 4607182418800017408] 45) := ⟨_, rfl⟩
  have hsl : Sl tenc w0 (.slice (some ⟨w.heap.size, 0, none⟩) 3 3) KS := by rw [hw0]; exact Sl.lit (heap_new w _) rfl rfl (by decide)
  have hb0 : Below w.heap.size w w0 := by rw [hw0]; exact (Below.refl _ _).alloc (Nat.le_refl _) _
  rw [← hw0]
  have hf := HFN.out _ KS 0 3 w0 hsl (by decide) (by omega) (by omega)
  rw [kfn] at hf
  refine hf.mono ?_
  rintro e w1 ⟨rfl, hb1⟩
  have hb01 := hb0.trans (hb1.mono hb0.size)
  have HSL := Lib.hid (hsl.below hb1 (Nat.le_refl _))
  have HB := Lib.hid hb01
  clear hsl hb0 hb1 hb01 hw0 hf HFN
  go_wp2_with fail
  have hnm := named_any ⟨#[114, 97, 116, 101]⟩ w1
  rw [knamed] at hnm
  refine hnm.mono ?_
  rintro e w2 ⟨rfl, hb2⟩
  have HB2 := Lib.hid hb2
  clear hnm hb2
  go_wp2_with fail
  have hnm := name_any 13 w2
  rw [kname] at hnm
  refine hnm.mono ?_
  rintro e w3 ⟨rfl, hb3⟩
  have HB3 := Lib.hid hb3
  clear hnm hb3
  go_wp2_with fail
  have hb23 := HB2.out.trans (HB3.out.mono HB2.out.size)
  refine (cut8_any _ KS 1 2 w3 (HSL.out.below hb23 (Nat.le_refl _)) (by decide)).mono ?_
  rintro e w4 ⟨v, rfl, hs4, hb4⟩
  obtain ⟨a, cap, rfl, -⟩ := hs4
  rw [kcut]
  have HB4 := Lib.hid (HB.out.trans ((hb23.trans (hb4.mono hb23.size)).mono HB.out.size))
  clear hb23 hb4
  go_wp2_with fail
  go_ret
  exact ⟨rfl, HB4.out⟩

theorem named_name (fn : Int) (h1 : 1 ≤ fn) (h2 : fn ≤ 14) : namedI (nameOf fn) = (fn, true) := by
  have hfn : fn = 1 ∨ fn = 2 ∨ fn = 3 ∨ fn = 4 ∨ fn = 5 ∨ fn = 6 ∨ fn = 7 ∨ fn = 8 ∨ fn = 9 ∨ fn = 10 ∨ fn = 11 ∨ fn = 12 ∨ fn = 13 ∨ fn = 14 := by omega
  rcases hfn with rfl | rfl | rfl | rfl | rfl | rfl | rfl | rfl | rfl | rfl | rfl | rfl | rfl | rfl <;> decide +kernel
theorem named_empty : namedI ⟨#[]⟩ = (0, false) := by decide +kernel

end Go.Proofs.Ytidmbjgnkodiiaa
