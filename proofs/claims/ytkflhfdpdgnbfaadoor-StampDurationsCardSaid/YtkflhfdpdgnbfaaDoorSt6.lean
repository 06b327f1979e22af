/- known, and the walks of StampSums, StampAligns. -/
import Derived.Test.YtkflhfdpdgnbfaaDoorSt2
import Derived.Test.YtkflhfdpdgnbfaaDoorSt3
import Derived.Test.YtkflhfdpdgnbfaaDoorSt5
namespace Go.Proofs.YtkflhfdpdgnbfaaDoor
open Go Go.RowKit
set_option linter.unusedVariables false
set_option linter.unusedSimpArgs false
set_option maxRecDepth 100000

theorem dur_known : durV (⟨#[49, 104, 51, 48, 109]⟩ : ByteArray).data.toList = (5400000, 0) := by decide
theorem itoaB_1 : itoaB 1 = ⟨#[49]⟩ := by
  unfold itoaB Lib.itoa
  rw [if_neg (by omega)]
  rw [show (1 : Int).toNat = 1 from rfl, Lib.decDigits, dif_pos (by omega)]
  rfl
theorem text_known : textV 90061001 = (⟨#[49, 100, 49, 104, 49, 109, 49, 115, 49, 109, 115]⟩, 0) := by
  rw [textV, if_neg (by omega)]
  have h1 : textFrom unitsL 90061001 ⟨#[]⟩ = ((((((⟨#[]⟩ : ByteArray) ++ (itoaB 1 ++ ⟨#[100]⟩)) ++ (itoaB 1 ++ ⟨#[104]⟩)) ++ (itoaB 1 ++ ⟨#[109]⟩)) ++ (itoaB 1 ++ ⟨#[115]⟩)) ++ (itoaB 1 ++ ⟨#[109, 115]⟩)) := by
    rfl
  rw [h1, itoaB_1]
  rfl
set_option maxHeartbeats 2000000 in
theorem known_any (w : World) (ht : Tab w) : Calls Tryd.prog 8 #[] w fun e w' => e = .returned (.bool true) ∧ Below w.heap.size w w' := by
  have HT := Lib.hid ht
  have hd := fun w => duration_any ⟨#[49, 104, 51, 48, 109]⟩ w (by decide)
  rw [dur_known] at hd
  have HD := Lib.hid hd
  have hx := text_any 90061001
  rw [text_known] at hx
  have HX := Lib.hid hx
  have ha := fun w => at_any 5 20 7 2 w (by unfold i64B; omega) (by unfold i64B; omega) (by unfold i64B; omega) (by unfold i64B; omega)
  rw [show atV 5 20 7 2 = (19, true) by decide] at ha
  have HA := Lib.hid ha
  clear ht hd hx ha
  go_enter Tryd.func8, Tryd.ntmps8
  go_wp2_with fail
  refine (HD.out _).mono ?_
  rintro e w1 ⟨rfl, rfl⟩
  go_wp2_with fail
  refine (HX.out _ HT.out).mono ?_
  rintro e w1 ⟨rfl, hb1⟩
  have HB1 := Lib.hid hb1
  clear hb1
  go_wp2_with fail
  refine (HA.out _).mono ?_
  rintro e w2 ⟨rfl, hb2⟩
  have HB2 := Lib.hid (HB1.out.trans (hb2.mono HB1.out.size))
  clear hb2
  go_wp2_with fail
  go_ret
  exact ⟨rfl, HB2.out⟩
end Go.Proofs.YtkflhfdpdgnbfaaDoor
