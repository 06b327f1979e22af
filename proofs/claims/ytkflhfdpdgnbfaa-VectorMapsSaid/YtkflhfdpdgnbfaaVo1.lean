/- Comparisons and operators of values: both sides' walks (printed by gen_vo1.py). -/
import Derived.Test.YtkflhfdpdgnbfaaFl2
namespace Go.Proofs.Ytkflhfdpdgnbfaa
open Go Go.RowKit
set_option linter.unusedVariables false
set_option linter.unusedSimpArgs false
set_option maxRecDepth 100000
def holdsF (op : Int) (a b : Nat) : Bool :=
  if op = 5 then FloatKind.f64.format.order a b == some .eq
  else if op = 6 then FloatKind.f64.format.order a b != some .eq
  else if op = 7 then FloatKind.f64.format.order a b == some .gt
  else if op = 8 then FloatKind.f64.format.order a b == some .lt
  else if op = 9 then FloatKind.f64.format.order a b == some .gt || FloatKind.f64.format.order a b == some .eq
  else if op = 10 then FloatKind.f64.format.order a b == some .lt || FloatKind.f64.format.order a b == some .eq
  else false
def opV (op : Int) (a b : Nat) : Nat :=
  if op = 1 then cop .add a b else if op = 2 then cop .sub a b else if op = 3 then cop .mul a b else if op = 4 then cop .quo a b
  else if op < 5 ∨ 10 < op then 0 else if holdsF op a b = true then 4607182418800017408 else 0
def opOk (op : Int) : Bool := decide (1 ≤ op) && decide (op ≤ 10)
theorem holds_any (op : Int) (a b : Nat) (w : World) : Calls Try.prog 39 #[.int .i64 op, .float .f64 a, .float .f64 b] w fun e w' => e = .returned (.bool (holdsF op a b)) ∧ w = w' := by
  by_cases h5 : op = 5
  · subst h5
    go_enter Try.func39, Try.ntmps39
    go_wp2_with fail
    go_ret
    exact ⟨rfl, rfl⟩
  · have g5 : (op == 5) = false := by simpa using h5
    by_cases h6 : op = 6
    · subst h6
      go_enter Try.func39, Try.ntmps39
      go_wp2_with fail
      go_ret
      exact ⟨rfl, rfl⟩
    · have g6 : (op == 6) = false := by simpa using h6
      by_cases h7 : op = 7
      · subst h7
        go_enter Try.func39, Try.ntmps39
        go_wp2_with fail
        go_ret
        exact ⟨rfl, rfl⟩
      · have g7 : (op == 7) = false := by simpa using h7
        by_cases h8 : op = 8
        · subst h8
          go_enter Try.func39, Try.ntmps39
          go_wp2_with fail
          go_ret
          exact ⟨rfl, rfl⟩
        · have g8 : (op == 8) = false := by simpa using h8
          by_cases h9 : op = 9
          · subst h9
            go_enter Try.func39, Try.ntmps39
            go_wp2_with fail
            go_ret
            exact ⟨rfl, rfl⟩
          · have g9 : (op == 9) = false := by simpa using h9
            by_cases h10 : op = 10
            · subst h10
              go_enter Try.func39, Try.ntmps39
              go_wp2_with fail
              go_ret
              exact ⟨rfl, rfl⟩
            · have g10 : (op == 10) = false := by simpa using h10
              have hz : holdsF op a b = false := by unfold holdsF; rw [if_neg h5, if_neg h6, if_neg h7, if_neg h8, if_neg h9, if_neg h10]
              rw [hz]
              clear hz
              go_enter Try.func39, Try.ntmps39
              go_wp2_with fail
              go_ret
              exact ⟨rfl, rfl⟩
theorem rholds_any (op : Int) (a b : Nat) (w : World) : Calls Try.prog 49 #[.int .i64 op, .float .f64 a, .float .f64 b] w fun e w' => e = .returned (.bool (holdsF op a b)) ∧ w = w' := by
  by_cases h5 : op = 5
  · subst h5
    go_enter Try.func49, Try.ntmps49
    go_wp2_with fail
    go_ret
    exact ⟨rfl, rfl⟩
  · have g5 : (op == 5) = false := by simpa using h5
    by_cases h6 : op = 6
    · subst h6
      go_enter Try.func49, Try.ntmps49
      go_wp2_with fail
      go_ret
      exact ⟨rfl, rfl⟩
    · have g6 : (op == 6) = false := by simpa using h6
      by_cases h7 : op = 7
      · subst h7
        go_enter Try.func49, Try.ntmps49
        go_wp2_with fail
        go_ret
        exact ⟨rfl, rfl⟩
      · have g7 : (op == 7) = false := by simpa using h7
        by_cases h8 : op = 8
        · subst h8
          go_enter Try.func49, Try.ntmps49
          go_wp2_with fail
          go_ret
          exact ⟨rfl, rfl⟩
        · have g8 : (op == 8) = false := by simpa using h8
          by_cases h9 : op = 9
          · subst h9
            go_enter Try.func49, Try.ntmps49
            go_wp2_with fail
            go_ret
            exact ⟨rfl, rfl⟩
          · have g9 : (op == 9) = false := by simpa using h9
            by_cases h10 : op = 10
            · subst h10
              go_enter Try.func49, Try.ntmps49
              go_wp2_with fail
              go_ret
              exact ⟨rfl, rfl⟩
            · have g10 : (op == 10) = false := by simpa using h10
              have hz : holdsF op a b = false := by unfold holdsF; rw [if_neg h5, if_neg h6, if_neg h7, if_neg h8, if_neg h9, if_neg h10]
              rw [hz]
              clear hz
              go_enter Try.func49, Try.ntmps49
              go_wp2_with fail
              go_ret
              exact ⟨rfl, rfl⟩
set_option maxHeartbeats 2000000 in
theorem op_any (op : Int) (a b : Nat) (w : World) : Calls Try.prog 40 #[.int .i64 op, .float .f64 a, .float .f64 b] w fun e w' => e = .returned (.tuple #[.float .f64 (opV op a b), .bool (opOk op)]) ∧ ∃ n, w' = w.drewN n := by
  by_cases h1 : op = 1
  · subst h1
    go_enter Try.func40, Try.ntmps40
    go_wp2_with fail
    refine (canon_any _ _).mono ?_
    rintro e w1 ⟨rfl, rfl⟩
    rw [canon_fop]
    go_wp2_with fail
    go_ret2
    exact ⟨rfl, _, rfl⟩
  · have g1 : (op == 1) = false := by simpa using h1
    by_cases h2 : op = 2
    · subst h2
      go_enter Try.func40, Try.ntmps40
      go_wp2_with fail
      refine (canon_any _ _).mono ?_
      rintro e w1 ⟨rfl, rfl⟩
      rw [canon_fop]
      go_wp2_with fail
      go_ret2
      exact ⟨rfl, _, rfl⟩
    · have g2 : (op == 2) = false := by simpa using h2
      by_cases h3 : op = 3
      · subst h3
        go_enter Try.func40, Try.ntmps40
        go_wp2_with fail
        refine (canon_any _ _).mono ?_
        rintro e w1 ⟨rfl, rfl⟩
        rw [canon_fop]
        go_wp2_with fail
        go_ret2
        exact ⟨rfl, _, rfl⟩
      · have g3 : (op == 3) = false := by simpa using h3
        by_cases h4 : op = 4
        · subst h4
          go_enter Try.func40, Try.ntmps40
          go_wp2_with fail
          refine (canon_any _ _).mono ?_
          rintro e w1 ⟨rfl, rfl⟩
          rw [canon_fop]
          go_wp2_with fail
          go_ret2
          exact ⟨rfl, _, rfl⟩
        · have g4 : (op == 4) = false := by simpa using h4
          by_cases ha : op < 5
          · have ha2 : decide (op < 5) = true := decide_eq_true ha
            have hv : opV op a b = 0 := by unfold opV; rw [if_neg h1, if_neg h2, if_neg h3, if_neg h4, if_pos (.inl ha)]
            have ho : opOk op = false := by unfold opOk; rw [Bool.and_eq_false_iff]; left; exact decide_eq_false (by omega)
            rw [hv, ho]
            clear hv ho
            go_enter Try.func40, Try.ntmps40
            go_wp2_with fail
            go_ret2
            exact ⟨rfl, 0, rfl⟩
          · have ha2 : decide (op < 5) = false := decide_eq_false ha
            by_cases hb : 10 < op
            · have hb2 : decide (10 < op) = true := decide_eq_true hb
              have hv : opV op a b = 0 := by unfold opV; rw [if_neg h1, if_neg h2, if_neg h3, if_neg h4, if_pos (.inr hb)]
              have ho : opOk op = false := by unfold opOk; rw [Bool.and_eq_false_iff]; right; exact decide_eq_false (by omega)
              rw [hv, ho]
              clear hv ho
              go_enter Try.func40, Try.ntmps40
              go_wp2_with fail
              go_ret2
              exact ⟨rfl, 0, rfl⟩
            · have hb2 : decide (10 < op) = false := decide_eq_false hb
              have ho : opOk op = true := by unfold opOk; rw [Bool.and_eq_true]; exact ⟨decide_eq_true (by omega), decide_eq_true (by omega)⟩
              have hv : opV op a b = if holdsF op a b = true then 4607182418800017408 else 0 := by unfold opV; rw [if_neg h1, if_neg h2, if_neg h3, if_neg h4, if_neg (by omega)]
              rw [ho, hv]
              clear ho hv
              have HH := Lib.hid (holds_any op a b w)
              obtain ⟨hr, hrE⟩ : ∃ r, r = holdsF op a b := ⟨_, rfl⟩
              rw [← hrE] at HH ⊢
              clear hrE
              cases hr with
              | true =>
                go_enter Try.func40, Try.ntmps40
                go_wp2_with fail
                refine HH.out.mono ?_
                rintro e w1 ⟨rfl, rfl⟩
                go_wp2_with fail
                go_ret2
                exact ⟨rfl, 0, rfl⟩
              | false =>
                go_enter Try.func40, Try.ntmps40
                go_wp2_with fail
                refine HH.out.mono ?_
                rintro e w1 ⟨rfl, rfl⟩
                go_wp2_with fail
                go_ret2
                exact ⟨rfl, 0, rfl⟩
set_option maxHeartbeats 2000000 in
theorem rop_any (op : Int) (a b : Nat) (w : World) : Calls Try.prog 50 #[.int .i64 op, .float .f64 a, .float .f64 b] w fun e w' => e = .returned (.tuple #[.float .f64 (opV op a b), .bool (opOk op)]) ∧ ∃ n, w' = w.drewN n := by
  by_cases h1 : op = 1
  · subst h1
    go_enter Try.func50, Try.ntmps50
    go_wp2_with fail
    refine (rcanon_any _ _).mono ?_
    rintro e w1 ⟨rfl, rfl⟩
    rw [canon_fop]
    go_wp2_with fail
    go_ret2
    exact ⟨rfl, _, rfl⟩
  · have g1 : (op == 1) = false := by simpa using h1
    by_cases h2 : op = 2
    · subst h2
      go_enter Try.func50, Try.ntmps50
      go_wp2_with fail
      refine (rcanon_any _ _).mono ?_
      rintro e w1 ⟨rfl, rfl⟩
      rw [canon_fop]
      go_wp2_with fail
      go_ret2
      exact ⟨rfl, _, rfl⟩
    · have g2 : (op == 2) = false := by simpa using h2
      by_cases h3 : op = 3
      · subst h3
        go_enter Try.func50, Try.ntmps50
        go_wp2_with fail
        refine (rcanon_any _ _).mono ?_
        rintro e w1 ⟨rfl, rfl⟩
        rw [canon_fop]
        go_wp2_with fail
        go_ret2
        exact ⟨rfl, _, rfl⟩
      · have g3 : (op == 3) = false := by simpa using h3
        by_cases h4 : op = 4
        · subst h4
          go_enter Try.func50, Try.ntmps50
          go_wp2_with fail
          refine (rcanon_any _ _).mono ?_
          rintro e w1 ⟨rfl, rfl⟩
          rw [canon_fop]
          go_wp2_with fail
          go_ret2
          exact ⟨rfl, _, rfl⟩
        · have g4 : (op == 4) = false := by simpa using h4
          by_cases ha : op < 5
          · have ha2 : decide (op < 5) = true := decide_eq_true ha
            have hv : opV op a b = 0 := by unfold opV; rw [if_neg h1, if_neg h2, if_neg h3, if_neg h4, if_pos (.inl ha)]
            have ho : opOk op = false := by unfold opOk; rw [Bool.and_eq_false_iff]; left; exact decide_eq_false (by omega)
            rw [hv, ho]
            clear hv ho
            go_enter Try.func50, Try.ntmps50
            go_wp2_with fail
            go_ret2
            exact ⟨rfl, 0, rfl⟩
          · have ha2 : decide (op < 5) = false := decide_eq_false ha
            by_cases hb : 10 < op
            · have hb2 : decide (10 < op) = true := decide_eq_true hb
              have hv : opV op a b = 0 := by unfold opV; rw [if_neg h1, if_neg h2, if_neg h3, if_neg h4, if_pos (.inr hb)]
              have ho : opOk op = false := by unfold opOk; rw [Bool.and_eq_false_iff]; right; exact decide_eq_false (by omega)
              rw [hv, ho]
              clear hv ho
              go_enter Try.func50, Try.ntmps50
              go_wp2_with fail
              go_ret2
              exact ⟨rfl, 0, rfl⟩
            · have hb2 : decide (10 < op) = false := decide_eq_false hb
              have ho : opOk op = true := by unfold opOk; rw [Bool.and_eq_true]; exact ⟨decide_eq_true (by omega), decide_eq_true (by omega)⟩
              have hv : opV op a b = if holdsF op a b = true then 4607182418800017408 else 0 := by unfold opV; rw [if_neg h1, if_neg h2, if_neg h3, if_neg h4, if_neg (by omega)]
              rw [ho, hv]
              clear ho hv
              have HH := Lib.hid (rholds_any op a b w)
              obtain ⟨hr, hrE⟩ : ∃ r, r = holdsF op a b := ⟨_, rfl⟩
              rw [← hrE] at HH ⊢
              clear hrE
              cases hr with
              | true =>
                go_enter Try.func50, Try.ntmps50
                go_wp2_with fail
                refine HH.out.mono ?_
                rintro e w1 ⟨rfl, rfl⟩
                go_wp2_with fail
                go_ret2
                exact ⟨rfl, 0, rfl⟩
              | false =>
                go_enter Try.func50, Try.ntmps50
                go_wp2_with fail
                refine HH.out.mono ?_
                rintro e w1 ⟨rfl, rfl⟩
                go_wp2_with fail
                go_ret2
                exact ⟨rfl, 0, rfl⟩
end Go.Proofs.Ytkflhfdpdgnbfaa
