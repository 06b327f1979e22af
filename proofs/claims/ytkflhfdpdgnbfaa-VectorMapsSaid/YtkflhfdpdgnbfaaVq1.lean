/- Functions of a value: both sides' walks (printed by gen_vq1.py). -/
import Derived.Test.YtkflhfdpdgnbfaaVo5
namespace Go.Proofs.Ytkflhfdpdgnbfaa
open Go Go.RowKit
set_option linter.unusedVariables false
set_option linter.unusedSimpArgs false
set_option maxRecDepth 100000
def fabs (v : Nat) : Nat := (bits .andNot .u64 (v : Int) 9223372036854775808).toNat
def MF1 : Nat := 13830554455654793216
def fnV (fn : Int) (v arg : Nat) : Nat :=
  if fn = 1 then canon (fabs v)
  else if fn = 2 then canon (fneg v)
  else if fn = 3 then (if (FloatKind.f64.format.order v 0 == some .gt) = true then 4607182418800017408 else if (FloatKind.f64.format.order v 0 == some .lt) = true then 13830554455654793216 else canon v)
  else if (FloatKind.f64.format.order v v != some .eq) = true then CN
  else if (FloatKind.f64.format.order arg arg != some .eq) = true then CN
  else if fn = 4 then (if (FloatKind.f64.format.order v arg == some .lt) = true then canon arg else canon v)
  else (if (FloatKind.f64.format.order v arg == some .gt) = true then canon arg else canon v)
def fnOk (fn : Int) : Bool := decide (1 ≤ fn) && decide (fn ≤ 5)
theorem abs_any (v : Nat) (w : World) : Calls Try.prog 67 #[.float .f64 v] w fun e w' => e = .returned (.float .f64 (fabs v)) ∧ w = w' := by
  have hf := call_frombits
  have hg := call_bits
  go_enter Try.func67, Try.ntmps67
  go_wp2_with fail
  go_ret
  exact ⟨rfl, rfl⟩
theorem rabs_any (v : Nat) (w : World) : Calls Try.prog 68 #[.float .f64 v] w fun e w' => e = .returned (.float .f64 (fabs v)) ∧ w = w' := by
  have hf := call_frombits
  have hg := call_bits
  go_enter Try.func68, Try.ntmps68
  go_wp2_with fail
  go_ret
  exact ⟨rfl, rfl⟩
theorem xor_neg {v : Nat} (h : v < 18446744073709551616) : (bits .xor .u64 (v : Int) 9223372036854775808).toNat = fneg v := by
  have e1 : (BitVec.ofInt 64 (v : Int) ^^^ BitVec.ofInt 64 9223372036854775808).toNat = v ^^^ 9223372036854775808 := by
    rw [BitVec.toNat_xor, BitVec.toNat_ofInt, BitVec.toNat_ofInt]
    congr 1
    omega
  have e2 : v ^^^ 9223372036854775808 < 18446744073709551616 := Nat.xor_lt_two_pow (n := 64) h (by decide)
  unfold bits
  show (IntKind.u64.wrap ((BitVec.ofInt 64 (v : Int) ^^^ BitVec.ofInt 64 9223372036854775808).toNat : Int)).toNat = _
  rw [e1, IntKind.wrap_u64, Int.emod_eq_of_lt (by omega) (by omega)]
  show v ^^^ 9223372036854775808 = v ^^^ 2 ^ 63
  rfl
theorem canon_one : canon 4607182418800017408 = 4607182418800017408 := by decide +kernel
theorem canon_mone : canon 13830554455654793216 = 13830554455654793216 := by decide +kernel
theorem canon_CN : canon CN = CN := canon_nan CN_nan
set_option maxHeartbeats 400000 in
theorem fn_any (fn : Int) (v arg : Nat) (w : World) : Calls Try.prog 45 #[.int .i64 fn, .float .f64 v, .float .f64 arg] w fun e w' => (∃ y, e = .returned (.tuple #[.float .f64 y, .bool (fnOk fn)]) ∧ (fnOk fn = true → y = fnV fn v arg)) ∧ ∃ n, w' = w.drewN n := by
  have hf := call_frombits
  have hg := call_bits
  by_cases h1 : fn = 1
  · subst h1
    go_enter Try.func45, Try.ntmps45
    go_wp2_with (first | (go_at_call 29; refine (canon_any _ _).mono ?_; rintro e w9 ⟨rfl, rfl⟩) | (go_at_call 67; refine (abs_any _ _).mono ?_; rintro e w9 ⟨rfl, rfl⟩) | (go_at_call 56; refine (call_nan _).mono ?_; rintro e w9 ⟨rfl, rfl⟩))
    go_ret2
    exact ⟨⟨_, rfl, fun _ => by rfl⟩, 0, rfl⟩
  · have g1 : (fn == 1) = false := by simpa using h1
    by_cases h2 : fn = 2
    · subst h2
      go_enter Try.func45, Try.ntmps45
      go_wp2_with (first | (go_at_call 29; refine (canon_any _ _).mono ?_; rintro e w9 ⟨rfl, rfl⟩) | (go_at_call 67; refine (abs_any _ _).mono ?_; rintro e w9 ⟨rfl, rfl⟩) | (go_at_call 56; refine (call_nan _).mono ?_; rintro e w9 ⟨rfl, rfl⟩))
      go_ret2
      exact ⟨⟨_, rfl, fun _ => by rfl⟩, 0, rfl⟩
    · have g2 : (fn == 2) = false := by simpa using h2
      by_cases h3 : fn = 3
      · subst h3
        have hV : fnV 3 v arg = if (FloatKind.f64.format.order v 0 == some .gt) = true then 4607182418800017408 else if (FloatKind.f64.format.order v 0 == some .lt) = true then 13830554455654793216 else canon v := rfl
        obtain ⟨c, hc⟩ : ∃ c, (FloatKind.f64.format.order v 0 == some .gt) = c := ⟨_, rfl⟩
        obtain ⟨d, hd⟩ : ∃ d, (FloatKind.f64.format.order v 0 == some .lt) = d := ⟨_, rfl⟩
        rw [hc, hd] at hV
        have HVV := Lib.hid hV
        clear hV
        cases c with
        | true =>
          go_enter Try.func45, Try.ntmps45
          go_wp2_with (first | (go_at_call 29; refine (canon_any _ _).mono ?_; rintro e w9 ⟨rfl, rfl⟩) | (go_at_call 67; refine (abs_any _ _).mono ?_; rintro e w9 ⟨rfl, rfl⟩) | (go_at_call 56; refine (call_nan _).mono ?_; rintro e w9 ⟨rfl, rfl⟩))
          go_ret2
          exact ⟨⟨_, rfl, fun _ => by show canon 4607182418800017408 = _; rw [HVV.out, canon_one]; rfl⟩, 0, rfl⟩
        | false =>
          cases d with
          | true =>
            go_enter Try.func45, Try.ntmps45
            go_wp2_with (first | (go_at_call 29; refine (canon_any _ _).mono ?_; rintro e w9 ⟨rfl, rfl⟩) | (go_at_call 67; refine (abs_any _ _).mono ?_; rintro e w9 ⟨rfl, rfl⟩) | (go_at_call 56; refine (call_nan _).mono ?_; rintro e w9 ⟨rfl, rfl⟩))
            go_ret2
            exact ⟨⟨_, rfl, fun _ => by show canon 13830554455654793216 = _; rw [HVV.out, canon_mone]; rfl⟩, 0, rfl⟩
          | false =>
            go_enter Try.func45, Try.ntmps45
            go_wp2_with (first | (go_at_call 29; refine (canon_any _ _).mono ?_; rintro e w9 ⟨rfl, rfl⟩) | (go_at_call 67; refine (abs_any _ _).mono ?_; rintro e w9 ⟨rfl, rfl⟩) | (go_at_call 56; refine (call_nan _).mono ?_; rintro e w9 ⟨rfl, rfl⟩))
            go_ret2
            exact ⟨⟨_, rfl, fun _ => by show canon v = _; rw [HVV.out]; rfl⟩, 0, rfl⟩
      · have g3 : (fn == 3) = false := by simpa using h3
        by_cases h45 : fn = 4 ∨ fn = 5
        · obtain ⟨c, hc⟩ : ∃ c, (FloatKind.f64.format.order v v != some .eq) = c := ⟨_, rfl⟩
          obtain ⟨d, hd⟩ : ∃ d, (FloatKind.f64.format.order arg arg != some .eq) = d := ⟨_, rfl⟩
          rcases h45 with rfl | rfl
          · have hV : fnV 4 v arg = if (FloatKind.f64.format.order v v != some .eq) = true then CN else if (FloatKind.f64.format.order arg arg != some .eq) = true then CN else if (FloatKind.f64.format.order v arg == some .lt) = true then canon arg else canon v := rfl
            obtain ⟨f, hF⟩ : ∃ f, (FloatKind.f64.format.order v arg == some .lt) = f := ⟨_, rfl⟩
            rw [hc, hd, hF] at hV
            have HVV := Lib.hid hV
            clear hV
            cases c with
            | true =>
              go_enter Try.func45, Try.ntmps45
              go_wp2_with (first | (go_at_call 29; refine (canon_any _ _).mono ?_; rintro e w9 ⟨rfl, rfl⟩) | (go_at_call 67; refine (abs_any _ _).mono ?_; rintro e w9 ⟨rfl, rfl⟩) | (go_at_call 56; refine (call_nan _).mono ?_; rintro e w9 ⟨rfl, rfl⟩))
              go_ret2
              exact ⟨⟨_, rfl, fun _ => by show canon CN = _; rw [HVV.out, canon_CN]; rfl⟩, 0, rfl⟩
            | false =>
              cases d with
              | true =>
                go_enter Try.func45, Try.ntmps45
                go_wp2_with (first | (go_at_call 29; refine (canon_any _ _).mono ?_; rintro e w9 ⟨rfl, rfl⟩) | (go_at_call 67; refine (abs_any _ _).mono ?_; rintro e w9 ⟨rfl, rfl⟩) | (go_at_call 56; refine (call_nan _).mono ?_; rintro e w9 ⟨rfl, rfl⟩))
                go_ret2
                exact ⟨⟨_, rfl, fun _ => by show canon CN = _; rw [HVV.out, canon_CN]; rfl⟩, 0, rfl⟩
              | false =>
                cases f with
                | true =>
                  go_enter Try.func45, Try.ntmps45
                  go_wp2_with (first | (go_at_call 29; refine (canon_any _ _).mono ?_; rintro e w9 ⟨rfl, rfl⟩) | (go_at_call 67; refine (abs_any _ _).mono ?_; rintro e w9 ⟨rfl, rfl⟩) | (go_at_call 56; refine (call_nan _).mono ?_; rintro e w9 ⟨rfl, rfl⟩))
                  go_ret2
                  exact ⟨⟨_, rfl, fun _ => by show canon arg = _; rw [HVV.out]; rfl⟩, 0, rfl⟩
                | false =>
                  go_enter Try.func45, Try.ntmps45
                  go_wp2_with (first | (go_at_call 29; refine (canon_any _ _).mono ?_; rintro e w9 ⟨rfl, rfl⟩) | (go_at_call 67; refine (abs_any _ _).mono ?_; rintro e w9 ⟨rfl, rfl⟩) | (go_at_call 56; refine (call_nan _).mono ?_; rintro e w9 ⟨rfl, rfl⟩))
                  go_ret2
                  exact ⟨⟨_, rfl, fun _ => by show canon v = _; rw [HVV.out]; rfl⟩, 0, rfl⟩
          · have hV : fnV 5 v arg = if (FloatKind.f64.format.order v v != some .eq) = true then CN else if (FloatKind.f64.format.order arg arg != some .eq) = true then CN else if (FloatKind.f64.format.order v arg == some .gt) = true then canon arg else canon v := rfl
            obtain ⟨f, hF⟩ : ∃ f, (FloatKind.f64.format.order v arg == some .gt) = f := ⟨_, rfl⟩
            rw [hc, hd, hF] at hV
            have HVV := Lib.hid hV
            clear hV
            cases c with
            | true =>
              go_enter Try.func45, Try.ntmps45
              go_wp2_with (first | (go_at_call 29; refine (canon_any _ _).mono ?_; rintro e w9 ⟨rfl, rfl⟩) | (go_at_call 67; refine (abs_any _ _).mono ?_; rintro e w9 ⟨rfl, rfl⟩) | (go_at_call 56; refine (call_nan _).mono ?_; rintro e w9 ⟨rfl, rfl⟩))
              go_ret2
              exact ⟨⟨_, rfl, fun _ => by show canon CN = _; rw [HVV.out, canon_CN]; rfl⟩, 0, rfl⟩
            | false =>
              cases d with
              | true =>
                go_enter Try.func45, Try.ntmps45
                go_wp2_with (first | (go_at_call 29; refine (canon_any _ _).mono ?_; rintro e w9 ⟨rfl, rfl⟩) | (go_at_call 67; refine (abs_any _ _).mono ?_; rintro e w9 ⟨rfl, rfl⟩) | (go_at_call 56; refine (call_nan _).mono ?_; rintro e w9 ⟨rfl, rfl⟩))
                go_ret2
                exact ⟨⟨_, rfl, fun _ => by show canon CN = _; rw [HVV.out, canon_CN]; rfl⟩, 0, rfl⟩
              | false =>
                cases f with
                | true =>
                  go_enter Try.func45, Try.ntmps45
                  go_wp2_with (first | (go_at_call 29; refine (canon_any _ _).mono ?_; rintro e w9 ⟨rfl, rfl⟩) | (go_at_call 67; refine (abs_any _ _).mono ?_; rintro e w9 ⟨rfl, rfl⟩) | (go_at_call 56; refine (call_nan _).mono ?_; rintro e w9 ⟨rfl, rfl⟩))
                  go_ret2
                  exact ⟨⟨_, rfl, fun _ => by show canon arg = _; rw [HVV.out]; rfl⟩, 0, rfl⟩
                | false =>
                  go_enter Try.func45, Try.ntmps45
                  go_wp2_with (first | (go_at_call 29; refine (canon_any _ _).mono ?_; rintro e w9 ⟨rfl, rfl⟩) | (go_at_call 67; refine (abs_any _ _).mono ?_; rintro e w9 ⟨rfl, rfl⟩) | (go_at_call 56; refine (call_nan _).mono ?_; rintro e w9 ⟨rfl, rfl⟩))
                  go_ret2
                  exact ⟨⟨_, rfl, fun _ => by show canon v = _; rw [HVV.out]; rfl⟩, 0, rfl⟩
        · have g4 : (fn == 4) = false := by simpa using fun h => h45 (.inl h)
          have g5 : (fn == 5) = false := by simpa using fun h => h45 (.inr h)
          have ho : fnOk fn = false := by
            unfold fnOk
            rw [Bool.and_eq_false_iff]
            by_cases h : 1 ≤ fn
            · right; exact decide_eq_false (by omega)
            · left; exact decide_eq_false h
          rw [ho]
          clear ho
          go_enter Try.func45, Try.ntmps45
          go_wp2_with (first | (go_at_call 29; refine (canon_any _ _).mono ?_; rintro e w9 ⟨rfl, rfl⟩) | (go_at_call 67; refine (abs_any _ _).mono ?_; rintro e w9 ⟨rfl, rfl⟩) | (go_at_call 56; refine (call_nan _).mono ?_; rintro e w9 ⟨rfl, rfl⟩))
          go_ret2
          exact ⟨⟨_, rfl, fun h => by cases h⟩, 0, rfl⟩
set_option maxHeartbeats 400000 in
theorem rfn_any (fn : Int) (v arg : Nat) (w : World) (hv : v < 18446744073709551616) : Calls Try.prog 47 #[.int .i64 fn, .float .f64 v, .float .f64 arg] w fun e w' => (∃ y, e = .returned (.tuple #[.float .f64 y, .bool (fnOk fn)]) ∧ (fnOk fn = true → canon y = fnV fn v arg)) ∧ ∃ n, w' = w.drewN n := by
  have hf := call_frombits
  have hg := call_bits
  by_cases h1 : fn = 1
  · subst h1
    go_enter Try.func47, Try.ntmps47
    go_wp2_with (first | (go_at_call 35; refine (rcanon_any _ _).mono ?_; rintro e w9 ⟨rfl, rfl⟩) | (go_at_call 68; refine (rabs_any _ _).mono ?_; rintro e w9 ⟨rfl, rfl⟩))
    go_ret2
    exact ⟨⟨_, rfl, fun _ => by show canon (canon (fabs v)) = canon (fabs v); exact canon_canon _⟩, 0, rfl⟩
  · have g1 : (fn == 1) = false := by simpa using h1
    by_cases h2 : fn = 2
    · subst h2
      go_enter Try.func47, Try.ntmps47
      go_wp2_with (first | (go_at_call 35; refine (rcanon_any _ _).mono ?_; rintro e w9 ⟨rfl, rfl⟩) | (go_at_call 68; refine (rabs_any _ _).mono ?_; rintro e w9 ⟨rfl, rfl⟩))
      go_ret2
      exact ⟨⟨_, rfl, fun _ => by show canon (canon (bits .xor .u64 (v : Int) 9223372036854775808).toNat) = canon (fneg v); rw [xor_neg hv]; exact canon_canon _⟩, 0, rfl⟩
    · have g2 : (fn == 2) = false := by simpa using h2
      by_cases h3 : fn = 3
      · subst h3
        have hV : fnV 3 v arg = if (FloatKind.f64.format.order v 0 == some .gt) = true then 4607182418800017408 else if (FloatKind.f64.format.order v 0 == some .lt) = true then 13830554455654793216 else canon v := rfl
        obtain ⟨c, hc⟩ : ∃ c, (FloatKind.f64.format.order v 0 == some .gt) = c := ⟨_, rfl⟩
        obtain ⟨d, hd⟩ : ∃ d, (FloatKind.f64.format.order v 0 == some .lt) = d := ⟨_, rfl⟩
        rw [hc, hd] at hV
        have HVV := Lib.hid hV
        clear hV
        cases c with
        | true =>
          go_enter Try.func47, Try.ntmps47
          go_wp2_with (first | (go_at_call 35; refine (rcanon_any _ _).mono ?_; rintro e w9 ⟨rfl, rfl⟩) | (go_at_call 68; refine (rabs_any _ _).mono ?_; rintro e w9 ⟨rfl, rfl⟩))
          go_ret2
          exact ⟨⟨_, rfl, fun _ => by show canon 4607182418800017408 = _; rw [HVV.out, canon_one]; rfl⟩, 0, rfl⟩
        | false =>
          cases d with
          | true =>
            go_enter Try.func47, Try.ntmps47
            go_wp2_with (first | (go_at_call 35; refine (rcanon_any _ _).mono ?_; rintro e w9 ⟨rfl, rfl⟩) | (go_at_call 68; refine (rabs_any _ _).mono ?_; rintro e w9 ⟨rfl, rfl⟩))
            go_ret2
            exact ⟨⟨_, rfl, fun _ => by show canon 13830554455654793216 = _; rw [HVV.out, canon_mone]; rfl⟩, 0, rfl⟩
          | false =>
            go_enter Try.func47, Try.ntmps47
            go_wp2_with (first | (go_at_call 35; refine (rcanon_any _ _).mono ?_; rintro e w9 ⟨rfl, rfl⟩) | (go_at_call 68; refine (rabs_any _ _).mono ?_; rintro e w9 ⟨rfl, rfl⟩))
            go_ret2
            exact ⟨⟨_, rfl, fun _ => by show canon (canon v) = _; rw [HVV.out, canon_canon]; rfl⟩, 0, rfl⟩
      · have g3 : (fn == 3) = false := by simpa using h3
        by_cases h45 : fn = 4 ∨ fn = 5
        · obtain ⟨c, hc⟩ : ∃ c, (FloatKind.f64.format.order v v != some .eq) = c := ⟨_, rfl⟩
          obtain ⟨d, hd⟩ : ∃ d, (FloatKind.f64.format.order arg arg != some .eq) = d := ⟨_, rfl⟩
          rcases h45 with rfl | rfl
          · have hV : fnV 4 v arg = if (FloatKind.f64.format.order v v != some .eq) = true then CN else if (FloatKind.f64.format.order arg arg != some .eq) = true then CN else if (FloatKind.f64.format.order v arg == some .lt) = true then canon arg else canon v := rfl
            obtain ⟨f, hF⟩ : ∃ f, (FloatKind.f64.format.order v arg == some .lt) = f := ⟨_, rfl⟩
            rw [hc, hd, hF] at hV
            have HVV := Lib.hid hV
            clear hV
            cases c with
            | true =>
              go_enter Try.func47, Try.ntmps47
              go_wp2_with (first | (go_at_call 35; refine (rcanon_any _ _).mono ?_; rintro e w9 ⟨rfl, rfl⟩) | (go_at_call 68; refine (rabs_any _ _).mono ?_; rintro e w9 ⟨rfl, rfl⟩))
              go_ret2
              exact ⟨⟨_, rfl, fun _ => by show canon (canon (fop .add v arg w)) = _; rw [HVV.out, canon_canon, canon_fop]; exact cop_nan_l .add arg (by unfold fnan; first | exact hc | exact hd)⟩, _, rfl⟩
            | false =>
              cases d with
              | true =>
                go_enter Try.func47, Try.ntmps47
                go_wp2_with (first | (go_at_call 35; refine (rcanon_any _ _).mono ?_; rintro e w9 ⟨rfl, rfl⟩) | (go_at_call 68; refine (rabs_any _ _).mono ?_; rintro e w9 ⟨rfl, rfl⟩))
                go_ret2
                exact ⟨⟨_, rfl, fun _ => by show canon (canon (fop .add v arg w)) = _; rw [HVV.out, canon_canon, canon_fop]; exact cop_nan_r .add v (by unfold fnan; first | exact hc | exact hd)⟩, _, rfl⟩
              | false =>
                cases f with
                | true =>
                  go_enter Try.func47, Try.ntmps47
                  go_wp2_with (first | (go_at_call 35; refine (rcanon_any _ _).mono ?_; rintro e w9 ⟨rfl, rfl⟩) | (go_at_call 68; refine (rabs_any _ _).mono ?_; rintro e w9 ⟨rfl, rfl⟩))
                  go_ret2
                  exact ⟨⟨_, rfl, fun _ => by show canon arg = _; rw [HVV.out]; rfl⟩, 0, rfl⟩
                | false =>
                  go_enter Try.func47, Try.ntmps47
                  go_wp2_with (first | (go_at_call 35; refine (rcanon_any _ _).mono ?_; rintro e w9 ⟨rfl, rfl⟩) | (go_at_call 68; refine (rabs_any _ _).mono ?_; rintro e w9 ⟨rfl, rfl⟩))
                  go_ret2
                  exact ⟨⟨_, rfl, fun _ => by show canon v = _; rw [HVV.out]; rfl⟩, 0, rfl⟩
          · have hV : fnV 5 v arg = if (FloatKind.f64.format.order v v != some .eq) = true then CN else if (FloatKind.f64.format.order arg arg != some .eq) = true then CN else if (FloatKind.f64.format.order v arg == some .gt) = true then canon arg else canon v := rfl
            obtain ⟨f, hF⟩ : ∃ f, (FloatKind.f64.format.order v arg == some .gt) = f := ⟨_, rfl⟩
            rw [hc, hd, hF] at hV
            have HVV := Lib.hid hV
            clear hV
            cases c with
            | true =>
              go_enter Try.func47, Try.ntmps47
              go_wp2_with (first | (go_at_call 35; refine (rcanon_any _ _).mono ?_; rintro e w9 ⟨rfl, rfl⟩) | (go_at_call 68; refine (rabs_any _ _).mono ?_; rintro e w9 ⟨rfl, rfl⟩))
              go_ret2
              exact ⟨⟨_, rfl, fun _ => by show canon (canon (fop .add v arg w)) = _; rw [HVV.out, canon_canon, canon_fop]; exact cop_nan_l .add arg (by unfold fnan; first | exact hc | exact hd)⟩, _, rfl⟩
            | false =>
              cases d with
              | true =>
                go_enter Try.func47, Try.ntmps47
                go_wp2_with (first | (go_at_call 35; refine (rcanon_any _ _).mono ?_; rintro e w9 ⟨rfl, rfl⟩) | (go_at_call 68; refine (rabs_any _ _).mono ?_; rintro e w9 ⟨rfl, rfl⟩))
                go_ret2
                exact ⟨⟨_, rfl, fun _ => by show canon (canon (fop .add v arg w)) = _; rw [HVV.out, canon_canon, canon_fop]; exact cop_nan_r .add v (by unfold fnan; first | exact hc | exact hd)⟩, _, rfl⟩
              | false =>
                cases f with
                | true =>
                  go_enter Try.func47, Try.ntmps47
                  go_wp2_with (first | (go_at_call 35; refine (rcanon_any _ _).mono ?_; rintro e w9 ⟨rfl, rfl⟩) | (go_at_call 68; refine (rabs_any _ _).mono ?_; rintro e w9 ⟨rfl, rfl⟩))
                  go_ret2
                  exact ⟨⟨_, rfl, fun _ => by show canon arg = _; rw [HVV.out]; rfl⟩, 0, rfl⟩
                | false =>
                  go_enter Try.func47, Try.ntmps47
                  go_wp2_with (first | (go_at_call 35; refine (rcanon_any _ _).mono ?_; rintro e w9 ⟨rfl, rfl⟩) | (go_at_call 68; refine (rabs_any _ _).mono ?_; rintro e w9 ⟨rfl, rfl⟩))
                  go_ret2
                  exact ⟨⟨_, rfl, fun _ => by show canon v = _; rw [HVV.out]; rfl⟩, 0, rfl⟩
        · have g4 : (fn == 4) = false := by simpa using fun h => h45 (.inl h)
          have g5 : (fn == 5) = false := by simpa using fun h => h45 (.inr h)
          have ho : fnOk fn = false := by
            unfold fnOk
            rw [Bool.and_eq_false_iff]
            by_cases h : 1 ≤ fn
            · right; exact decide_eq_false (by omega)
            · left; exact decide_eq_false h
          rw [ho]
          clear ho
          go_enter Try.func47, Try.ntmps47
          go_wp2_with (first | (go_at_call 35; refine (rcanon_any _ _).mono ?_; rintro e w9 ⟨rfl, rfl⟩) | (go_at_call 68; refine (rabs_any _ _).mono ?_; rintro e w9 ⟨rfl, rfl⟩))
          go_ret2
          exact ⟨⟨_, rfl, fun h => by cases h⟩, 0, rfl⟩
end Go.Proofs.Ytkflhfdpdgnbfaa
