/- The walk of WindowFns. -/
import Derived.Test.YtdhahnagnemgaaaWin12
import Derived.Test.YtdhahnagnemgaaaWin13
import Derived.Test.YtdhahnagnemgaaaWin14
import Derived.Test.YtdhahnagnemgaaaWin15
import Derived.Deep.RegionLaw
namespace Go.Proofs.Ytdhahnagnemgaaa
open Go.RowKit
set_option linter.unusedVariables false
set_option linter.unusedSimpArgs false

theorem fnR_canon (fn fr to : Int) (l : List (Int × Nat)) : canon (fnR fn fr to l).1 = (fnR fn fr to l).1 := by
  unfold fnR
  split
  · rcases hv : vals fr to l with _ | ⟨x, t⟩
    · exact canon_zero
    · show canon (if t.length + 1 < need fn then ((0, false) : Nat × Bool) else (fnV fn.toNat x t (to - fr), true)).1 = (if t.length + 1 < need fn then ((0, false) : Nat × Bool) else (fnV fn.toNat x t (to - fr), true)).1
      split
      · exact canon_zero
      · exact canon_canon _
  · exact canon_zero
theorem fsame_self (a : Nat) : fsame a a = true := by simp [fsame]

set_option maxRecDepth 100000 in
set_option maxHeartbeats 8000000 in
theorem fns_walk (v : Value) (l : List (Int × Nat)) (fr to fn : Int) (w : World) (h : Sl tenc w v l) :
    Calls Try.prog 9 #[v, .int .i64 fr, .int .i64 to, .int .i64 fn] w fun e w' => e = .returned (.bool true) ∧ Below w.heap.size w w' := by
  have hf := call_bits
  have H := Lib.hid h
  clear h
  go_enter Try.func9, Try.ntmps9
  go_wp2_with fail
  refine (known8 _).mono ?_
  rintro e w1 ⟨rfl, hb1⟩
  have HB1 := Lib.hid hb1
  clear hb1
  go_wp2_with fail
  refine (right_any v l _ (H.out.below HB1.out (Nat.le_refl _))).mono ?_
  rintro e w2 ⟨q, rfl, hq, hb2⟩
  have HB2 := Lib.hid (HB1.out.trans (hb2.mono HB1.out.size))
  clear hb2
  cases q
  · go_wp2_with fail
    go_ret
    exact ⟨rfl, HB2.out⟩
  · have hl := hq rfl
    clear hq
    go_wp2_with fail
    refine (in_any fr _).mono ?_
    rintro e w3 ⟨rfl, rfl⟩
    cases hif : inB fr
    · go_wp2_with fail
      go_ret
      exact ⟨rfl, HB2.out⟩
    · go_wp2_with fail
      refine (in_any to _).mono ?_
      rintro e w3 ⟨rfl, rfl⟩
      cases hit : inB to
      · go_wp2_with fail
        go_ret
        exact ⟨rfl, HB2.out⟩
      · have hfr : -1152921504606846976 ≤ fr ∧ fr ≤ 1152921504606846976 := by simp [inB] at hif; omega
        have hto : -1152921504606846976 ≤ to ∧ to ≤ 1152921504606846976 := by simp [inB] at hit; omega
        have HFR := Lib.hid hfr
        have HTO := Lib.hid hto
        clear hif hit hfr hto
        go_wp2_with fail
        go_loopw [9] (fun i wr => ∃ n : Int, 0 ≤ n ∧ n ≤ 16 ∧ i = .int .i64 n ∧ Below w.heap.size w wr) (fun i _ => 16 - (intOf i).toNat)
        case atStart => exact ⟨0, by omega, by omega, rfl, HB2.out⟩
        case round =>
          obtain ⟨n, hn1, hn2, rfl, hb⟩ := hrel
          have HB := Lib.hid hb
          clear hb
          by_cases hlt : n ≤ 15
          · have ha := fn_any n v l fr to
            have hr := rfn_any n v l fr to
            have hc := fnR_canon n fr to l
            obtain ⟨A, B, hAB⟩ : ∃ A B, (A, B) = fnR n fr to l := ⟨_, _, rfl⟩
            rw [← hAB] at ha hr hc
            have HA := Lib.hid ha
            have HRA := Lib.hid hr
            have HC := Lib.hid hc
            clear ha hr hc hAB
            go_wp2_with fail
            refine (HA.out _ (H.out.below HB.out (Nat.le_refl _)) (by omega) HFR.out HTO.out).mono ?_
            rintro e w3 ⟨rfl, hb3⟩
            have HB3 := Lib.hid (HB.out.trans (hb3.mono HB.out.size))
            clear hb3
            go_wp2_with fail
            refine (HRA.out _ (H.out.below HB3.out (Nat.le_refl _)) (by omega) HFR.out HTO.out).mono ?_
            rintro e w4 ⟨rfl, hb4⟩
            have HB4 := Lib.hid (HB3.out.trans (hb4.mono HB3.out.size))
            clear hb4
            go_wp2_with fail
            refine (rbits_any _ _).mono ?_
            rw [HC.out]
            rintro e w5 ⟨rfl, rfl⟩
            go_wp2_with fail
            go_roundw
            case rel => exact ⟨n + 1, by omega, by omega, by go_num, HB4.out⟩
            case measure => simp [intOf]; omega
          · obtain rfl : n = 16 := by omega
            have ha := fn_any fn v l fr to
            have hr := rfn_any fn v l fr to
            obtain ⟨A, B, hAB⟩ : ∃ A B, (A, B) = fnR fn fr to l := ⟨_, _, rfl⟩
            rw [← hAB] at ha hr
            have HA := Lib.hid ha
            have HRA := Lib.hid hr
            clear ha hr hAB
            go_wp2_with fail
            refine (HA.out _ (H.out.below HB.out (Nat.le_refl _)) (by omega) HFR.out HTO.out).mono ?_
            rintro e w3 ⟨rfl, hb3⟩
            have HB3 := Lib.hid (HB.out.trans (hb3.mono HB.out.size))
            clear hb3
            go_wp2_with fail
            refine (HRA.out _ (H.out.below HB3.out (Nat.le_refl _)) (by omega) HFR.out HTO.out).mono ?_
            rintro e w4 ⟨rfl, hb4⟩
            have HB4 := Lib.hid (HB3.out.trans (hb4.mono HB3.out.size))
            clear hb4
            go_wp2_with fail
            refine (cut8_any v l fr to _ (H.out.below HB4.out (Nat.le_refl _)) (by omega)).mono ?_
            rintro e w5 ⟨x1, rfl, hs1, hb5⟩
            have HB5 := Lib.hid (HB4.out.trans (hb5.mono HB4.out.size))
            clear hb5
            go_wp2_with fail
            refine (rcut8_any v l fr to _ (H.out.below HB5.out (Nat.le_refl _)) (by omega)).mono ?_
            rintro e w6 ⟨x2, rfl, hs2, hb6⟩
            have HB6 := Lib.hid (HB5.out.trans (hb6.mono HB5.out.size))
            have hs1 := hs1.below hb6 (Nat.le_refl _)
            obtain ⟨xs, hxs⟩ : ∃ xs, xs = cutL fr to l := ⟨_, rfl⟩
            have hxl : xs.length ≤ l.length := by rw [hxs]; exact cut_len _ _ _
            rw [← hxs] at hs1 hs2
            obtain ⟨a1, c1, rfl, hle1, -, hc1⟩ := hs1.split tenc_len
            obtain ⟨a2, c2, rfl, hle2, -, hc2⟩ := hs2.split tenc_len
            have HC1 := Lib.hid hc1
            have HC2 := Lib.hid hc2
            have hss := rsame_any A A
            rw [fsame_self] at hss
            have HSS := Lib.hid hss
            clear hb6 hs1 hs2 hc1 hc2 hss hxs
            go_wp2_with fail
            refine (HSS.out _).mono ?_
            rintro e w7 ⟨rfl, rfl⟩
            go_wp2_with fail
            go_loopw [20] (fun i wr => ∃ k : Nat, k ≤ xs.length ∧ i = .int .i64 k ∧ Below w6.heap.size w6 wr) (fun i _ => xs.length - (intOf i).toNat)
            case atStart => exact ⟨0, Nat.zero_le _, rfl, Below.refl _ _⟩
            case round =>
              obtain ⟨k, hk, rfl, hb⟩ := hrel
              have HBk := Lib.hid hb
              by_cases hlt : k < xs.length
              · obtain ⟨b1, o1, rfl, hd1⟩ := HC1.out k hlt
                obtain ⟨b2, o2, rfl, hd2⟩ := HC2.out k hlt
                obtain ⟨x, hx⟩ : ∃ x, x = xs[k] := ⟨_, rfl⟩
                rw [← hx] at hd1 hd2
                obtain ⟨t, y⟩ := x
                have k0 : wr.cell? ⟨b1, o1 + k * 2, none⟩ = some (.int .i64 t) := cell_below hb (Nat.le_refl _) (hd1 0 _ rfl)
                have k1 : wr.cell? ⟨b1, o1 + k * 2 + 1, none⟩ = some (.float .f64 y) := cell_below hb (Nat.le_refl _) (hd1 1 _ rfl)
                have j0 : wr.cell? ⟨b2, o2 + k * 2, none⟩ = some (.int .i64 t) := cell_below hb (Nat.le_refl _) (hd2 0 _ rfl)
                have j1 : wr.cell? ⟨b2, o2 + k * 2 + 1, none⟩ = some (.float .f64 y) := cell_below hb (Nat.le_refl _) (hd2 1 _ rfl)
                have hss := rsame_any y y
                rw [fsame_self] at hss
                have HS := Lib.hid hss
                clear hd1 hd2 hx hb hss
                have hk0 : (0 : Int) ≤ (k : Int) := Int.natCast_nonneg _
                have hk1 : (k : Int) < (xs.length : Int) := by omega
                go_wp2_with fail
                go_quiet ((go_at_call 47; first | refine qs (HS.out _) | refine quiet_same (HS.out _)))
                go_wp2_with fail
                go_roundw
                case rel => exact ⟨k + 1, by omega, by go_num, below_drewN HBk.out _⟩
                case measure => simp [intOf]; omega
              · obtain rfl : k = xs.length := by omega
                clear hb
                go_wp2_with fail
                go_ret
                exact ⟨rfl, HB6.out.trans (HBk.out.mono HB6.out.size)⟩
theorem windowFns_walk (v : Value) (l : List (Int × Nat)) (fr to fn : Int) (w : World) (h : Sl tenc w v l) {p q r : Prop} (_ : p) (_ : q) (_ : r) :
    Calls Try.prog 9 #[v, .int .i64 fr, .int .i64 to, .int .i64 fn] w fun e w' => e = .returned (.bool true) ∧ Below w.heap.size w w' := fns_walk v l fr to fn w h
end Go.Proofs.Ytdhahnagnemgaaa
