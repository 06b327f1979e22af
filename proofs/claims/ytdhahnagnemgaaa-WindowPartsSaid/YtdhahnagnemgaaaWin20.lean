/- The walk of WindowShifts. -/
import Derived.Test.YtdhahnagnemgaaaWin19
import Derived.Test.YtdhahnagnemgaaaWin18
import Derived.Deep.RegionHeld3
import Derived.Deep.AppendLies
namespace Go.Proofs.Ytdhahnagnemgaaa
open Go.RowKit
set_option linter.unusedVariables false
set_option linter.unusedSimpArgs false

def moved (by' : Int) (l : List (Int × Nat)) : List (Int × Nat) := l.map (fun x => (x.1 + by', x.2))
theorem vals_moved (fr to b : Int) (l : List (Int × Nat)) : vals (fr + b) (to + b) (moved b l) = vals fr to l := by
  unfold vals cutL moved
  induction l with
  | nil => rfl
  | cons x l ih =>
    have e : inside (fr + b) (to + b) (x.1 + b, x.2) = inside fr to x := by
      unfold inside
      have e1 : decide (fr + b < x.1 + b) = decide (fr < x.1) := decide_eq_decide.2 (by omega)
      have e2 : decide (x.1 + b ≤ to + b) = decide (x.1 ≤ to) := decide_eq_decide.2 (by omega)
      rw [e1, e2]
    rw [List.map_cons, List.filter_cons, List.filter_cons, e]
    cases inside fr to x
    · simpa using ih
    · simpa using ih
theorem vals_cut (fr to : Int) (l : List (Int × Nat)) : vals fr to (cutL fr to l) = vals fr to l := by
  unfold vals cutL
  rw [List.filter_filter]
  simp
theorem fnR_moved (fn fr to b : Int) (l : List (Int × Nat)) : fnR fn (fr + b) (to + b) (moved b l) = fnR fn fr to l := by
  unfold fnR
  rw [vals_moved]
  have e : (1 ≤ fn ∧ fn ≤ 14 ∧ fr + b < to + b) ↔ (1 ≤ fn ∧ fn ≤ 14 ∧ fr < to) := by omega
  rw [show to + b - (fr + b) = to - fr by omega]
  by_cases h : 1 ≤ fn ∧ fn ≤ 14 ∧ fr < to
  · rw [if_pos h, if_pos (e.2 h)]
  · rw [if_neg h, if_neg (fun x => h (e.1 x))]
theorem fnR_cut (fn fr to : Int) (l : List (Int × Nat)) : fnR fn fr to (cutL fr to l) = fnR fn fr to l := by
  unfold fnR
  rw [vals_cut]
theorem moved_snoc (b : Int) (l : List (Int × Nat)) (k : Nat) (h : k < l.length) : moved b (l.take (k + 1)) = moved b (l.take k) ++ [(l[k].1 + b, l[k].2)] := by
  unfold moved
  rw [List.take_succ_eq_append_getElem h, List.map_append]; rfl
theorem moved_len (b : Int) (l : List (Int × Nat)) : (moved b l).length = l.length := by simp [moved]
theorem same_four (x : Nat) (q : Bool) (w : World) :
    Calls Try.prog 52 #[.agg #[.slice (some ⟨w.heap.size, 0, none⟩) 2 2, .slice (some ⟨w.heap.size + 1, 0, none⟩) 2 2], .agg #[.slice (some ⟨w.heap.size + 2, 0, none⟩) 2 2, .slice (some ⟨w.heap.size + 3, 0, none⟩) 2 2]]
      ((((w.alloc (.cells #[.float .f64 x, .float .f64 x] 28)).alloc (.cells #[.bool q, .bool q] 4)).alloc (.cells #[.float .f64 x, .float .f64 x] 28)).alloc (.cells #[.bool q, .bool q] 4)) fun e w' => e = .returned (.bool true) ∧ Below w.heap.size w w' := by
  obtain ⟨n0, n1, n2, n3⟩ := lits4 w (.cells #[.float .f64 x, .float .f64 x] 28) (.cells #[.bool q, .bool q] 4) (.cells #[.float .f64 x, .float .f64 x] 28) (.cells #[.bool q, .bool q] 4)
  have hb : Below w.heap.size w ((((w.alloc (.cells #[.float .f64 x, .float .f64 x] 28)).alloc (.cells #[.bool q, .bool q] 4)).alloc (.cells #[.float .f64 x, .float .f64 x] 28)).alloc (.cells #[.bool q, .bool q] 4)) :=
    ((((Below.refl _ _).alloc (Nat.le_refl _) _).alloc (by simp) _).alloc (by simp; omega) _).alloc (by simp; omega) _
  refine (same_cols _ _ _ _ [x, x] [x, x] [q, q] _ (Sl.lit n0 rfl rfl (by simp)) (Sl.lit n2 rfl rfl (by simp)) (Sl.lit n1 rfl rfl (by simp)) (Sl.lit n3 rfl rfl (by simp)) rfl).mono ?_
  rintro e w' ⟨rfl, h2⟩
  exact ⟨rfl, hb.trans (h2.mono hb.size)⟩

set_option maxRecDepth 100000 in
set_option maxHeartbeats 8000000 in
theorem shifts_walk (v : Value) (l : List (Int × Nat)) (fr to b fn : Int) (w : World) (h : Sl tenc w v l) :
    Calls Try.prog 12 #[v, .int .i64 fr, .int .i64 to, .int .i64 b, .int .i64 fn] w fun e w' => e = .returned (.bool true) ∧ Below w.heap.size w w' := by
  have H := Lib.hid h
  obtain ⟨a, cap, rfl, hlen, -, hc⟩ := h.split tenc_len
  have HC := Lib.hid hc
  clear h hc
  obtain ⟨i0, hi, hz0, hz1, hz2⟩ := info_parts Try.infoS
  by_cases c0 : (-1099511627776 ≤ fr ∧ to ≤ 1099511627776 ∧ fr ≤ 1099511627776 ∧ -1099511627776 ≤ to ∧ -1099511627776 ≤ b ∧ b ≤ 1099511627776)
  · obtain ⟨g1, g2, g3, g4, g5, g6⟩ := c0
    have m1 : ¬ fr < -1099511627776 := by omega
    have m2 : ¬ 1099511627776 < to := by omega
    have m3 : ¬ 1099511627776 < fr := by omega
    have m4 : ¬ to < -1099511627776 := by omega
    have m5 : ¬ b < -1099511627776 := by omega
    have m6 : ¬ 1099511627776 < b := by omega
    go_enter Try.func12, Try.ntmps12
    go_wp2_with fail
    refine (known8 _).mono ?_
    rintro e w1 ⟨rfl, hb1⟩
    have HB1 := Lib.hid hb1
    clear hb1
    go_wp2_with fail
    refine (right_any _ l _ (H.out.below HB1.out (Nat.le_refl _))).mono ?_
    rintro e w2 ⟨q, rfl, hq, hb2⟩
    have HB2 := Lib.hid (HB1.out.trans (hb2.mono HB1.out.size))
    clear hb2
    cases q
    · go_wp2_with fail
      go_ret
      exact ⟨rfl, HB2.out⟩
    · have hl := hq rfl
      clear hq
      go_wp2_with fail
      go_loopw [11, 12] (fun m i wr => ∃ k : Nat, k ≤ l.length ∧ i = .int .i64 k ∧ wr.ownsRow w2.heap.size 85 2 m k ((moved b (l.take k)).flatMap tenc) ∧ Below w2.heap.size w2 wr) (fun _ i _ => l.length - (intOf i).toNat)
      case atStart => exact ⟨0, Nat.zero_le _, rfl, by simpa [moved] using World.ownsRow_nil _ _ _ _, Below.refl _ _⟩
      case round =>
        obtain ⟨k, hk, rfl, hown, hb⟩ := hrel
        have hB := hb.size
        have HO := Lib.hid hown
        have HB := Lib.hid hb
        have HBW := Lib.hid (HB2.out.trans (hb.mono HB2.out.size))
        by_cases hlt : k < l.length
        · obtain ⟨bb, off, rfl, hcc⟩ := HC.out k hlt
          obtain ⟨x, hx⟩ : ∃ x, x = l[k] := ⟨_, rfl⟩
          rw [← hx] at hcc
          have hs := moved_snoc b l k hlt
          rw [← hx] at hs
          have HS := Lib.hid hs
          obtain ⟨t, y⟩ := x
          have k0 : wr.cell? ⟨bb, off + k * 2, none⟩ = some (.int .i64 t) := cell_below HBW.out (Nat.le_refl _) (hcc 0 _ rfl)
          have k1 : wr.cell? ⟨bb, off + k * 2 + 1, none⟩ = some (.float .f64 y) := cell_below HBW.out (Nat.le_refl _) (hcc 1 _ rfl)
          clear hcc hs hx hb
          have hk0 : (0 : Int) ≤ (k : Int) := Int.natCast_nonneg _
          have hk1 : (k : Int) < (l.length : Int) := by omega
          by_cases c1 : t < -562949953421312
          · go_wp2_with fail
            go_ret
            exact ⟨rfl, HBW.out⟩
          · by_cases c2 : 562949953421312 < t
            · go_wp2_with fail
              go_ret
              exact ⟨rfl, HBW.out⟩
            · have hw4 : IntKind.i64.wrap (t + b) = t + b := IntWalk.i64_in _ (by omega)
              go_wp2_with fail
              go_region_law (first | (refine step_append_rd rfl (.tmp 68) (.tmp 82) _ rfl w2.heap.size 85 i0 _ 2 16 Try.underlying77 hi hz0 hz1 hz2 rfl (by decide) _ _ _ rfl (World.ownsRow.alloc (w := wr.drew) hown _) (some ⟨wr.heap.size, 0, none⟩) 1 1 [.int .i64 (t + b), .float .f64 y] rfl (fun e => by cases e) rfl (fun ad e => by injection e with e; subst e; exact two_new wr.drew _ _ _) (by intro u hu; simp at hu; rcases hu with rfl | rfl <;> rfl) (by unfold maxLen; omega) (by omega) (by simp; omega) ?_; intro v' w3 hown' hgrow))
              all_goals
                have HG := Lib.hid hgrow
                have HO' := Lib.hid hown'
                clear hown hgrow hown'
                go_wp2_with fail
                go_roundw
                case rel =>
                  refine ⟨k + 1, by omega, by go_num, ?_, ((below_drewN HB.out 1).alloc hB _).grown HG.out (by simp; omega) (fun j hj => (HO.out.lt j hj).1)⟩
                  rw [HS.out, List.flatMap_append]
                  exact HO'.out
                case measure => simp [intOf]; omega
        · obtain rfl : k = l.length := by omega
          have hm : Sl tenc wr u11 (moved b l) := Sl.own tenc_len (by decide) (by rw [List.take_of_length_le (Nat.le_refl _)] at hown; exact hown)
          have HM := Lib.hid hm
          have ha := fn_any fn (.slice a l.length cap) l fr to
          have hr := fn_any fn u11 (moved b l) (fr + b) (to + b)
          have hx := fun x1 => fn_any fn x1 (cutL fr to l) fr to
          rw [fnR_moved] at hr
          simp only [fnR_cut] at hx
          have hml := moved_len b l
          have hcl := cut_len fr to l
          obtain ⟨A, B, hAB⟩ : ∃ A B, (A, B) = fnR fn fr to l := ⟨_, _, rfl⟩
          rw [← hAB] at ha hr
          simp only [← hAB] at hx
          have HA := Lib.hid ha
          have HR := Lib.hid hr
          have HX := Lib.hid hx
          have HML := Lib.hid hml
          have HCL := Lib.hid hcl
          clear ha hr hx hAB hm hown hb HO hml hcl
          go_wp2_with fail
          refine (HA.out _ (H.out.below HBW.out (Nat.le_refl _)) (by omega) (by omega) (by omega)).mono ?_
          rintro e w3 ⟨rfl, hb3⟩
          have HB3 := Lib.hid (HBW.out.trans (hb3.mono HBW.out.size))
          have HM3 := Lib.hid (HM.out.below hb3 (Nat.le_refl _))
          clear hb3
          go_wp2_with fail
          refine (HR.out _ HM3.out (by have := HML.out; omega) (by omega) (by omega)).mono ?_
          rintro e w4 ⟨rfl, hb4⟩
          have HB4 := Lib.hid (HB3.out.trans (hb4.mono HB3.out.size))
          clear hb4
          go_wp2_with fail
          refine (cut8_any _ l fr to _ (H.out.below HB4.out (Nat.le_refl _)) (by omega)).mono ?_
          rintro e w5 ⟨x1, rfl, hs5, hb5⟩
          have HB5 := Lib.hid (HB4.out.trans (hb5.mono HB4.out.size))
          have HS5 := Lib.hid hs5
          clear hb5 hs5
          go_wp2_with fail
          refine (HX.out _ _ HS5.out (by have := HCL.out; omega) (by omega) (by omega)).mono ?_
          rintro e w6 ⟨rfl, hb6⟩
          have HB6 := Lib.hid (HB5.out.trans (hb6.mono HB5.out.size))
          clear hb6
          cases B
          all_goals
            go_wp2_with fail
            refine (same_four A _ w6).mono ?_
            rintro e w7 ⟨rfl, hb7⟩
            have HB7 := Lib.hid (HB6.out.trans (hb7.mono HB6.out.size))
            clear hb7
            go_wp2_with fail
            go_ret
            exact ⟨rfl, HB7.out⟩
  · have br : (fr < -1099511627776) ∨ (¬ fr < -1099511627776 ∧ 1099511627776 < to) ∨ (¬ fr < -1099511627776 ∧ ¬ 1099511627776 < to ∧ 1099511627776 < fr) ∨ (¬ fr < -1099511627776 ∧ ¬ 1099511627776 < to ∧ ¬ 1099511627776 < fr ∧ to < -1099511627776) ∨
      (¬ fr < -1099511627776 ∧ ¬ 1099511627776 < to ∧ ¬ 1099511627776 < fr ∧ ¬ to < -1099511627776 ∧ b < -1099511627776) ∨ (¬ fr < -1099511627776 ∧ ¬ 1099511627776 < to ∧ ¬ 1099511627776 < fr ∧ ¬ to < -1099511627776 ∧ ¬ b < -1099511627776 ∧ 1099511627776 < b) := by omega
    clear c0
    rcases br with g1 | ⟨g1, g2⟩ | ⟨g1, g2, g3⟩ | ⟨g1, g2, g3, g4⟩ | ⟨g1, g2, g3, g4, g5⟩ | ⟨g1, g2, g3, g4, g5, g6⟩
    all_goals
      go_enter Try.func12, Try.ntmps12
      go_wp2_with fail
      refine (known8 _).mono ?_
      rintro e w1 ⟨rfl, hb1⟩
      have HB1 := Lib.hid hb1
      clear hb1
      go_wp2_with fail
      refine (right_any _ l _ (H.out.below HB1.out (Nat.le_refl _))).mono ?_
      rintro e w2 ⟨q, rfl, hq, hb2⟩
      have HB2 := Lib.hid (HB1.out.trans (hb2.mono HB1.out.size))
      clear hb2 hq
      cases q
      all_goals
        go_wp2_with fail
        go_ret
        exact ⟨rfl, HB2.out⟩
theorem windowShifts_walk (v : Value) (l : List (Int × Nat)) (fr to b fn : Int) (w : World) (h : Sl tenc w v l) {p q r s : Prop} (_ : p) (_ : q) (_ : r) (_ : s) :
    Calls Try.prog 12 #[v, .int .i64 fr, .int .i64 to, .int .i64 b, .int .i64 fn] w fun e w' => e = .returned (.bool true) ∧ Below w.heap.size w w' := shifts_walk v l fr to b fn w h
end Go.Proofs.Ytdhahnagnemgaaa
