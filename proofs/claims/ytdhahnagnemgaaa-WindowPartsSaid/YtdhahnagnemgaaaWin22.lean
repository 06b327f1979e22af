/- The walk of WindowParts. -/
import Derived.Test.YtdhahnagnemgaaaWin20
import Derived.Test.YtdhahnagnemgaaaWin21
import Derived.Test.YtdhahnagnemgaaaOpen
namespace Go.Proofs.Ytdhahnagnemgaaa
open Go.RowKit
set_option linter.unusedVariables false
set_option linter.unusedSimpArgs false

theorem Rise.nil : Rise [] 0 := ⟨List.Pairwise.nil, by simp, by simp⟩
theorem Rise.snoc {L : List (Int × Nat)} {T : Int} (h : Rise L T) (hT : 0 ≤ T) (g z : Int) (hg : 0 ≤ g) (hz : -128 ≤ z ∧ z ≤ 127) : Rise (L ++ [(T + 1 + g, fenc z)]) (T + 1 + g) := by
  refine ⟨?_, ?_, ?_⟩
  · rw [List.pairwise_append]
    refine ⟨h.asc, List.pairwise_singleton _ _, ?_⟩
    intro x hx y hy
    have := h.pos x hx
    obtain rfl : y = (T + 1 + g, fenc z) := by simpa using hy
    show x.1 < T + 1 + g
    omega
  · intro x hx
    rcases List.mem_append.1 hx with hx | hx
    · have := h.pos x hx; omega
    · obtain rfl : x = (T + 1 + g, fenc z) := by simpa using hx
      exact ⟨by show 0 < T + 1 + g; omega, by show T + 1 + g ≤ T + 1 + g; omega⟩
  · intro x hx
    rcases List.mem_append.1 hx with hx | hx
    · exact h.num x hx
    · obtain rfl : x = (T + 1 + g, fenc z) := by simpa using hx
      exact ⟨z, rfl, hz.1, hz.2⟩

set_option maxRecDepth 100000 in
set_option maxHeartbeats 8000000 in
theorem parts_walk (a1 a2 : Option Addr) (c1 c2 : Nat) (zs gs : List Int) (at' : Int) (w : World) (h1 : IRow .i8 w a1 zs) (h2 : IRow .u8 w a2 gs) (hm : zs.length ≤ 60) (hgl : zs.length ≤ gs.length) (hgm : gs.length ≤ 140737488351232) (hat0 : 0 ≤ at') (hat1 : at' ≤ 1048576) :
    Calls Try.prog 11 #[.slice a1 zs.length c1, .slice a2 gs.length c2, .int .i64 at'] w fun e w' => e = .returned (.bool true) ∧ Below w.heap.size w w' := by
  obtain ⟨hw1, hc1⟩ := h1
  obtain ⟨hw2, hc2⟩ := h2
  have HW1 := Lib.hid hw1
  have HC1 := Lib.hid hc1
  have HW2 := Lib.hid hw2
  have HC2 := Lib.hid hc2
  clear hw1 hc1 hw2 hc2
  obtain ⟨i0, hi, hz0, hz1, hz2⟩ := info_parts Try.infoS
  have f1 : ¬ (60 : Int) < zs.length := by omega
  have f2 : ¬ (gs.length : Int) < zs.length := by omega
  have f5 : decide (gs.length < zs.length) = false := decide_eq_false (by omega)
  have f6 : decide ((60 : Int) < zs.length) = false := decide_eq_false (by omega)
  have f7 : decide (at' < 0) = false := decide_eq_false (by omega)
  have f8 : decide (1048576 < at') = false := decide_eq_false (by omega)
  have f3 : ¬ at' < 0 := by omega
  have f4 : ¬ 1048576 < at' := by omega
  go_enter Try.func11, Try.ntmps11
  go_wp2_with fail
  refine (known8 _).mono ?_
  rintro e w1 ⟨rfl, hb1⟩
  have HB1 := Lib.hid hb1
  clear hb1
  go_wp2_with fail
  go_loopw [7, 8, 9] (fun v tt i wr => ∃ (k : Nat) (T : Int) (L : List (Int × Nat)), k ≤ zs.length ∧ i = .int .i64 k ∧ tt = .int .i64 T ∧ L.length = k ∧ Rise L T ∧ 0 ≤ T ∧ T ≤ 256 * k ∧ wr.ownsRow w1.heap.size 85 2 v k (L.flatMap tenc) ∧ Below w1.heap.size w1 wr) (fun _ _ i _ => zs.length - (intOf i).toNat)
  case atStart => exact ⟨0, 0, [], Nat.zero_le _, rfl, rfl, rfl, Rise.nil, by omega, by omega, by simpa using World.ownsRow_nil _ _ _ _, Below.refl _ _⟩
  case round =>
    obtain ⟨k, T, L, hk, rfl, rfl, hL, hrise, hT0, hT1, hown, hb⟩ := hrel
    have HL := Lib.hid hL
    have HRISE := Lib.hid hrise
    have hB := hb.size
    have HO := Lib.hid hown
    have HB := Lib.hid hb
    have HBW := Lib.hid (HB1.out.trans (hb.mono HB1.out.size))
    clear hL hrise
    by_cases hlt : k < zs.length
    · obtain ⟨b1, o1, rfl, hd1⟩ := HC1.out (by intro e; simp [e] at hlt)
      obtain ⟨b2, o2, rfl, hd2⟩ := HC2.out (by intro e; rw [e, List.length_nil] at hgl; omega)
      obtain ⟨z, hz⟩ : ∃ z, z = zs.getD k 0 := ⟨_, rfl⟩
      obtain ⟨g, hg⟩ : ∃ g, g = gs.getD k 0 := ⟨_, rfl⟩
      have k0 : wr.cell? ⟨b1, o1 + k, none⟩ = some (.int .i8 z) := by rw [hz]; exact cell_below HBW.out (Nat.le_refl _) (hd1 k hlt)
      have k1 : wr.cell? ⟨b2, o2 + k, none⟩ = some (.int .u8 g) := by rw [hg]; exact cell_below HBW.out (Nat.le_refl _) (hd2 k (by omega))
      have hzb : -128 ≤ z ∧ z ≤ 127 := i8_in (HW1.out z (by rw [hz, List.getD_eq_getElem?_getD, List.getElem?_eq_getElem hlt]; exact List.getElem_mem _))
      have hgb : 0 ≤ g ∧ g ≤ 255 := u8_in (HW2.out g (by rw [hg, List.getD_eq_getElem?_getD, List.getElem?_eq_getElem (by omega)]; exact List.getElem_mem _))
      clear hd1 hd2 hz hg hb
      have hk0 : (0 : Int) ≤ (k : Int) := Int.natCast_nonneg _
      have hk1 : (k : Int) < (zs.length : Int) := by omega
      have hk2 : (k : Int) < (gs.length : Int) := by omega
      have hsn := HRISE.out.snoc hT0 g z hgb.1 hzb
      have HSN := Lib.hid hsn
      clear hsn
      go_wp2_with (at_builtin; refine wpList_append_own _ rfl _ _ 77 rfl w1.heap.size 85 i0 (.agg #[.int .i64 0, .float .f64 0]) 2 16 Try.underlying77 hi hz0 hz1 hz2 rfl (by decide) _ _ _ rfl (hown.alloc _) ⟨wr.heap.size, 0, none⟩ 1 1 [.int .i64 (T + 1 + g), .float .f64 (fenc z)] rfl rfl (two_new wr (.int .i64 (T + 1 + g)) (.float .f64 (fenc z)) 85) ?c2 ?c3 ?c4 ?c5 ?_)
      case c2 => intro u hu; simp at hu; rcases hu with rfl | rfl <;> rfl
      case c3 => unfold maxLen; omega
      case c4 => omega
      case c5 => first | omega | (simp; omega)
      intro v' w2 hown' hgrow _
      have HG := Lib.hid hgrow
      have HO' := Lib.hid hown'
      clear hown hgrow hown'
      go_wp2_with fail
      go_roundw
      case rel =>
        refine ⟨k + 1, T + 1 + g, L ++ [(T + 1 + g, fenc z)], by omega, by go_num, rfl, by have := HL.out; simp [this], HSN.out, by omega, by omega, ?_, (HB.out.alloc hB _).grown HG.out (by simp; omega) (fun j hj => (HO.out.lt j hj).1)⟩
        rw [List.flatMap_append]
        exact HO'.out
      case measure => simp [intOf]; omega
    · obtain rfl : k = zs.length := by omega
      have hsl : Sl tenc wr u7 L := Sl.own tenc_len (by decide) hown
      have HLZ := Lib.hid (show L.length = zs.length from HL.out)
      have hL60 : L.length ≤ 60 := by have := HL.out; omega
      obtain ⟨a, cap, hav, hle, -, -⟩ := hsl.len (fun _ => by simp [tenc])
      subst hav
      have HM0 := Lib.hid hsl
      clear hsl hown hb HO HL
      by_cases hat : 0 < at' ∧ at' < T + 1
      · obtain ⟨g1, g2⟩ := hat
        have q1 : ¬ at' ≤ 0 := by omega
        have q2 : ¬ T + 1 ≤ at' := by omega
        go_wp2_with fail
        obtain ⟨w3, hw3⟩ : ∃ w3, w3 = wr.alloc (.cells #[.int .i64 1, .int .i64 2] 3) := ⟨_, rfl⟩
        have p0 : w3.cell? ⟨wr.heap.size, 0, none⟩ = some (.int .i64 1) := by rw [hw3]; exact World.cell?_alloc_at _ _ _ _ rfl
        have p1 : w3.cell? ⟨wr.heap.size, 1, none⟩ = some (.int .i64 2) := by rw [hw3]; exact World.cell?_alloc_at _ _ _ _ rfl
        have hbr : Below wr.heap.size wr w3 := by rw [hw3]; exact (Below.refl _ _).alloc (Nat.le_refl _) _
        rw [← hw3]
        have HM := Lib.hid (HM0.out.below hbr (Nat.le_refl _))
        have HBW3 := Lib.hid (HBW.out.trans (hbr.mono HBW.out.size))
        clear hw3 hbr
        go_loopw [82] (fun i ws => ∃ n : Int, 0 ≤ n ∧ n ≤ 2 ∧ i = .int .i64 n ∧ Below w3.heap.size w3 ws) (fun i _ => 2 - (intOf i).toNat)
        case atStart => exact ⟨0, by omega, by omega, rfl, Below.refl _ _⟩
        case round =>
          obtain ⟨n, hn1, hn2, rfl, hbs⟩ := hrel
          have HB := Lib.hid hbs
          have hn : n = 0 ∨ n = 1 ∨ n = 2 := by omega
          clear hn1 hn2
          rcases hn with rfl | rfl | rfl
          · have r0 := cell_below hbs (Nat.le_refl _) p0
            clear hbs
            obtain ⟨A, B, C, pA, pB, hA, hB, hC, hX, hY⟩ := parts_sum L T at' (T + 1) 1 HRISE.out (by omega) (by omega) (by omega) (by omega) (by omega)
            have ha := fn_any 1 (.slice a L.length cap) L 0 at'
            have hb2 := fn_any 1 (.slice a L.length cap) L at' (T + 1)
            have hc := fn_any 1 (.slice a L.length cap) L 0 (T + 1)
            rw [hA] at ha
            rw [hB] at hb2
            rw [hC] at hc
            have HA := Lib.hid ha
            have HBB := Lib.hid hb2
            have HCC := Lib.hid hc
            have HX := Lib.hid hX
            have HY := Lib.hid hY
            clear ha hb2 hc hA hB hC hX hY
            go_wp2_with fail
            refine (HA.out _ (HM.out.below HB.out (Nat.le_refl _)) (by omega) (by omega) (by omega)).mono ?_
            rintro e w5 ⟨rfl, hb5⟩
            have HB5 := Lib.hid (HB.out.trans (hb5.mono HB.out.size))
            clear hb5
            go_wp2_with fail
            refine (HBB.out _ (HM.out.below HB5.out (Nat.le_refl _)) (by omega) (by omega) (by omega)).mono ?_
            rintro e w6 ⟨rfl, hb6⟩
            have HB6 := Lib.hid (HB5.out.trans (hb6.mono HB5.out.size))
            clear hb6
            go_wp2_with fail
            refine (HCC.out _ (HM.out.below HB6.out (Nat.le_refl _)) (by omega) (by omega) (by omega)).mono ?_
            rintro e w7 ⟨rfl, hb7⟩
            have HB7 := Lib.hid (HB6.out.trans (hb7.mono HB6.out.size))
            clear hb7
            have hX := HX.out
            have hY := HY.out
            go_wp2_with fail
            go_roundw
            case rel => exact ⟨1, by omega, by omega, rfl, below_drewN HB7.out _⟩
            case measure => simp [intOf]
          · have r0 := cell_below hbs (Nat.le_refl _) p1
            clear hbs
            obtain ⟨A, B, C, pA, pB, hA, hB, hC, hX, hY⟩ := parts_sum L T at' (T + 1) 2 HRISE.out (by omega) (by omega) (by omega) (by omega) (by omega)
            have ha := fn_any 2 (.slice a L.length cap) L 0 at'
            have hb2 := fn_any 2 (.slice a L.length cap) L at' (T + 1)
            have hc := fn_any 2 (.slice a L.length cap) L 0 (T + 1)
            rw [hA] at ha
            rw [hB] at hb2
            rw [hC] at hc
            have HA := Lib.hid ha
            have HBB := Lib.hid hb2
            have HCC := Lib.hid hc
            have HX := Lib.hid hX
            have HY := Lib.hid hY
            clear ha hb2 hc hA hB hC hX hY
            go_wp2_with fail
            refine (HA.out _ (HM.out.below HB.out (Nat.le_refl _)) (by omega) (by omega) (by omega)).mono ?_
            rintro e w5 ⟨rfl, hb5⟩
            have HB5 := Lib.hid (HB.out.trans (hb5.mono HB.out.size))
            clear hb5
            go_wp2_with fail
            refine (HBB.out _ (HM.out.below HB5.out (Nat.le_refl _)) (by omega) (by omega) (by omega)).mono ?_
            rintro e w6 ⟨rfl, hb6⟩
            have HB6 := Lib.hid (HB5.out.trans (hb6.mono HB5.out.size))
            clear hb6
            go_wp2_with fail
            refine (HCC.out _ (HM.out.below HB6.out (Nat.le_refl _)) (by omega) (by omega) (by omega)).mono ?_
            rintro e w7 ⟨rfl, hb7⟩
            have HB7 := Lib.hid (HB6.out.trans (hb7.mono HB6.out.size))
            clear hb7
            have hX := HX.out
            have hY := HY.out
            go_wp2_with fail
            go_roundw
            case rel => exact ⟨2, by omega, by omega, rfl, below_drewN HB7.out _⟩
            case measure => simp [intOf]
          · have HBW4 := Lib.hid (HBW3.out.trans (hbs.mono HBW3.out.size))
            have HM4 := Lib.hid (HM.out.below hbs (Nat.le_refl _))
            clear hbs HM HBW3 HM0 HBW p0 p1
            go_wp2_with fail
            obtain ⟨w9, hw9⟩ : ∃ w9, w9 = wr.alloc (.cells #[.int .i64 4, .int .i64 5] 3) := ⟨_, rfl⟩
            have p0 : w9.cell? ⟨wr.heap.size, 0, none⟩ = some (.int .i64 4) := by rw [hw9]; exact World.cell?_alloc_at _ _ _ _ rfl
            have p1 : w9.cell? ⟨wr.heap.size, 1, none⟩ = some (.int .i64 5) := by rw [hw9]; exact World.cell?_alloc_at _ _ _ _ rfl
            have hbr : Below wr.heap.size wr w9 := by rw [hw9]; exact (Below.refl _ _).alloc (Nat.le_refl _) _
            rw [← hw9]
            have HM := Lib.hid (HM4.out.below hbr (Nat.le_refl _))
            have HBW9 := Lib.hid (HBW4.out.trans (hbr.mono HBW4.out.size))
            clear hw9 hbr
            go_loopw [123] (fun i ws => ∃ n : Int, 0 ≤ n ∧ n ≤ 2 ∧ i = .int .i64 n ∧ Below w9.heap.size w9 ws) (fun i _ => 2 - (intOf i).toNat)
            case atStart => exact ⟨0, by omega, by omega, rfl, Below.refl _ _⟩
            case round =>
              obtain ⟨n, hn1, hn2, rfl, hbs⟩ := hrel
              have HB := Lib.hid hbs
              have hn : n = 0 ∨ n = 1 ∨ n = 2 := by omega
              clear hn1 hn2
              rcases hn with rfl | rfl | rfl
              · have r0 := cell_below hbs (Nat.le_refl _) p0
                clear hbs
                obtain ⟨A, B, C, pA, pB, hA, hB, hC, hX, hY⟩ := parts_most L T at' (T + 1) 4 HRISE.out (by omega) (by omega) (by omega) (by omega)
                have ha := fn_any 4 (.slice a L.length cap) L 0 at'
                have hb2 := fn_any 4 (.slice a L.length cap) L at' (T + 1)
                have hc := fn_any 4 (.slice a L.length cap) L 0 (T + 1)
                rw [hA] at ha
                rw [hB] at hb2
                rw [hC] at hc
                have HA := Lib.hid ha
                have HBB := Lib.hid hb2
                have HCC := Lib.hid hc
                have HX := Lib.hid hX
                have HY := Lib.hid hY
                clear ha hb2 hc hA hB hC hX hY
                go_wp2_with fail
                refine (HA.out _ (HM.out.below HB.out (Nat.le_refl _)) (by omega) (by omega) (by omega)).mono ?_
                rintro e w5 ⟨rfl, hb5⟩
                have HB5 := Lib.hid (HB.out.trans (hb5.mono HB.out.size))
                clear hb5
                go_wp2_with fail
                refine (HBB.out _ (HM.out.below HB5.out (Nat.le_refl _)) (by omega) (by omega) (by omega)).mono ?_
                rintro e w6 ⟨rfl, hb6⟩
                have HB6 := Lib.hid (HB5.out.trans (hb6.mono HB5.out.size))
                clear hb6
                go_wp2_with fail
                refine (HCC.out _ (HM.out.below HB6.out (Nat.le_refl _)) (by omega) (by omega) (by omega)).mono ?_
                rintro e w7 ⟨rfl, hb7⟩
                have HB7 := Lib.hid (HB6.out.trans (hb7.mono HB6.out.size))
                clear hb7
                have hX := HX.out
                have hY := HY.out
                clear HX HY
                rcases hX with ⟨rfl, rfl⟩ | ⟨rfl, rfl⟩ | ⟨rfl, rfl⟩
                · clear hY
                  go_wp2_with fail
                  go_roundw
                  case rel => exact ⟨1, by omega, by omega, rfl, HB7.out⟩
                  case measure => simp [intOf]
                · have hY := hY (.inl rfl)
                  cases pB
                  all_goals
                    go_wp2_with fail
                    go_roundw
                    case rel => exact ⟨1, by omega, by omega, rfl, HB7.out⟩
                    case measure => simp [intOf]
                · have hY := hY (.inr rfl)
                  cases pA
                  · skip
                    go_wp2_with fail
                    go_roundw
                    case rel => exact ⟨1, by omega, by omega, rfl, HB7.out⟩
                    case measure => simp [intOf]
                  · cases he : (FloatKind.f64.format.order A B == some .eq)
                    all_goals
                      go_wp2_with fail
                      go_roundw
                      case rel => exact ⟨1, by omega, by omega, rfl, HB7.out⟩
                      case measure => simp [intOf]
              · have r0 := cell_below hbs (Nat.le_refl _) p1
                clear hbs
                obtain ⟨A, B, C, pA, pB, hA, hB, hC, hX, hY⟩ := parts_most L T at' (T + 1) 5 HRISE.out (by omega) (by omega) (by omega) (by omega)
                have ha := fn_any 5 (.slice a L.length cap) L 0 at'
                have hb2 := fn_any 5 (.slice a L.length cap) L at' (T + 1)
                have hc := fn_any 5 (.slice a L.length cap) L 0 (T + 1)
                rw [hA] at ha
                rw [hB] at hb2
                rw [hC] at hc
                have HA := Lib.hid ha
                have HBB := Lib.hid hb2
                have HCC := Lib.hid hc
                have HX := Lib.hid hX
                have HY := Lib.hid hY
                clear ha hb2 hc hA hB hC hX hY
                go_wp2_with fail
                refine (HA.out _ (HM.out.below HB.out (Nat.le_refl _)) (by omega) (by omega) (by omega)).mono ?_
                rintro e w5 ⟨rfl, hb5⟩
                have HB5 := Lib.hid (HB.out.trans (hb5.mono HB.out.size))
                clear hb5
                go_wp2_with fail
                refine (HBB.out _ (HM.out.below HB5.out (Nat.le_refl _)) (by omega) (by omega) (by omega)).mono ?_
                rintro e w6 ⟨rfl, hb6⟩
                have HB6 := Lib.hid (HB5.out.trans (hb6.mono HB5.out.size))
                clear hb6
                go_wp2_with fail
                refine (HCC.out _ (HM.out.below HB6.out (Nat.le_refl _)) (by omega) (by omega) (by omega)).mono ?_
                rintro e w7 ⟨rfl, hb7⟩
                have HB7 := Lib.hid (HB6.out.trans (hb7.mono HB6.out.size))
                clear hb7
                have hX := HX.out
                have hY := HY.out
                clear HX HY
                rcases hX with ⟨rfl, rfl⟩ | ⟨rfl, rfl⟩ | ⟨rfl, rfl⟩
                · clear hY
                  go_wp2_with fail
                  go_roundw
                  case rel => exact ⟨2, by omega, by omega, rfl, HB7.out⟩
                  case measure => simp [intOf]
                · have hY := hY (.inl rfl)
                  cases pB
                  all_goals
                    go_wp2_with fail
                    go_roundw
                    case rel => exact ⟨2, by omega, by omega, rfl, HB7.out⟩
                    case measure => simp [intOf]
                · have hY := hY (.inr rfl)
                  cases pA
                  · skip
                    go_wp2_with fail
                    go_roundw
                    case rel => exact ⟨2, by omega, by omega, rfl, HB7.out⟩
                    case measure => simp [intOf]
                  · cases he : (FloatKind.f64.format.order A B == some .eq)
                    all_goals
                      go_wp2_with fail
                      go_roundw
                      case rel => exact ⟨2, by omega, by omega, rfl, HB7.out⟩
                      case measure => simp [intOf]
              · clear hbs
                go_wp2_with fail
                go_ret
                exact ⟨rfl, HBW9.out.trans (HB.out.mono HBW9.out.size)⟩
      · have br : at' ≤ 0 ∨ (¬ at' ≤ 0 ∧ T + 1 ≤ at') := by omega
        clear hat
        rcases br with q1 | ⟨q1, q2⟩
        all_goals
          go_wp2_with fail
          go_ret
          exact ⟨rfl, HBW.out⟩
set_option maxRecDepth 100000 in
set_option maxHeartbeats 2000000 in
theorem windowParts_walk (a1 : Option Addr) (c1 : Nat) (zs : List Int) (a2 : Option Addr) (c2 : Nat) (gs : List Int) (at' : Int) (w : World) (h1 : IRow .i8 w a1 zs) (_ : zs.length * 1 ≤ 140737488351232) (h2 : IRow .u8 w a2 gs) (hg : gs.length * 1 ≤ 140737488351232) {p : Prop} (_ : p) :
    Calls Try.prog 11 #[.slice a1 zs.length c1, .slice a2 gs.length c2, .int .i64 at'] w fun e w' => e = .returned (.bool true) ∧ Below w.heap.size w w' := by
  by_cases m1 : zs.length ≤ 60
  · by_cases m2 : zs.length ≤ gs.length
    · by_cases m3 : 0 ≤ at'
      · by_cases m4 : at' ≤ 1048576
        · exact parts_walk a1 a2 c1 c2 zs gs at' w h1 h2 m1 m2 (by omega) m3 m4
        · have q1 : ¬ (60 : Int) < zs.length := by omega
          have q2 : ¬ (gs.length : Int) < zs.length := by omega
          have q3 : ¬ at' < 0 := by omega
          have q4 : 1048576 < at' := by omega
          clear h1 h2 m1 m2 m3 m4
          go_enter Try.func11, Try.ntmps11
          go_wp2_with fail
          refine (known8 _).mono ?_
          rintro e w1 ⟨rfl, hb1⟩
          go_wp2_with fail
          go_ret
          exact ⟨rfl, hb1⟩
      · have q1 : ¬ (60 : Int) < zs.length := by omega
        have q2 : ¬ (gs.length : Int) < zs.length := by omega
        have q3 : at' < 0 := by omega
        clear h1 h2 m1 m2 m3
        go_enter Try.func11, Try.ntmps11
        go_wp2_with fail
        refine (known8 _).mono ?_
        rintro e w1 ⟨rfl, hb1⟩
        go_wp2_with fail
        go_ret
        exact ⟨rfl, hb1⟩
    · have q1 : ¬ (60 : Int) < zs.length := by omega
      have q2 : (gs.length : Int) < zs.length := by omega
      clear h1 h2 m1 m2
      go_enter Try.func11, Try.ntmps11
      go_wp2_with fail
      refine (known8 _).mono ?_
      rintro e w1 ⟨rfl, hb1⟩
      go_wp2_with fail
      go_ret
      exact ⟨rfl, hb1⟩
  · have q1 : (60 : Int) < zs.length := by omega
    clear h1 h2 m1
    go_enter Try.func11, Try.ntmps11
    go_wp2_with fail
    refine (known8 _).mono ?_
    rintro e w1 ⟨rfl, hb1⟩
    go_wp2_with fail
    go_ret
    exact ⟨rfl, hb1⟩
end Go.Proofs.Ytdhahnagnemgaaa
