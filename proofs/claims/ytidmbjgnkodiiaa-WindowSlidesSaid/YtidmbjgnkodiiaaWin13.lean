/- Contract of the reference's Fn. -/
import Derived.Test.YtidmbjgnkodiiaaWin10
import Derived.Deep.RegionLaw
namespace Go.Proofs.Ytidmbjgnkodiiaa
open Go.RowKit
set_option linter.unusedVariables false
set_option linter.unusedSimpArgs false

theorem fsame_comm (a b : Nat) : fsame a b = fsame b a := by unfold fsame; exact Bool.beq_comm
theorem cnt_congr (f g : Nat → Nat → Bool) (h : ∀ a b, f a b = g a b) (l : List Nat) : cnt f l = cnt g l := by
  rw [show f = g from funext fun a => funext fun b => h a b]
theorem cnt_r1 (l : List Nat) : cnt (rsays false) l = cnt says1 l := cnt_congr _ _ (fun a b => by unfold rsays says1; rw [fsame_comm]; rfl) l
theorem cnt_r2 (l : List Nat) : cnt (rsays true) l = cnt says2 l := cnt_congr _ _ (fun a b => rfl) l

set_option maxRecDepth 100000 in
set_option maxHeartbeats 8000000 in
theorem rfn_any (fn : Int) (v : Value) (l : List (Int × Nat)) (fr to : Int) (w : World) (h : Sl tenc w v l) (hl : l.length ≤ 1000000)
    (hf : -1152921504606846976 ≤ fr ∧ fr ≤ 1152921504606846976) (ht : -1152921504606846976 ≤ to ∧ to ≤ 1152921504606846976) :
    Calls Try.prog 22 #[.int .i64 fn, v, .int .i64 fr, .int .i64 to] w fun e w' => e = .returned (.tuple #[.float .f64 (fnR fn fr to l).1, .bool (fnR fn fr to l).2]) ∧ Below w.heap.size w w' := by
  obtain ⟨R, hR⟩ : ∃ R, R = fnR fn fr to l := ⟨_, rfl⟩
  rw [← hR]
  unfold fnR at hR
  by_cases hin : 1 ≤ fn ∧ fn ≤ 14
  · by_cases hft : fr < to
    · rw [if_pos ⟨hin.1, hin.2, hft⟩] at hR
      have HR := Lib.hid hR
      have H := Lib.hid h
      have hcut := rcut8_any v l fr to
      have HCUT := Lib.hid hcut
      clear hcut hR h
      have hvl := vals_len fr to l
      obtain ⟨i0, hi, hz0, hz1, hz2⟩ := info_parts Try.infoF
      go_enter Try.func22, Try.ntmps22
      go_wp2_with fail
      refine (HCUT.out _ H.out hl).mono ?_
      rintro e w1 ⟨v1, rfl, hs1, hb1⟩
      obtain ⟨xs, hxs⟩ : ∃ xs, xs = cutL fr to l := ⟨_, rfl⟩
      rw [← hxs] at hs1
      have hvx : vals fr to l = xs.map Prod.snd := by rw [hxs]; rfl
      have hxl : xs.length ≤ l.length := by rw [hxs]; exact cut_len _ _ _
      have HVX := Lib.hid hvx
      obtain ⟨ca, ccap, rfl, hlen, -, hcc⟩ := hs1.split tenc_len
      have HC := Lib.hid hcc
      have HB1 := Lib.hid hb1
      clear hcc hs1 hb1 hvx hxs
      go_wp2_with fail
      go_loopw [11, 12] (fun v i wr => ∃ (k : Nat) (ys : List Nat), k ≤ xs.length ∧ i = .int .i64 k ∧ wr.ownsRow w1.heap.size 38 1 v k (ys.map (Value.float .f64)) ∧ ys = (xs.take k).map Prod.snd ∧ Below w1.heap.size w1 wr) (fun _ i _ => xs.length - (intOf i).toNat)
      case atStart => exact ⟨0, [], Nat.zero_le _, rfl, by simpa using World.ownsRow_nil _ _ _ _, rfl, Below.refl _ _⟩
      case round =>
        obtain ⟨k, ys, hk, rfl, hown, hys, hb⟩ := hrel
        have HYS := Lib.hid hys
        clear hys
        have hB := hb.size
        have HO := Lib.hid hown
        have HB := Lib.hid hb
        by_cases hlt : k < xs.length
        · obtain ⟨b, off, rfl, hcc⟩ := HC.out k hlt
          obtain ⟨x, hx⟩ : ∃ x, x = xs[k] := ⟨_, rfl⟩
          rw [← hx] at hcc
          have hs : (xs.take (k + 1)).map Prod.snd = (xs.take k).map Prod.snd ++ [x.2] := by rw [List.take_succ_eq_append_getElem hlt, List.map_append, ← hx]; rfl
          have HS := Lib.hid hs
          have k0 : wr.cell? ⟨b, off + k * 2, none⟩ = some (.int .i64 x.1) := cell_below hb (Nat.le_refl _) (hcc 0 _ rfl)
          have k1 : wr.cell? ⟨b, off + k * 2 + 1, none⟩ = some (.float .f64 x.2) := cell_below hb (Nat.le_refl _) (hcc 1 _ rfl)
          clear hcc hs hx hb
          obtain ⟨t, y⟩ := x
          simp only at k0 k1
          have hk0 : (0 : Int) ≤ (k : Int) := Int.natCast_nonneg _
          have hk1 : (k : Int) < (xs.length : Int) := by omega
          go_wp2_with (at_builtin; refine wpList_append_own _ rfl _ _ 27 rfl w1.heap.size 38 i0 (.float .f64 0) 1 8 Try.underlying27 hi hz0 hz1 hz2 rfl (by decide) _ _ _ rfl (hown.alloc _) ⟨wr.heap.size, 0, none⟩ 1 1 [.float .f64 y] rfl rfl (one_new _ _ _) ?c2 ?c3 ?c4 ?c5 ?_)
          case c2 => first | rfl | (intro u hu; simp at hu; subst hu; rfl)
          case c3 => unfold maxLen; omega
          case c4 => omega
          case c5 => first | omega | (simp; omega)
          intro v' w2 hown' hgrow _
          have HG := Lib.hid hgrow
          have HO' := Lib.hid hown'
          clear hown hgrow hown'
          go_wp2_with fail
          go_roundw
          case rel =>
            refine ⟨k + 1, ys ++ [y], by omega, by go_num, by simpa using HO'.out, by rw [HS.out, HYS.out], (HB.out.alloc hB _).grown HG.out (by simp; omega) (fun j hj => (HO.out.lt j hj).1)⟩
          case measure => simp [intOf]; omega
        · obtain rfl : k = xs.length := by omega
          have hsl : Sl fenc1 wr u11 (vals fr to l) := Sl.own fenc1_len (by decide) (by have hq := HYS.out; rw [List.take_of_length_le (Nat.le_refl _)] at hq; rw [flat1, HVX.out, ← hq]; exact hown)
          have hbw : Below w.heap.size w wr := HB1.out.trans (hb.mono HB1.out.size)
          have HBW := Lib.hid hbw
          have hvl2 : (vals fr to l).length ≤ l.length := hvl
          obtain ⟨va, vcap, rfl, hvlen, hvnil, -⟩ := hsl.len (fun _ => by simp [fenc1])
          have HSL := Lib.hid hsl
          clear hown hb hbw hsl hvl HO hvnil HYS HVX HC HB
          have hRR := HR.out
          clear HR HCUT H
          rcases hvv : vals fr to l with _ | ⟨x, t⟩
          · rw [hvv] at hRR HSL
            obtain rfl : R = (0, false) := hRR
            clear hvv
            simp only [List.length_nil] at *
            go_wp2_with fail
            go_ret2
            exact ⟨rfl, HBW.out⟩
          · rw [hvv] at hRR HSL hvl2 hvlen
            clear hvv
            simp only [List.length_cons] at HSL hvl2 hvlen ⊢
            have hR2 : R = if t.length + 1 < need fn then (0, false) else (fnV fn.toNat x t (to - fr), true) := hRR
            have HR2 := Lib.hid hR2
            clear hRR hR2
            obtain ⟨b, off, y, hrow⟩ := row1 HSL.out (by omega)
            have HROW := Lib.hid hrow
            obtain ⟨-, -, rfl, -, d0, d1, -, -, -⟩ := hrow
            have hsum := fun w2 (h2 : FRow w2 (some ⟨b, off, none⟩) (x :: t)) => rsum_any (some ⟨b, off, none⟩) vcap (x :: t) w2 h2
            simp only [List.length_cons] at hsum
            have HSUM := Lib.hid hsum
            clear hsum
            have hfn : fn = 1 ∨ fn = 2 ∨ fn = 3 ∨ fn = 4 ∨ fn = 5 ∨ fn = 6 ∨ fn = 7 ∨ fn = 8 ∨ fn = 9 ∨ fn = 10 ∨ fn = 11 ∨ fn = 12 ∨ fn = 13 ∨ fn = 14 := by omega
            rcases hfn with rfl | rfl | rfl | rfl | rfl | rfl | rfl | rfl | rfl | rfl | rfl | rfl | rfl | rfl
            · have hR3 : R = (fnV 1 x t (to - fr), true) := by rw [HR2.out, if_neg (by simp [need])]; rfl
              subst hR3
              clear HR2
              go_wp2_with fail
              all_goals
                refine (HSUM.out _ HROW.out.fr).mono ?_
                rintro e w2 ⟨rfl, n2, rfl⟩
                go_wp2_with fail
                refine (rcanon_any _ _).mono ?_
                rintro e w5 ⟨rfl, rfl⟩
                go_wp2_with fail
                go_ret2
                exact ⟨ret_fb true ((fnV_1 _ _ _).symm), below_drewN HBW.out _⟩
            · have hR3 : R = (fnV 2 x t (to - fr), true) := by rw [HR2.out, if_neg (by simp [need])]; rfl
              subst hR3
              clear HR2
              go_wp2_with fail
              all_goals
                refine (HSUM.out _ HROW.out.fr).mono ?_
                rintro e w2 ⟨rfl, n2, rfl⟩
                go_wp2_with fail
                refine Calls.mono (rfsum_any _ _ _ HROW.out.sl) ?_
                rintro e w4 ⟨rfl, n3, rfl⟩
                go_wp2_with fail
                refine (rcanon_any _ _).mono ?_
                rintro e w5 ⟨rfl, rfl⟩
                go_wp2_with fail
                go_ret2
                exact ⟨ret_fb true ((fnV_2 _ _ _).symm), below_drewN HBW.out _⟩
            · have hR3 : R = (fnV 3 x t (to - fr), true) := by rw [HR2.out, if_neg (by simp [need])]; rfl
              subst hR3
              clear HR2
              go_wp2_with fail
              all_goals
                refine (HSUM.out _ HROW.out.fr).mono ?_
                rintro e w2 ⟨rfl, n2, rfl⟩
                go_wp2_with fail
                refine Calls.mono (rfsum_any _ _ _ HROW.out.sl) ?_
                rintro e w4 ⟨rfl, n3, rfl⟩
                go_wp2_with fail
                refine (rcanon_any _ _).mono ?_
                rintro e w5 ⟨rfl, rfl⟩
                go_wp2_with fail
                go_ret2
                exact ⟨ret_fb true ((canon_fop_eq _ rfl).trans (fnV_3 _ _ _).symm), below_drewN HBW.out _⟩
            · have hR3 : R = (fnV 4 x t (to - fr), true) := by rw [HR2.out, if_neg (by simp [need])]; rfl
              subst hR3
              clear HR2
              go_wp2_with fail
              all_goals
                refine (HSUM.out _ HROW.out.fr).mono ?_
                rintro e w2 ⟨rfl, n2, rfl⟩
                go_wp2_with fail
                refine Calls.mono (rleast_any _ _ _ _ _ _ HROW.out.sl) ?_
                rintro e w4 ⟨rfl, rfl⟩
                go_wp2_with fail
                refine (rcanon_any _ _).mono ?_
                rintro e w5 ⟨rfl, rfl⟩
                go_wp2_with fail
                go_ret2
                exact ⟨ret_fb true ((fnV_4 _ _ _).symm), below_drewN HBW.out _⟩
            · have hR3 : R = (fnV 5 x t (to - fr), true) := by rw [HR2.out, if_neg (by simp [need])]; rfl
              subst hR3
              clear HR2
              go_wp2_with fail
              all_goals
                refine (HSUM.out _ HROW.out.fr).mono ?_
                rintro e w2 ⟨rfl, n2, rfl⟩
                go_wp2_with fail
                refine Calls.mono (rleast_any _ _ _ _ _ _ HROW.out.sl) ?_
                rintro e w4 ⟨rfl, rfl⟩
                go_wp2_with fail
                refine (rcanon_any _ _).mono ?_
                rintro e w5 ⟨rfl, rfl⟩
                go_wp2_with fail
                go_ret2
                exact ⟨ret_fb true ((fnV_5 _ _ _).symm), below_drewN HBW.out _⟩
            · have hR3 : R = (fnV 6 x t (to - fr), true) := by rw [HR2.out, if_neg (by simp [need])]; rfl
              subst hR3
              clear HR2
              go_wp2_with fail
              all_goals
                refine (HSUM.out _ HROW.out.fr).mono ?_
                rintro e w2 ⟨rfl, n2, rfl⟩
                go_wp2_with fail
                refine (rcanon_any _ _).mono ?_
                rintro e w5 ⟨rfl, rfl⟩
                go_wp2_with fail
                go_ret2
                exact ⟨ret_fb true ((congrArg canon HROW.out.hy).trans (fnV_6 _ _ _).symm), below_drewN HBW.out _⟩
            · have hR3 : R = (fnV 7 x t (to - fr), true) := by rw [HR2.out, if_neg (by simp [need])]; rfl
              subst hR3
              clear HR2
              go_wp2_with fail
              all_goals
                refine (HSUM.out _ HROW.out.fr).mono ?_
                rintro e w2 ⟨rfl, n2, rfl⟩
                go_wp2_with fail
                refine (rcanon_any _ _).mono ?_
                rintro e w5 ⟨rfl, rfl⟩
                go_wp2_with fail
                go_ret2
                exact ⟨ret_fb true ((fnV_7 _ _ _).symm), below_drewN HBW.out _⟩
            · by_cases ht0 : t.length = 0
              · have hR3 : R = (0, false) := by rw [HR2.out, if_pos (by simp [need]; omega)]
                subst hR3
                clear HR2
                go_wp2_with fail
                go_ret2
                exact ⟨rfl, HBW.out⟩
              · have hR3 : R = (fnV 8 x t (to - fr), true) := by rw [HR2.out, if_neg (by simp [need]; omega)]; rfl
                subst hR3
                clear HR2
                go_wp2_with fail
                refine (HSUM.out _ HROW.out.fr).mono ?_
                rintro e w2 ⟨rfl, n2, rfl⟩
                go_wp2_with fail
                refine Calls.mono (rincr_any _ _ _ _ _ HROW.out.sl HROW.out.hl) ?_
                rintro e w4 ⟨rfl, hb4⟩
                go_wp2_with fail
                refine (rcanon_any _ _).mono ?_
                rintro e w5 ⟨rfl, rfl⟩
                go_wp2_with fail
                go_ret2
                exact ⟨ret_fb true ((fnV_8 _ _ _).symm), (below_drewN HBW.out n2).trans (hb4.mono HBW.out.size)⟩
            · by_cases ht0 : t.length = 0
              · have hR3 : R = (0, false) := by rw [HR2.out, if_pos (by simp [need]; omega)]
                subst hR3
                clear HR2
                go_wp2_with fail
                go_ret2
                exact ⟨rfl, HBW.out⟩
              · have hR3 : R = (fnV 9 x t (to - fr), true) := by rw [HR2.out, if_neg (by simp [need]; omega)]; rfl
                subst hR3
                clear HR2
                go_wp2_with fail
                refine (HSUM.out _ HROW.out.fr).mono ?_
                rintro e w2 ⟨rfl, n2, rfl⟩
                go_wp2_with fail
                refine Calls.mono (rincr_any _ _ _ _ _ HROW.out.sl HROW.out.hl) ?_
                rintro e w4 ⟨rfl, hb4⟩
                go_wp2_with fail
                refine (rcanon_any _ _).mono ?_
                rintro e w5 ⟨rfl, rfl⟩
                go_wp2_with fail
                go_ret2
                exact ⟨ret_fb true ((canon_fop_r _ _ rfl).trans (fnV_9 _ _ _).symm), below_drewN ((below_drewN HBW.out _).trans (hb4.mono HBW.out.size)) _⟩
            · by_cases ht0 : t.length = 0
              · have hR3 : R = (0, false) := by rw [HR2.out, if_pos (by simp [need]; omega)]
                subst hR3
                clear HR2
                go_wp2_with fail
                go_ret2
                exact ⟨rfl, HBW.out⟩
              · have hR3 : R = (fnV 10 x t (to - fr), true) := by rw [HR2.out, if_neg (by simp [need]; omega)]; rfl
                subst hR3
                clear HR2
                go_wp2_with fail
                refine (HSUM.out _ HROW.out.fr).mono ?_
                rintro e w2 ⟨rfl, n2, rfl⟩
                go_wp2_with fail
                have hw4 : IntKind.i64.wrap (t.length : Int) = (t.length : Int) := IntWalk.i64_in _ (by omega)
                have hw5 : (0 : Int) ≤ (t.length : Int) := Int.natCast_nonneg _
                have hw6 : (t.length : Int) < (t.length : Int) + 1 := by omega
                go_region_law (fail)
                all_goals go_wp2_with fail
                all_goals
                  refine (rcanon_any _ _).mono ?_
                  rintro e w5 ⟨rfl, rfl⟩
                  go_wp2_with fail
                  go_ret2
                  exact ⟨ret_fb true ((canon_fop_eq _ (by rw [HROW.out.hy])).trans (fnV_10 _ _ _).symm), below_drewN HBW.out _⟩
            · have hR3 : R = (fnV 11 x t (to - fr), true) := by rw [HR2.out, if_neg (by simp [need])]; rfl
              subst hR3
              clear HR2
              go_wp2_with fail
              all_goals
                refine (HSUM.out _ HROW.out.fr).mono ?_
                rintro e w2 ⟨rfl, n2, rfl⟩
                go_wp2_with fail
                refine Calls.mono (changes_any _ _ _ _ _ _ HROW.out.sl HROW.out.hl) ?_
                rintro e w4 ⟨rfl, n3, rfl⟩
                go_wp2_with fail
                refine (rcanon_any _ _).mono ?_
                rintro e w5 ⟨rfl, rfl⟩
                go_wp2_with fail
                go_ret2
                exact ⟨ret_fb true ((congrArg (fun n : Nat => canon (fenc n)) (cnt_r1 _)).trans (fnV_11 _ _ _).symm), below_drewN HBW.out _⟩
            · have hR3 : R = (fnV 12 x t (to - fr), true) := by rw [HR2.out, if_neg (by simp [need])]; rfl
              subst hR3
              clear HR2
              go_wp2_with fail
              all_goals
                refine (HSUM.out _ HROW.out.fr).mono ?_
                rintro e w2 ⟨rfl, n2, rfl⟩
                go_wp2_with fail
                refine Calls.mono (changes_any _ _ _ _ _ _ HROW.out.sl HROW.out.hl) ?_
                rintro e w4 ⟨rfl, n3, rfl⟩
                go_wp2_with fail
                refine (rcanon_any _ _).mono ?_
                rintro e w5 ⟨rfl, rfl⟩
                go_wp2_with fail
                go_ret2
                exact ⟨ret_fb true ((congrArg (fun n : Nat => canon (fenc n)) (cnt_r2 _)).trans (fnV_12 _ _ _).symm), below_drewN HBW.out _⟩
            · have hR3 : R = (fnV 13 x t (to - fr), true) := by rw [HR2.out, if_neg (by simp [need])]; rfl
              subst hR3
              clear HR2
              go_wp2_with fail
              all_goals
                refine (HSUM.out _ HROW.out.fr).mono ?_
                rintro e w2 ⟨rfl, n2, rfl⟩
                go_wp2_with fail
                refine Calls.mono (rmag_any _ _ _) ?_
                rintro e w4 ⟨rfl, n3, rfl⟩
                go_wp2_with fail
                refine (rcanon_any _ _).mono ?_
                rintro e w5 ⟨rfl, rfl⟩
                go_wp2_with fail
                go_ret2
                exact ⟨ret_fb true ((fnV_13 _ _ _).symm), below_drewN HBW.out _⟩
            · have hR3 : R = (fnV 14 x t (to - fr), true) := by rw [HR2.out, if_neg (by simp [need])]; rfl
              subst hR3
              clear HR2
              go_wp2_with fail
              all_goals
                refine (HSUM.out _ HROW.out.fr).mono ?_
                rintro e w2 ⟨rfl, n2, rfl⟩
                go_wp2_with fail
                refine Calls.mono (rquarter_any _ _ _) ?_
                rintro e w4 ⟨rfl, rfl⟩
                go_wp2_with fail
                refine (rcanon_any _ _).mono ?_
                rintro e w5 ⟨rfl, rfl⟩
                go_wp2_with fail
                go_ret2
                exact ⟨ret_fb true ((fnV_14 _ _ _).symm), below_drewN HBW.out _⟩
    · rw [if_neg (by omega)] at hR
      subst hR
      have hft2 : to ≤ fr := by omega
      have hd1 : decide (to ≤ fr) = true := by simpa using hft2
      clear h
      go_enter Try.func22, Try.ntmps22
      go_wp2_with fail
      go_ret2
      exact ⟨rfl, Below.refl _ _⟩
  · rw [if_neg (by omega)] at hR
    subst hR
    clear h
    by_cases h1 : fn < 1
    · go_enter Try.func22, Try.ntmps22
      go_wp2_with fail
      go_ret2
      exact ⟨rfl, Below.refl _ _⟩
    · have h2 : 14 < fn := by omega
      go_enter Try.func22, Try.ntmps22
      go_wp2_with fail
      go_ret2
      exact ⟨rfl, Below.refl _ _⟩
end Go.Proofs.Ytidmbjgnkodiiaa
