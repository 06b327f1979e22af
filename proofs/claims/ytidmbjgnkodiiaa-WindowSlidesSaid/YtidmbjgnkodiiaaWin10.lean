/- Contract of Fn. -/
import Derived.Test.YtidmbjgnkodiiaaWin9a
import Derived.Test.YtidmbjgnkodiiaaWin9b
import Derived.Test.YtidmbjgnkodiiaaWin9c
namespace Go.Proofs.Ytidmbjgnkodiiaa
open Go.RowKit
set_option linter.unusedVariables false
set_option linter.unusedSimpArgs false

theorem value_any (fn : Int) (a : Option Addr) (cap x : Nat) (l : List Nat) (d : Int) (w : World) (h : Sl fenc1 w (.slice a (l.length + 1) cap) (x :: l)) (hl : l.length ≤ 1000000) (h1 : 1 ≤ fn) (h2 : fn ≤ 14) :
    Calls Try.prog 25 #[.int .i64 fn, .slice a (l.length + 1) cap, .int .i64 d] w fun e w' => ∃ r, e = .returned (.float .f64 r) ∧ canon r = fnV fn.toNat x l d ∧ Below w.heap.size w w' := by
  obtain ⟨b, off, y, hr⟩ := row1 h hl
  have hfn : fn = 1 ∨ fn = 2 ∨ fn = 3 ∨ fn = 4 ∨ fn = 5 ∨ fn = 6 ∨ fn = 7 ∨ fn = 8 ∨ fn = 9 ∨ fn = 10 ∨ fn = 11 ∨ fn = 12 ∨ fn = 13 ∨ fn = 14 := by omega
  rcases hfn with rfl | rfl | rfl | rfl | rfl | rfl | rfl | rfl | rfl | rfl | rfl | rfl | rfl | rfl
  · exact value_1 a cap x l d w b off y hr
  · exact value_2 a cap x l d w b off y hr
  · exact value_3 a cap x l d w b off y hr
  · exact value_4 a cap x l d w b off y hr
  · exact value_5 a cap x l d w b off y hr
  · exact value_6 a cap x l d w b off y hr
  · exact value_7 a cap x l d w b off y hr
  · exact value_8 a cap x l d w b off y hr
  · exact value_9 a cap x l d w b off y hr
  · exact value_10 a cap x l d w b off y hr
  · exact value_11 a cap x l d w b off y hr
  · exact value_12 a cap x l d w b off y hr
  · exact value_13 a cap x l d w b off y hr
  · exact value_14 a cap x l d w b off y hr

theorem ret_fb {a b : Nat} (t : Bool) (h : a = b) : Ending.returned (.tuple #[.float .f64 a, .bool t]) = .returned (.tuple #[.float .f64 b, .bool t]) := by rw [h]
def vals (fr to : Int) (l : List (Int × Nat)) : List Nat := (cutL fr to l).map Prod.snd
theorem vals_len (fr to : Int) (l : List (Int × Nat)) : (vals fr to l).length ≤ l.length := by unfold vals; rw [List.length_map]; exact cut_len _ _ _
def need (fn : Int) : Nat := if fn = 8 ∨ fn = 9 ∨ fn = 10 then 2 else 1
def fnP (fn d : Int) : List Nat → Nat × Bool
  | [] => (0, false)
  | x :: t => if t.length + 1 < need fn then (0, false) else (fnV fn.toNat x t d, true)
def fnR (fn fr to : Int) (l : List (Int × Nat)) : Nat × Bool := if 1 ≤ fn ∧ fn ≤ 14 ∧ fr < to then fnP fn (to - fr) (vals fr to l) else (0, false)
theorem nameOf_full (fn : Int) (h1 : 1 ≤ fn) (h2 : fn ≤ 14) : (nameOf fn).toList.isEmpty = false := by
  have hfn : fn = 1 ∨ fn = 2 ∨ fn = 3 ∨ fn = 4 ∨ fn = 5 ∨ fn = 6 ∨ fn = 7 ∨ fn = 8 ∨ fn = 9 ∨ fn = 10 ∨ fn = 11 ∨ fn = 12 ∨ fn = 13 ∨ fn = 14 := by omega
  rcases hfn with rfl | rfl | rfl | rfl | rfl | rfl | rfl | rfl | rfl | rfl | rfl | rfl | rfl | rfl <;> decide +kernel
theorem nameOf_none (fn : Int) (h : ¬(1 ≤ fn ∧ fn ≤ 14)) : nameOf fn = ⟨#[]⟩ := by unfold nameOf; rw [if_neg h]

set_option maxRecDepth 100000 in
set_option maxHeartbeats 4000000 in
theorem fn_any (fn : Int) (v : Value) (l : List (Int × Nat)) (fr to : Int) (w : World) (h : Sl tenc w v l) (hl : l.length ≤ 1000000)
    (hf : -1152921504606846976 ≤ fr ∧ fr ≤ 1152921504606846976) (ht : -1152921504606846976 ≤ to ∧ to ≤ 1152921504606846976) :
    Calls Try.prog 10 #[.int .i64 fn, v, .int .i64 fr, .int .i64 to] w fun e w' => e = .returned (.tuple #[.float .f64 (fnR fn fr to l).1, .bool (fnR fn fr to l).2]) ∧ Below w.heap.size w w' := by
  obtain ⟨R, hR⟩ : ∃ R, R = fnR fn fr to l := ⟨_, rfl⟩
  rw [← hR]
  unfold fnR at hR
  by_cases hin : 1 ≤ fn ∧ fn ≤ 14
  · have hnn := nameOf_full fn hin.1 hin.2
    obtain ⟨nm, hnm⟩ : ∃ nm, nm = nameOf fn := ⟨_, rfl⟩
    rw [← hnm] at hnn
    have hnn2 : nm.toList ≠ [] := by intro e; simp [e] at hnn
    have hname := name_any fn
    rw [← hnm] at hname
    have HNAME := Lib.hid hname
    clear hname hnm
    by_cases hft : fr < to
    · rw [if_pos ⟨hin.1, hin.2, hft⟩] at hR
      have HR := Lib.hid hR
      have H := Lib.hid h
      have hcut := cut8_any v l fr to
      have HCUT := Lib.hid hcut
      clear hcut hR h
      have hvl := vals_len fr to l
      obtain ⟨i0, hi, hz0, hz1, hz2⟩ := info_parts Try.infoF
      go_enter Try.func10, Try.ntmps10
      go_wp2_with fail
      refine (HNAME.out _).mono ?_
      rintro e w0 ⟨rfl, hb0⟩
      have HB0 := Lib.hid hb0
      clear hb0
      go_wp2_with fail
      refine (HCUT.out _ (H.out.below HB0.out (Nat.le_refl _)) hl).mono ?_
      rintro e w1 ⟨v1, rfl, hs1, hb1⟩
      obtain ⟨xs, hxs⟩ : ∃ xs, xs = cutL fr to l := ⟨_, rfl⟩
      rw [← hxs] at hs1
      have hvx : vals fr to l = xs.map Prod.snd := by rw [hxs]; rfl
      have hxl : xs.length ≤ l.length := by rw [hxs]; exact cut_len _ _ _
      have HVX := Lib.hid hvx
      obtain ⟨ca, ccap, rfl, hlen, -, hcc⟩ := hs1.split tenc_len
      have HC := Lib.hid hcc
      have hb01 : Below w.heap.size w w1 := HB0.out.trans (hb1.mono HB0.out.size)
      have HB1 := Lib.hid hb01
      clear hcc hs1 hb1 hvx hxs hb01
      go_wp2_with fail
      go_loopw [10, 27] (fun v i wr => ∃ (k : Nat) (ys : List Nat), k ≤ xs.length ∧ i = .int .i64 k ∧ wr.ownsRow w1.heap.size 38 1 v k (ys.map (Value.float .f64)) ∧ ys = (xs.take k).map Prod.snd ∧ Below w1.heap.size w1 wr) (fun _ i _ => xs.length - (intOf i).toNat)
      case atStart => exact ⟨0, [], Nat.zero_le _, rfl, by simpa using World.ownsRow_nil _ _ _ _, rfl, Below.refl _ _⟩
      case round =>
        obtain ⟨k, ys, hk, rfl, hown, hys, hb⟩ := hrel
        have HYS := Lib.hid hys
        clear hys
        have hB := hb.size
        have HO := Lib.hid hown
        have HB := Lib.hid hb
        by_cases hlt : k < xs.length
        · obtain ⟨b, off, rfl, hcc⟩ := HC.out k hlt
          obtain ⟨x, hx⟩ : ∃ x, x = xs[k] := ⟨_, rfl⟩
          rw [← hx] at hcc
          have hs : (xs.take (k + 1)).map Prod.snd = (xs.take k).map Prod.snd ++ [x.2] := by rw [List.take_succ_eq_append_getElem hlt, List.map_append, ← hx]; rfl
          have HS := Lib.hid hs
          have k0 : wr.cell? ⟨b, off + k * 2, none⟩ = some (.int .i64 x.1) := cell_below hb (Nat.le_refl _) (hcc 0 _ rfl)
          have k1 : wr.cell? ⟨b, off + k * 2 + 1, none⟩ = some (.float .f64 x.2) := cell_below hb (Nat.le_refl _) (hcc 1 _ rfl)
          clear hcc hs hx hb
          obtain ⟨t, y⟩ := x
          simp only at k0 k1
          have hk0 : (0 : Int) ≤ (k : Int) := Int.natCast_nonneg _
          have hk1 : (k : Int) < (xs.length : Int) := by omega
          go_wp2_with (at_builtin; refine wpList_append_own _ rfl _ _ 27 rfl w1.heap.size 38 i0 (.float .f64 0) 1 8 Try.underlying27 hi hz0 hz1 hz2 rfl (by decide) _ _ _ rfl ((hown.alloc _).alloc _) ⟨wr.heap.size + 1, 0, none⟩ 1 1 [.float .f64 y] rfl rfl ?c1 ?c2 ?c3 ?c4 ?c5 ?_)
          case c2 => first | rfl | (intro u hu; simp at hu; subst hu; rfl)
          case c3 => unfold maxLen; omega
          case c4 => omega
          case c5 => first | omega | (simp; omega)
          intro v' w2 hown' hgrow _
          have HG := Lib.hid hgrow
          have HO' := Lib.hid hown'
          clear hown hgrow hown'
          go_wp2_with fail
          go_roundw
          case rel =>
            refine ⟨k + 1, ys ++ [y], by omega, by go_num, by simpa using HO'.out, by rw [HS.out, HYS.out], ((HB.out.alloc hB _).alloc (by simp; omega) _).grown HG.out (by simp; omega) (fun j hj => (HO.out.lt j hj).1)⟩
          case measure => simp [intOf]; omega
        · obtain rfl : k = xs.length := by omega
          have hsl : Sl fenc1 wr u10 (vals fr to l) := Sl.own fenc1_len (by decide) (by have hq := HYS.out; rw [List.take_of_length_le (Nat.le_refl _)] at hq; rw [flat1, HVX.out, ← hq]; exact hown)
          have hbw : Below w.heap.size w wr := HB1.out.trans (hb.mono HB1.out.size)
          have HBW := Lib.hid hbw
          have hvl2 : (vals fr to l).length ≤ l.length := hvl
          obtain ⟨va, vcap, rfl, hvlen, hvnil, -⟩ := hsl.len (fun _ => by simp [fenc1])
          have HSL := Lib.hid hsl
          clear hown hb hbw hsl hvl HO hvnil
          have hRR := HR.out
          clear HR
          rcases hvv : vals fr to l with _ | ⟨x, t⟩
          · rw [hvv] at hRR HSL
            obtain rfl : R = (0, false) := hRR
            clear hvv
            simp only [List.length_nil] at *
            by_cases h8 : fn = 8
            · go_wp2_with fail
              go_ret2
              exact ⟨rfl, HBW.out⟩
            · by_cases h9 : fn = 9
              · go_wp2_with fail
                go_ret2
                exact ⟨rfl, HBW.out⟩
              · by_cases h10 : fn = 10
                · go_wp2_with fail
                  go_ret2
                  exact ⟨rfl, HBW.out⟩
                · have b8 : (fn == 8) = false := by simpa using h8
                  have b9 : (fn == 9) = false := by simpa using h9
                  have b10 : (fn == 10) = false := by simpa using h10
                  go_wp2_with fail
                  go_ret2
                  exact ⟨rfl, HBW.out⟩
          · rw [hvv] at hRR HSL hvl2 hvlen
            clear hvv
            simp only [List.length_cons] at HSL hvl2 hvlen ⊢
            have hR2 : R = if t.length + 1 < need fn then (0, false) else (fnV fn.toNat x t (to - fr), true) := hRR
            have HR2 := Lib.hid hR2
            clear hRR hR2
            by_cases h8 : fn = 8 ∨ fn = 9 ∨ fn = 10
            · have hn2 : need fn = 2 := by unfold need; rw [if_pos h8]
              by_cases ht0 : t.length = 0
              · have hR3 := HR2.out
                rw [hn2, if_pos (by omega)] at hR3
                subst hR3
                clear HR2 hn2
                rcases h8 with rfl | rfl | rfl
                all_goals
                  go_wp2_with fail
                  go_ret2
                  exact ⟨rfl, HBW.out⟩
              · have hR3 := HR2.out
                rw [hn2, if_neg (by omega)] at hR3
                subst hR3
                clear HR2 hn2
                rcases h8 with rfl | rfl | rfl
                all_goals
                  go_wp2_with fail
                  refine Calls.mono (value_any _ _ _ x t _ _ HSL.out (by omega) (by omega) (by omega)) ?_
                  rintro e w2 ⟨r, rfl, hr, hb2⟩
                  have HRR := Lib.hid hr
                  have HB2 := Lib.hid hb2
                  clear hr hb2
                  go_wp2_with fail
                  refine (canon_any _ _).mono ?_
                  rintro e w3 ⟨rfl, rfl⟩
                  go_wp2_with fail
                  go_ret2
                  exact ⟨ret_fb true HRR.out, HBW.out.trans (HB2.out.mono HBW.out.size)⟩
            · have hn2 : need fn = 1 := by unfold need; rw [if_neg h8]
              have hR3 := HR2.out
              rw [hn2, if_neg (by omega)] at hR3
              subst hR3
              clear HR2 hn2
              obtain ⟨h8, h9, h10⟩ : ¬ fn = 8 ∧ ¬ fn = 9 ∧ ¬ fn = 10 := by omega
              have b8 : (fn == 8) = false := by simpa using h8
              have b9 : (fn == 9) = false := by simpa using h9
              have b10 : (fn == 10) = false := by simpa using h10
              go_wp2_with fail
              refine Calls.mono (value_any _ _ _ x t _ _ HSL.out (by omega) (by omega) (by omega)) ?_
              rintro e w2 ⟨r, rfl, hr, hb2⟩
              have HRR := Lib.hid hr
              have HB2 := Lib.hid hb2
              clear hr hb2
              go_wp2_with fail
              refine (canon_any _ _).mono ?_
              rintro e w3 ⟨rfl, rfl⟩
              go_wp2_with fail
              go_ret2
              exact ⟨ret_fb true HRR.out, HBW.out.trans (HB2.out.mono HBW.out.size)⟩
    · rw [if_neg (by omega)] at hR
      subst hR
      have hft2 : to ≤ fr := by omega
      go_enter Try.func10, Try.ntmps10
      go_wp2_with fail
      refine (HNAME.out _).mono ?_
      rintro e w0 ⟨rfl, hb0⟩
      have HB0 := Lib.hid hb0
      clear hb0
      go_wp2_with fail
      go_ret2
      exact ⟨rfl, HB0.out⟩
  · rw [if_neg (by omega)] at hR
    subst hR
    have hname := name_any fn
    rw [nameOf_none fn hin] at hname
    have HNAME := Lib.hid hname
    clear hname
    go_enter Try.func10, Try.ntmps10
    go_wp2_with fail
    refine (HNAME.out _).mono ?_
    rintro e w0 ⟨rfl, hb0⟩
    have HB0 := Lib.hid hb0
    clear hb0
    go_wp2_with fail
    go_ret2
    exact ⟨rfl, HB0.out⟩
end Go.Proofs.Ytidmbjgnkodiiaa
