/- The document's Map, Scaled, Label. -/
import Derived.Test.YtkflhfdpdgnbfaaVw2
namespace Go.Proofs.Ytkflhfdpdgnbfaa
open Go Go.RowKit
set_option linter.unusedVariables false
set_option linter.unusedSimpArgs false
set_option maxRecDepth 100000
theorem nr_congr {l l' : List Pt} {e : Ending} {w : World} (he : l.map canonP = l'.map canonP) (h : NR l e w) : NR l' e w := by
  have hr : ∀ (l : List Pt), (∀ p ∈ l, rightL p.1 = true) ↔ ∀ p ∈ l.map canonP, rightL p.1 = true := fun l => by
    constructor
    · intro h p hp
      obtain ⟨q, hq, rfl⟩ := List.mem_map.1 hp
      exact h q hq
    · intro h p hp
      exact h (canonP p) (List.mem_map.2 ⟨p, hp, rfl⟩)
  have hf : (∃ p ∈ l, rightL p.1 = false) → ∃ p ∈ l', rightL p.1 = false := by
    rintro ⟨p, hp, h1⟩
    have h2 : canonP p ∈ l'.map canonP := by rw [← he]; exact List.mem_map.2 ⟨p, hp, rfl⟩
    obtain ⟨q, hq, hqe⟩ := List.mem_map.1 h2
    refine ⟨q, hq, ?_⟩
    have : q.1 = p.1 := by show (canonP q).1 = (canonP p).1; rw [hqe]
    rw [this]; exact h1
  rcases h with ⟨h1, h2⟩ | ⟨h1, h2, h3⟩ | ⟨h1, q, v, h2, h3⟩
  · exact .inl ⟨hf h1, h2⟩
  · exact .inr (.inl ⟨(hr l').2 (by rw [← he]; exact (hr l).1 h1), by rw [← he]; exact h2, h3⟩)
  · exact .inr (.inr ⟨(hr l').2 (by rw [← he]; exact (hr l).1 h1), q, v, by rw [← he]; exact h2, h3⟩)
/-- A point laid behind a row of one's own. -/
theorem OV.push {w2 wA w10 : World} {base : Nat} {v v' lv : Value} {l : List Lb} {y : Nat} {ps : List Pt} {zs : List ZPt} (hzs : zs.map (·.2) = ps) (hzo : ∀ z ∈ zs, ZOk w2 v.ownBlock z) (hbC : Below w2.heap.size w2 wA)
    (hs : Sl lenc wA lv l) (hfr : l ≠ [] → lv.ownBlock ≠ v.ownBlock) (ho : w10.ownsRow base 35 2 v' (ps.length + 1) (zs.flatMap zenc ++ [lv, .float .f64 y])) (hg : wA.grownBy w10 v.ownBlock) (hat : v'.ownBlock = v.ownBlock ∨ v'.ownBlock = some wA.heap.size) : OV w10 base v' (ps ++ [(l, y)]) :=
  OV.appended (z := (lv, l, y)) hzs (fun z hz => (hzo z hz).below hbC (Nat.le_refl _)) ⟨hs, hfr⟩ ho hg hat
theorem wf_f {b : Nat} (h : (Lit.float .f64 b).wf = true) : b < 18446744073709551616 := by
  have : decide (b < 2 ^ 64) = true := h
  exact of_decide_eq_true this
set_option maxHeartbeats 8000000 in
theorem rmap_any (v : Value) (ps : List Pt) (fn : Int) (x : Nat) (w : World) (h : VS w v ps) (hl : ps.length ≤ 100000) (hz : ∀ p ∈ ps, p.1.length ≤ 1000000) (hwf : ∀ p ∈ ps, p.2 < 18446744073709551616) :
    Calls Try.prog 19 #[v, .int .i64 fn, .float .f64 x] w fun e w' => Below w.heap.size w w' ∧ NRor (fnOk fn) (ps.filterMap (fnF fn x)) e w' := by
  have HFN := Lib.hid (fun w => rfn_any fn 0 0 w (by decide))
  have HFX := Lib.hid (fun y w (hy : y < 18446744073709551616) => rfn_any fn y x w hy)
  obtain ⟨ok, hok⟩ : ∃ b, b = fnOk fn := ⟨_, rfl⟩
  rw [← hok] at HFN HFX ⊢
  obtain ⟨a, cap, rfl, hlen, hc⟩ := h.split
  have HC := Lib.hid hc
  have HHZ := Lib.hid hz
  have HWF := Lib.hid hwf
  obtain ⟨i0, hi, hz0, hz1, hz2⟩ := info_parts Try.infoPt
  clear h hc hok hz hwf
  cases ok with
  | false =>
    go_enter Try.func19, Try.ntmps19
    go_wp2_with fail
    refine (HFN.out _).mono ?_
    rintro e w1 ⟨⟨y, rfl, -⟩, n1, rfl⟩
    go_wp2_with fail
    go_ret2
    exact ⟨below_drewN (Below.refl _ _) _, rfl⟩
  | true =>
    go_enter Try.func19, Try.ntmps19
    go_wp2_with fail
    refine (HFN.out _).mono ?_
    rintro e w1 ⟨⟨y, rfl, -⟩, n1, rfl⟩
    go_wp2_with fail
    go_loopw [10, 11] (fun v i wr => ∃ (k : Nat) (qs : List Pt), k ≤ ps.length ∧ i = .int .i64 k ∧ OV wr w.heap.size v qs ∧ Hid (qs.length = k) ∧ Hid (qs.map canonP = ((ps.take k).filterMap (fnF fn x)).map canonP) ∧ Hid (Below w.heap.size w wr)) (fun _ i _ => ps.length - (intOf i).toNat)
    case atStart => exact ⟨0, [], Nat.zero_le _, rfl, OV.nil _ _, rfl, rfl, below_drewN (Below.refl _ _) _⟩
    case round =>
      obtain ⟨k, qs, hk, rfl, hov, HQL, HQ, HB⟩ := hrel
      have hBz := HB.out.size
      have h00 : (0 : Int) ≤ (k : Int) := by omega
      by_cases hlt : k < ps.length
      · have hltz : (k : Int) < (ps.length : Int) := by omega
        obtain ⟨b, off, lv, rfl, k0, k1, hsl⟩ := HC.out k hlt
        have p0 := cell_below HB.out (Nat.le_refl _) k0
        have p1 := cell_below HB.out (Nat.le_refl _) k1
        have hmem := List.getElem_mem hlt
        obtain ⟨z, hzE⟩ : ∃ z, z = ps[k].2 := ⟨_, rfl⟩
        have HF := Lib.hid (fun w' => HFX.out z w' (by rw [hzE]; exact HWF.out _ hmem))
        rw [← hzE] at p1
        have HNL := Lib.hid (fun w' (hb : Below w.heap.size w w') => rnameless_any lv ps[k].1 w' (hsl.below hb (Nat.le_refl _)) (HHZ.out _ hmem))
        have HTF := Lib.hid (take_fm (f := fnF fn x) ps k hlt)
        obtain ⟨a2, n2, c2, rfl⟩ : ∃ a2 n2 c2, lv = .slice a2 n2 c2 := by
          obtain ⟨a2, c2, e, -⟩ := hsl
          exact ⟨a2, _, c2, e⟩
        have HZE := Lib.hid hzE
        have HOV := Lib.hid hov
        clear hsl k0 k1 hmem hzE hov
        go_wp2_with fail
        refine (HF.out _).mono ?_
        rintro e w2 ⟨⟨y2, rfl, hy2⟩, n2', rfl⟩
        have HY := Lib.hid (hy2 trivial)
        have HB2 := Lib.hid (below_drewN HB.out n2')
        have hov2 := HOV.out.kept (below_drewN (Below.refl _ _) n2')
        have p0' : (wr.drewN n2').cell? ⟨b, off + k * 2, none⟩ = some (.slice a2 n2 c2) := p0
        have hz2' : (wr.drewN n2').heap.size = wr.heap.size := rfl
        clear hy2 p0 p1
        generalize wr.drewN n2' = w2 at HB2 hov2 p0' hz2' ⊢
        have HOV2 := Lib.hid hov2
        clear hov2
        go_wp2_with fail
        refine (HNL.out _ HB2.out).mono ?_
        rintro e w3 ⟨a9, n9, c9, rfl, hs9, ho9, hb9⟩
        have HB3 := Lib.hid (HB2.out.trans (hb9.mono HB2.out.size))
        obtain ⟨zs, hzs, hown3, hzo⟩ := HOV2.out.kept hb9
        have hnl : ∀ j, u10.ownBlock = some j → w.heap.size ≤ j ∧ j < w2.heap.size := fun j e => by
          obtain ⟨_, _, ho, _⟩ := HOV2.out
          exact ho.lt j e
        have HNO := Lib.hid hnl
        have HZS := Lib.hid hzs
        have HZO := Lib.hid hzo
        have HO3 := Lib.hid hown3
        have HO9 := Lib.hid ho9
        have HS9 := Lib.hid hs9
        have hz23 : w2.heap.size ≤ w3.heap.size := hb9.size
        rw [HQL.out] at hown3
        clear hzs hzo hnl ho9 hs9 hb9
        go_wp2_with (at_builtin; refine wpList_append_own_at _ rfl _ _ 22 rfl w.heap.size 35 i0 (.agg #[.slice none 0 0, .float .f64 0]) 2 32 Try.underlying22 hi hz0 hz1 hz2 rfl (by decide) u10 k (zs.flatMap zenc) rfl (hown3.alloc _) ⟨w3.heap.size, 0, none⟩ 1 1 [.slice a9 n9 c9, .float .f64 y2] rfl rfl (World.news_of_block (heap_new _ _)) ?c2 ?c3 ?c4 ?c5 ?_)
        case c2 => intro u hu; simp at hu; rcases hu with rfl | rfl <;> rfl
        case c3 => unfold maxLen; omega
        case c4 => omega
        case c5 => simp; omega
        intro v' w10 hown' hgrow _ hat
        have hbC : Below w3.heap.size w3 (w3.alloc (.cells #[.slice a9 n9 c9, .float .f64 y2] 35)) := (Below.refl _ _).alloc (Nat.le_refl _) _
        have hov' : OV w10 w.heap.size v' (qs ++ [(namelessL ps[k].1, y2)]) := OV.push HZS.out HZO.out hbC (HS9.out.below hbC (Nat.le_refl _)) (fun hx he => by
          obtain ⟨j, e1, e2⟩ := HS9.out.lt hx
          have h3 := HNO.out j (by rw [← he]; exact e1)
          have h4 := HO9.out j e1
          omega) (by rw [HQL.out]; exact hown') hgrow (by simpa using hat)
        have hbW : Below w.heap.size w w10 := (HB3.out.alloc (by omega) _).grown hgrow (by simp; omega) (fun j hj => (HO3.out.lt j hj).1)
        have HOV' := Lib.hid hov'
        have HBW := Lib.hid hbW
        clear hov' hbW hbC hgrow hat hown' hown3
        go_wp2_with fail
        go_roundw
        case rel =>
          refine ⟨k + 1, _, by omega, by go_num, HOV'.out, by show _ = _; simp [HQL.out], ?_, HBW.out⟩
          show _ = _
          rw [HTF.out, List.map_append, List.map_append, HQ.out]
          congr 1
          show [(namelessL ps[k].1, canon y2)] = [(namelessL ps[k].1, canon (fnV fn ps[k].2 x))]
          rw [HY.out, ← HZE.out]
          have hcc : canon (fnV fn z x) = fnV fn z x := by rw [← HY.out, canon_canon]
          rw [hcc]
        case measure => simp [intOf]; omega
      · have hltz : ¬ (k : Int) < (ps.length : Int) := by omega
        obtain rfl : k = ps.length := by omega
        have hQ := HQ.out
        rw [List.take_of_length_le (Nat.le_refl _)] at hQ
        have HQE := Lib.hid hQ
        obtain ⟨a4, c4, rfl, hc4, hc5⟩ := hov.slice
        have HNM := Lib.hid (rnormal_any _ _ wr hov.vs (by rw [HQL.out]; exact hl))
        rw [HQL.out] at HNM ⊢
        clear hov hQ
        go_wp2_with fail
        refine HNM.out.mono ?_
        rintro e w2 ⟨hb2, hn⟩
        have HB2 := Lib.hid (HB.out.trans (hb2.mono hBz))
        have HN := Lib.hid (show NRor true (ps.filterMap (fnF fn x)) e w2 from nr_congr HQE.out hn)
        rcases hn with ⟨-, rfl⟩ | ⟨-, -, rfl⟩ | ⟨-, qs', v', -, -, rfl, hv⟩
        · go_wp2_with fail
          go_ret2
          exact ⟨HB2.out, HN.out⟩
        · go_wp2_with fail
          go_ret2
          exact ⟨HB2.out, HN.out⟩
        · obtain ⟨a5, c5, rfl, -, -⟩ := hv.split
          clear hv
          go_wp2_with fail
          go_ret2
          exact ⟨HB2.out, HN.out⟩
set_option maxHeartbeats 8000000 in
theorem rscaled_filter (v : Value) (ps : List Pt) (x : Nat) (left : Bool) (op : Int) (w : World) (h : VS w v ps) (hl : ps.length ≤ 100000) (h5 : 5 ≤ op) (h10 : op ≤ 10) :
    Calls Try.prog 20 #[v, .int .i64 op, .float .f64 x, .bool left, .bool false] w fun e w' => Below w.heap.size w w' ∧ NR (ps.filterMap (filterF op x left)) e w' := by
  obtain ⟨a, cap, rfl, hlen, hc⟩ := h.split
  have HC := Lib.hid hc
  obtain ⟨i0, hi, hz0, hz1, hz2⟩ := info_parts Try.infoPt
  have hd1 : decide (op < 1) = false := decide_eq_false (by omega)
  have hd2 : decide (10 < op) = false := decide_eq_false (by omega)
  have hd5 : decide (5 ≤ op) = true := decide_eq_true h5
  clear h hc
  go_enter Try.func20, Try.ntmps20
  go_wp2_with fail
  go_loopw [12, 13] (fun v i wr => ∃ (k : Nat), k ≤ ps.length ∧ i = .int .i64 k ∧ OV wr w.heap.size v ((ps.take k).filterMap (filterF op x left)) ∧ Hid (Below w.heap.size w wr)) (fun _ i _ => ps.length - (intOf i).toNat)
  case atStart => exact ⟨0, Nat.zero_le _, rfl, OV.nil _ _, Below.refl _ _⟩
  case round =>
    obtain ⟨k, hk, rfl, hov, HB⟩ := hrel
    have hBz := HB.out.size
    have h00 : (0 : Int) ≤ (k : Int) := by omega
    by_cases hlt : k < ps.length
    · have hltz : (k : Int) < (ps.length : Int) := by omega
      obtain ⟨b, off, lv, rfl, k0, k1, hsl⟩ := HC.out k hlt
      have p0 := cell_below HB.out (Nat.le_refl _) k0
      have p1 := cell_below HB.out (Nat.le_refl _) k1
      obtain ⟨z, hzE⟩ : ∃ z, z = ps[k].2 := ⟨_, rfl⟩
      rw [← hzE] at p1
      have HH := Lib.hid (fun w => rholds_any op (sideF left x z).1 (sideF left x z).2 w)
      have HTF := Lib.hid (take_fm (f := filterF op x left) ps k hlt)
      have hfk : filterF op x left ps[k] = if holdsF op (sideF left x z).1 (sideF left x z).2 = true then some ps[k] else none := by rw [hzE]; rfl
      rw [hfk] at HTF
      obtain ⟨r, hr⟩ : ∃ r, r = holdsF op (sideF left x z).1 (sideF left x z).2 := ⟨_, rfl⟩
      rw [← hr] at HH HTF
      have HSL := Lib.hid hsl
      obtain ⟨a2, n2, c2, rfl⟩ : ∃ a2 n2 c2, lv = .slice a2 n2 c2 := by
        obtain ⟨a2, c2, e, -⟩ := hsl
        exact ⟨a2, _, c2, e⟩
      have HZE := Lib.hid hzE
      have HLN := Lib.hid (show ((ps.take k).filterMap (filterF op x left)).length ≤ ps.length from Nat.le_trans (List.length_filterMap_le _ _) (by simp; omega))
      have HOV := Lib.hid hov
      clear hsl k0 k1 hzE hov hfk hr
      cases r with
      | false =>
        cases left
        all_goals
          simp only [sideF, if_true, if_false, Bool.false_eq_true] at HH
          go_wp2_with fail
          refine (HH.out _).mono ?_
          rintro e w2 ⟨rfl, rfl⟩
          go_wp2_with fail
          go_roundw
          case rel => exact ⟨k + 1, by omega, by go_num, by rw [HTF.out]; simpa using HOV.out, HB.out⟩
          case measure => simp [intOf]; omega
      | true =>
        obtain ⟨zs, hzs, hown3, hzo⟩ := HOV.out
        obtain ⟨N, hN⟩ : ∃ N, N = ((ps.take k).filterMap (filterF op x left)).length := ⟨_, rfl⟩
        have HN := Lib.hid hN
        rw [← hN] at hown3
        have hNl : N ≤ 100000 := by have := HLN.out; omega
        have HZS := Lib.hid hzs
        have HZO := Lib.hid hzo
        have HO3 := Lib.hid hown3
        clear hzs hzo hN
        cases left
        all_goals
          simp only [sideF, if_true, if_false, Bool.false_eq_true] at HH
          go_wp2_with fail
          refine (HH.out _).mono ?_
          rintro e w2 ⟨rfl, rfl⟩
          go_wp2_with (at_builtin; refine wpList_append_own_at _ rfl _ _ 22 rfl w.heap.size 35 i0 (.agg #[.slice none 0 0, .float .f64 0]) 2 32 Try.underlying22 hi hz0 hz1 hz2 rfl (by decide) u12 N (zs.flatMap zenc) rfl (hown3.alloc _) ⟨wr.heap.size, 0, none⟩ 1 1 [.slice a2 n2 c2, .float .f64 z] rfl rfl (World.news_of_block (heap_new _ _)) ?c2 ?c3 ?c4 ?c5 ?_)
          case c2 => intro u hu; simp at hu; rcases hu with rfl | rfl <;> rfl
          case c3 => unfold maxLen; omega
          case c4 => omega
          case c5 => simp; omega
          intro v' w10 hown' hgrow _ hat
          have hbC : Below wr.heap.size wr (wr.alloc (.cells #[.slice a2 n2 c2, .float .f64 z] 35)) := (Below.refl _ _).alloc (Nat.le_refl _) _
          have hov' : OV w10 w.heap.size v' ((ps.take k).filterMap (filterF op x _) ++ [(ps[k].1, z)]) := OV.push HZS.out HZO.out hbC ((HSL.out.below HB.out (Nat.le_refl _)).below hbC (Nat.le_refl _)) (fun hx he => by
            obtain ⟨j, e1, e2⟩ := HSL.out.lt hx
            have h3 := (HO3.out.lt j (by rw [← he]; exact e1)).1
            omega) (by rw [← HN.out]; exact hown') hgrow (by simpa using hat)
          have hbW : Below w.heap.size w w10 := (HB.out.alloc (by omega) _).grown hgrow (by simp; omega) (fun j hj => (HO3.out.lt j hj).1)
          have HOV' := Lib.hid hov'
          have HBW := Lib.hid hbW
          clear hov' hbW hbC hgrow hat hown'
          go_wp2_with fail
          go_roundw
          case rel =>
            refine ⟨k + 1, by omega, by go_num, ?_, HBW.out⟩
            rw [HTF.out]
            have := HOV'.out
            rw [HZE.out] at this
            exact this
          case measure => simp [intOf]; omega
    · have hltz : ¬ (k : Int) < (ps.length : Int) := by omega
      obtain rfl : k = ps.length := by omega
      rw [List.take_of_length_le (Nat.le_refl _)] at hov
      obtain ⟨a4, c4, rfl, hc4, hc5⟩ := hov.slice
      have HNM := Lib.hid (rnormal_any _ _ wr hov.vs (Nat.le_trans (List.length_filterMap_le _ _) hl))
      obtain ⟨N, hN⟩ : ∃ N, N = (ps.filterMap (filterF op x left)).length := ⟨_, rfl⟩
      rw [← hN] at HNM ⊢
      clear hov hN
      go_wp2_with fail
      refine HNM.out.mono ?_
      rintro e w2 ⟨hb2, hn⟩
      have HB2 := Lib.hid (HB.out.trans (hb2.mono hBz))
      have HN := Lib.hid hn
      rcases hn with ⟨-, rfl⟩ | ⟨-, -, rfl⟩ | ⟨-, qs', v', -, -, rfl, hv⟩
      · go_wp2_with fail
        go_ret2
        exact ⟨HB2.out, HN.out⟩
      · go_wp2_with fail
        go_ret2
        exact ⟨HB2.out, HN.out⟩
      · obtain ⟨a5, c5, rfl, -, -⟩ := hv.split
        clear hv
        go_wp2_with fail
        go_ret2
        exact ⟨HB2.out, HN.out⟩
set_option maxHeartbeats 8000000 in
theorem rscaled_map (v : Value) (ps : List Pt) (x : Nat) (left flag : Bool) (op : Int) (w : World) (h : VS w v ps) (hl : ps.length ≤ 100000) (hz : ∀ p ∈ ps, p.1.length ≤ 1000000) (h1 : 1 ≤ op) (h10 : op ≤ 10) (hm : ¬ (5 ≤ op ∧ flag = false)) :
    Calls Try.prog 20 #[v, .int .i64 op, .float .f64 x, .bool left, .bool flag] w fun e w' => Below w.heap.size w w' ∧ NR (ps.filterMap (mapF op x left)) e w' := by
  obtain ⟨a, cap, rfl, hlen, hc⟩ := h.split
  have HC := Lib.hid hc
  have HHZ := Lib.hid hz
  obtain ⟨i0, hi, hz0, hz1, hz2⟩ := info_parts Try.infoPt
  have hd1 : decide (op < 1) = false := decide_eq_false (by omega)
  have hd2 : decide (10 < op) = false := decide_eq_false (by omega)
  have hok : opOk op = true := by unfold opOk; rw [Bool.and_eq_true]; exact ⟨decide_eq_true h1, decide_eq_true h10⟩
  have HOK := Lib.hid hok
  have hmode : (op < 5) ∨ (5 ≤ op ∧ flag = true) := by
    by_cases h : op < 5
    · exact .inl h
    · refine .inr ⟨by omega, ?_⟩
      cases flag
      · exact absurd ⟨by omega, rfl⟩ hm
      · rfl
  clear h hc hm hz hok
  rcases hmode with hlo | ⟨hhi, rfl⟩
  case' inl =>
    have hd5 : decide (5 ≤ op) = false := decide_eq_false (by omega)
    clear hlo
  case' inr =>
    have hd5 : decide (5 ≤ op) = true := decide_eq_true hhi
    clear hhi
  all_goals
    go_enter Try.func20, Try.ntmps20
    go_wp2_with fail
    go_loopw [12, 13] (fun v i wr => ∃ (k : Nat), k ≤ ps.length ∧ i = .int .i64 k ∧ OV wr w.heap.size v ((ps.take k).filterMap (mapF op x left)) ∧ Hid (Below w.heap.size w wr)) (fun _ i _ => ps.length - (intOf i).toNat)
    case atStart => exact ⟨0, Nat.zero_le _, rfl, OV.nil _ _, Below.refl _ _⟩
    case round =>
      obtain ⟨k, hk, rfl, hov, HB⟩ := hrel
      have hBz := HB.out.size
      have h00 : (0 : Int) ≤ (k : Int) := by omega
      by_cases hlt : k < ps.length
      · have hltz : (k : Int) < (ps.length : Int) := by omega
        obtain ⟨b, off, lv, rfl, k0, k1, hsl⟩ := HC.out k hlt
        have p0 := cell_below HB.out (Nat.le_refl _) k0
        have p1 := cell_below HB.out (Nat.le_refl _) k1
        have hmem := List.getElem_mem hlt
        obtain ⟨z, hzE⟩ : ∃ z, z = ps[k].2 := ⟨_, rfl⟩
        rw [← hzE] at p1
        have HF := Lib.hid (fun w => rop_any op (sideF left x z).1 (sideF left x z).2 w)
        rw [HOK.out] at HF
        have HNL := Lib.hid (fun w' (hb : Below w.heap.size w w') => rnameless_any lv ps[k].1 w' (hsl.below hb (Nat.le_refl _)) (HHZ.out _ hmem))
        have HTF := Lib.hid (take_fm (f := mapF op x left) ps k hlt)
        have hfk : mapF op x left ps[k] = some (namelessL ps[k].1, opV op (sideF left x z).1 (sideF left x z).2) := by rw [hzE]; rfl
        rw [hfk] at HTF
        obtain ⟨y2, hy2⟩ : ∃ y2, y2 = opV op (sideF left x z).1 (sideF left x z).2 := ⟨_, rfl⟩
        rw [← hy2] at HF HTF
        obtain ⟨a2, n2, c2, rfl⟩ : ∃ a2 n2 c2, lv = .slice a2 n2 c2 := by
          obtain ⟨a2, c2, e, -⟩ := hsl
          exact ⟨a2, _, c2, e⟩
        have HLN := Lib.hid (show ((ps.take k).filterMap (mapF op x left)).length ≤ ps.length from Nat.le_trans (List.length_filterMap_le _ _) (by simp; omega))
        have HOV := Lib.hid hov
        clear hsl k0 k1 hmem hzE hov hfk hy2
        obtain ⟨N, hN⟩ : ∃ N, N = ((ps.take k).filterMap (mapF op x left)).length := ⟨_, rfl⟩
        have hNl : N ≤ 100000 := by have := HLN.out; omega
        have HN := Lib.hid hN
        clear hN
        cases left
        all_goals
          simp only [sideF, if_true, if_false, Bool.false_eq_true] at HF
          go_wp2_with fail
          refine (HF.out _).mono ?_
          rintro e w2 ⟨rfl, n2', rfl⟩
          have HB2 := Lib.hid (below_drewN HB.out n2')
          have hov2 := HOV.out.kept (below_drewN (Below.refl _ _) n2')
          have p0' : (wr.drewN n2').cell? ⟨b, off + k * 2, none⟩ = some (.slice a2 n2 c2) := p0
          have hz2' : (wr.drewN n2').heap.size = wr.heap.size := rfl
          clear p0 p1
          generalize wr.drewN n2' = w2 at HB2 hov2 p0' hz2' ⊢
          have HOV2 := Lib.hid hov2
          clear hov2
          go_wp2_with fail
          refine (HNL.out _ HB2.out).mono ?_
          rintro e w3 ⟨a9, n9, c9, rfl, hs9, ho9, hb9⟩
          have HB3 := Lib.hid (HB2.out.trans (hb9.mono HB2.out.size))
          obtain ⟨zs, hzs, hown3, hzo⟩ := HOV2.out.kept hb9
          have hnl : ∀ j, u12.ownBlock = some j → w.heap.size ≤ j ∧ j < w2.heap.size := fun j e => by
            obtain ⟨_, _, ho, _⟩ := HOV2.out
            exact ho.lt j e
          have HNO := Lib.hid hnl
          have HZS := Lib.hid hzs
          have HZO := Lib.hid hzo
          have HO3 := Lib.hid hown3
          have HO9 := Lib.hid ho9
          have HS9 := Lib.hid hs9
          have hz23 : w2.heap.size ≤ w3.heap.size := hb9.size
          rw [← HN.out] at hown3
          clear hzs hzo hnl ho9 hs9 hb9
          go_wp2_with (at_builtin; refine wpList_append_own_at _ rfl _ _ 22 rfl w.heap.size 35 i0 (.agg #[.slice none 0 0, .float .f64 0]) 2 32 Try.underlying22 hi hz0 hz1 hz2 rfl (by decide) u12 N (zs.flatMap zenc) rfl (hown3.alloc _) ⟨w3.heap.size, 0, none⟩ 1 1 [.slice a9 n9 c9, .float .f64 y2] rfl rfl (World.news_of_block (heap_new _ _)) ?c2 ?c3 ?c4 ?c5 ?_)
          case c2 => intro u hu; simp at hu; rcases hu with rfl | rfl <;> rfl
          case c3 => unfold maxLen; omega
          case c4 => omega
          case c5 => simp; omega
          intro v' w10 hown' hgrow _ hat
          have hbC : Below w3.heap.size w3 (w3.alloc (.cells #[.slice a9 n9 c9, .float .f64 y2] 35)) := (Below.refl _ _).alloc (Nat.le_refl _) _
          have hov' : OV w10 w.heap.size v' ((ps.take k).filterMap (mapF op x _) ++ [(namelessL ps[k].1, y2)]) := OV.push HZS.out HZO.out hbC (HS9.out.below hbC (Nat.le_refl _)) (fun hx he => by
            obtain ⟨j, e1, e2⟩ := HS9.out.lt hx
            have h3 := HNO.out j (by rw [← he]; exact e1)
            have h4 := HO9.out j e1
            omega) (by rw [← HN.out]; exact hown') hgrow (by simpa using hat)
          have hbW : Below w.heap.size w w10 := (HB3.out.alloc (by omega) _).grown hgrow (by simp; omega) (fun j hj => (HO3.out.lt j hj).1)
          have HOV' := Lib.hid hov'
          have HBW := Lib.hid hbW
          clear hov' hbW hbC hgrow hat hown' hown3
          go_wp2_with fail
          go_roundw
          case rel => exact ⟨k + 1, by omega, by go_num, by rw [HTF.out]; exact HOV'.out, HBW.out⟩
          case measure => simp [intOf]; omega
      · have hltz : ¬ (k : Int) < (ps.length : Int) := by omega
        obtain rfl : k = ps.length := by omega
        rw [List.take_of_length_le (Nat.le_refl _)] at hov
        obtain ⟨a4, c4, rfl, hc4, hc5⟩ := hov.slice
        have HNM := Lib.hid (rnormal_any _ _ wr hov.vs (Nat.le_trans (List.length_filterMap_le _ _) hl))
        obtain ⟨N, hN⟩ : ∃ N, N = (ps.filterMap (mapF op x left)).length := ⟨_, rfl⟩
        rw [← hN] at HNM ⊢
        clear hov hN
        go_wp2_with fail
        refine HNM.out.mono ?_
        rintro e w2 ⟨hb2, hn⟩
        have HB2 := Lib.hid (HB.out.trans (hb2.mono hBz))
        have HN := Lib.hid hn
        rcases hn with ⟨-, rfl⟩ | ⟨-, -, rfl⟩ | ⟨-, qs', v', -, -, rfl, hv⟩
        · go_wp2_with fail
          go_ret2
          exact ⟨HB2.out, HN.out⟩
        · go_wp2_with fail
          go_ret2
          exact ⟨HB2.out, HN.out⟩
        · obtain ⟨a5, c5, rfl, -, -⟩ := hv.split
          clear hv
          go_wp2_with fail
          go_ret2
          exact ⟨HB2.out, HN.out⟩
theorem rscaled_any (v : Value) (ps : List Pt) (x : Nat) (left flag : Bool) (op : Int) (w : World) (h : VS w v ps) (hl : ps.length ≤ 100000) (hz : ∀ p ∈ ps, p.1.length ≤ 1000000) :
    Calls Try.prog 20 #[v, .int .i64 op, .float .f64 x, .bool left, .bool flag] w fun e w' => Below w.heap.size w w' ∧ NRor (opOk op) (ps.filterMap (scaleF op x left flag)) e w' := by
  by_cases h1 : 1 ≤ op
  · by_cases h10 : op ≤ 10
    · have ho : opOk op = true := by unfold opOk; rw [Bool.and_eq_true]; exact ⟨decide_eq_true h1, decide_eq_true h10⟩
      rw [ho]
      by_cases hm : 5 ≤ op ∧ flag = false
      · obtain ⟨h5, rfl⟩ := hm
        rw [show scaleF op x left false = filterF op x left by unfold scaleF; rw [if_pos ⟨h5, rfl⟩]]
        exact rscaled_filter v ps x left op w h hl h5 h10
      · rw [show scaleF op x left flag = mapF op x left by unfold scaleF; rw [if_neg hm]]
        exact rscaled_map v ps x left flag op w h hl hz h1 h10 hm
    · have ho : opOk op = false := by unfold opOk; rw [Bool.and_eq_false_iff]; right; exact decide_eq_false h10
      have hd1 : decide (op < 1) = false := decide_eq_false (by omega)
      have hd2 : decide (10 < op) = true := decide_eq_true (by omega)
      rw [ho]
      obtain ⟨a, cap, rfl, -, -⟩ := h.split
      clear h hz
      go_enter Try.func20, Try.ntmps20
      go_wp2_with fail
      go_ret2
      exact ⟨Below.refl _ _, rfl⟩
  · have ho : opOk op = false := by unfold opOk; rw [Bool.and_eq_false_iff]; left; exact decide_eq_false h1
    have hd1 : decide (op < 1) = true := decide_eq_true (by omega)
    rw [ho]
    obtain ⟨a, cap, rfl, -, -⟩ := h.split
    clear h hz
    go_enter Try.func20, Try.ntmps20
    go_wp2_with fail
    go_ret2
    exact ⟨Below.refl _ _, rfl⟩
theorem own_or {w w4 : World} {lv v4 : Value} {l q : List Lb} {j B : Nat} (hs : Sl lenc w lv l) (h2 : Sl lenc w4 v4 q) (hq : q ≠ []) (hj : v4.ownBlock = some j) (h : v4 = lv ∨ B ≤ j) : j < w.heap.size ∨ B ≤ j := by
  rcases h with he | h
  · left
    by_cases hl : l = []
    · obtain ⟨a0, c0, e0, _⟩ := h2
      obtain ⟨a1, c1, e1, _⟩ := hs
      rw [hl] at e1
      rw [he, e1] at e0
      injection e0 with _ e0 _
      exact absurd (List.eq_nil_of_length_eq_zero e0.symm) hq
    · obtain ⟨b, e4, e5⟩ := hs.lt hl
      rw [he, e4] at hj
      injection hj with hj
      omega
  · exact .inr h
set_option maxHeartbeats 8000000 in
theorem rlabel_any (v : Value) (ps : List Pt) (name value : ByteArray) (w : World) (h : VS w v ps) (hl : ps.length ≤ 100000) (hz : ∀ p ∈ ps, p.1.length ≤ 100000) :
    Calls Try.prog 22 #[v, .string name, .string value] w fun e w' => Below w.heap.size w w' ∧ NRor (labArg name value) (ps.filterMap (labF name value)) e w' := by
  have HNM := Lib.hid (fun w => rname_any name w)
  obtain ⟨a, cap, rfl, hlen, hc⟩ := h.split
  have HC := Lib.hid hc
  have HHZ := Lib.hid hz
  obtain ⟨i0, hi, hz0, hz1, hz2⟩ := info_parts Try.infoPt
  clear h hc hz
  obtain ⟨nb, hnb⟩ : ∃ b, b = nameB name := ⟨_, rfl⟩
  rw [← hnb] at HNM
  have hthree : (nb = false ∧ labArg name value = false) ∨ (nb = true ∧ 256 < value.size ∧ labArg name value = false) ∨ (nb = true ∧ value.size ≤ 256 ∧ labArg name value = true) := by
    unfold labArg
    rw [← hnb]
    cases nb
    · exact .inl ⟨rfl, rfl⟩
    · by_cases h : value.size ≤ 256
      · exact .inr (.inr ⟨rfl, h, by rw [decide_eq_true h]; rfl⟩)
      · exact .inr (.inl ⟨rfl, by omega, by rw [decide_eq_false h]; rfl⟩)
  clear hnb
  rcases hthree with ⟨rfl, hA⟩ | ⟨rfl, hz, hA⟩ | ⟨rfl, hz, hA⟩
  · rw [hA]
    clear hA
    go_enter Try.func22, Try.ntmps22
    go_wp2_with fail
    refine (HNM.out _).mono ?_
    rintro e w1 ⟨rfl, rfl⟩
    go_wp2_with fail
    go_ret2
    exact ⟨Below.refl _ _, rfl⟩
  · rw [hA]
    have hzz : (256 : Int) < (value.size : Int) := by omega
    have hzb : decide ((256 : Int) < (value.size : Int)) = true := decide_eq_true hzz
    have hzb2 : decide (256 < value.size) = true := decide_eq_true hz
    clear hA
    go_enter Try.func22, Try.ntmps22
    go_wp2_with fail
    refine (HNM.out _).mono ?_
    rintro e w1 ⟨rfl, rfl⟩
    go_wp2_with fail
    go_ret2
    exact ⟨Below.refl _ _, rfl⟩
  · rw [hA]
    have hzz : ¬ (256 : Int) < (value.size : Int) := by omega
    have hzb : decide ((256 : Int) < (value.size : Int)) = false := decide_eq_false hzz
    have hzb2 : decide (256 < value.size) = false := decide_eq_false (by omega)
    clear hA
    go_enter Try.func22, Try.ntmps22
    go_wp2_with fail
    refine (HNM.out _).mono ?_
    rintro e w1 ⟨rfl, rfl⟩
    go_wp2_with fail
    go_loopw [8, 9] (fun v i wr => ∃ (k : Nat), k ≤ ps.length ∧ i = .int .i64 k ∧ OV wr w1.heap.size v ((ps.take k).filterMap (labF name value)) ∧ Hid (Below w1.heap.size w1 wr)) (fun _ i _ => ps.length - (intOf i).toNat)
    case atStart => exact ⟨0, Nat.zero_le _, rfl, OV.nil _ _, Below.refl _ _⟩
    case round =>
      obtain ⟨k, hk, rfl, hov, HB⟩ := hrel
      have hBz := HB.out.size
      have h00 : (0 : Int) ≤ (k : Int) := by omega
      by_cases hlt : k < ps.length
      · have hltz : (k : Int) < (ps.length : Int) := by omega
        obtain ⟨b, off, lv, rfl, k0, k1, hsl⟩ := HC.out k hlt
        have p0 := cell_below HB.out (Nat.le_refl _) k0
        have p1 := cell_below HB.out (Nat.le_refl _) k1
        have hmem := List.getElem_mem hlt
        obtain ⟨z, hzE⟩ : ∃ z, z = ps[k].2 := ⟨_, rfl⟩
        rw [← hzE] at p1
        have HNL := Lib.hid (fun w' (hb : Below wr.heap.size wr w') => rwith_fresh lv ps[k].1 name value w' (hsl.below (HB.out.trans (hb.mono HB.out.size)) (Nat.le_refl _)) (HHZ.out _ hmem))
        have HTF := Lib.hid (take_fm (f := labF name value) ps k hlt)
        have hfk : labF name value ps[k] = some (withL ps[k].1 name value, z) := by rw [hzE]; rfl
        rw [hfk] at HTF
        have HSL := Lib.hid hsl
        obtain ⟨a2, n2, c2, rfl⟩ : ∃ a2 n2 c2, lv = .slice a2 n2 c2 := by
          obtain ⟨a2, c2, e, -⟩ := hsl
          exact ⟨a2, _, c2, e⟩
        have HLN := Lib.hid (show ((ps.take k).filterMap (labF name value)).length ≤ ps.length from Nat.le_trans (List.length_filterMap_le _ _) (by simp; omega))
        obtain ⟨zs, hzs, hown2, hzo⟩ := id hov
        have HOV := Lib.hid hov
        have HO2 := Lib.hid hown2
        have hblt : b < w1.heap.size := World.block_lt_of_cell? w1 _ k0
        have hnb : some b ≠ u8.ownBlock := fun e => by have := (hown2.lt b e.symm).1; omega
        obtain ⟨N, hN⟩ : ∃ N, N = ((ps.take k).filterMap (labF name value)).length := ⟨_, rfl⟩
        have hNl : N ≤ 100000 := by have := HLN.out; omega
        rw [← hN] at hown2
        have HN := Lib.hid hN
        have HZS := Lib.hid hzs
        have HZO := Lib.hid hzo
        clear hsl k0 k1 hmem hzE hov hfk hN hzs hzo
        go_wp2_with fail
        go_region_held3 (fun w' => w'.cell? ⟨b, off + k * 2, none⟩ = some (.slice a2 n2 c2) ∧ w'.cell? ⟨b, off + k * 2 + 1, none⟩ = some (.float .f64 z))
          (first
            | exact ⟨hgrow.cell (cell_below (B := wr.heap.size) (by go_grown) (Nat.le_refl _) p0) hnb, hgrow.cell (cell_below (B := wr.heap.size) (by go_grown) (Nat.le_refl _) p1) hnb⟩
            | exact ⟨cell_below (B := wr.heap.size) (by go_grown) (Nat.le_refl _) p0, cell_below (B := wr.heap.size) (by go_grown) (Nat.le_refl _) p1⟩)
          (first
            | (go_at_call 55
               refine (HNL.out _ (by go_grown)).mono ?_
               rintro e w9 ⟨v9, rfl, hs9, hb9, ha9⟩
               obtain ⟨a9, c9, rfl, hcc9⟩ := id hs9
               obtain ⟨n9, hn9⟩ : ∃ n, n = (withL ps[k].1 name value).length := ⟨_, rfl⟩
               rw [← hn9] at hs9 ha9
               try rw [← hn9]
               clear hcc9 hn9
               have hbA : Below wr.heap.size wr w9 := Below.trans (by go_grown) (hb9.mono (by first | exact Nat.le_refl _ | (simp; done)))
               have hsA := hbA.size)
            | (refine step_append_at rfl (.tmp 24) (.tmp 39) _ rfl w1.heap.size 35 i0 _ 2 32 Try.underlying22 hi hz0 hz1 hz2 rfl (by decide) u8 N (zs.flatMap zenc) rfl ?_ ⟨w9.heap.size, 0, none⟩ 1 1 [.slice a9 n9 c9, .float .f64 z] rfl rfl ?_ ?_ ?_ ?_ ?_ ?_
               (exact World.ownsRow.alloc (hown2.kept (below_grownBy' hbA) (by cases u8.ownBlock with | none => exact .inl rfl | some g => exact .inr (by simp))) _)
               (exact World.news_of_block (heap_new w9 _))
               (intro u hu; simp at hu; rcases hu with rfl | rfl <;> rfl)
               (unfold maxLen; omega)
               (omega)
               (simp <;> omega)
               intro v' w10 hown' hgrow hat))
        have hbC : Below wr.heap.size wr (w9.alloc (.cells #[.slice a9 n9 c9, .float .f64 z] 35)) := hbA.alloc hsA _
        have hov' : OV w10 w1.heap.size v' ((ps.take k).filterMap (labF name value) ++ [(withL ps[k].1 name value, z)]) := OV.push HZS.out HZO.out hbC (hs9.below ((Below.refl _ _).alloc (Nat.le_refl _) _) (Nat.le_refl _)) (fun hx he => by
          obtain ⟨j, e1, e2⟩ := hs9.lt hx
          have h3 := HO2.out.lt j (by rw [← he]; exact e1)
          have h5 : wr.heap.size ≤ j ∨ j < w1.heap.size := by
            rcases own_or (B := wr.heap.size) HSL.out hs9 hx e1 (ha9 j e1) with h | h
            · exact .inr h
            · exact .inl h
          omega) (by rw [← HN.out]; exact hown') hgrow (by simpa using hat)
        have hbW : Below w1.heap.size w1 w10 := ((HB.out.trans (hbA.mono hBz)).alloc (by omega) _).grown hgrow (by simp; omega) (fun j hj => (HO2.out.lt j hj).1)
        have HOV' := Lib.hid hov'
        have HBW := Lib.hid hbW
        clear hov' hbW hbC hgrow hat hown' hown2 hs9 hb9 ha9 hbA hsA
        go_wp2_with fail
        go_roundw
        case rel => exact ⟨k + 1, by omega, by go_num, by rw [HTF.out]; exact HOV'.out, HBW.out⟩
        case measure => simp [intOf]; omega
      · have hltz : ¬ (k : Int) < (ps.length : Int) := by omega
        obtain rfl : k = ps.length := by omega
        rw [List.take_of_length_le (Nat.le_refl _)] at hov
        obtain ⟨a4, c4, rfl, hc4, hc5⟩ := hov.slice
        have HNM := Lib.hid (rnormal_any _ _ wr hov.vs (Nat.le_trans (List.length_filterMap_le _ _) hl))
        obtain ⟨N, hN⟩ : ∃ N, N = (ps.filterMap (labF name value)).length := ⟨_, rfl⟩
        rw [← hN] at HNM ⊢
        clear hov hN
        go_wp2_with fail
        refine HNM.out.mono ?_
        rintro e w2 ⟨hb2, hn⟩
        have HB2 := Lib.hid (HB.out.trans (hb2.mono hBz))
        have HN := Lib.hid hn
        rcases hn with ⟨-, rfl⟩ | ⟨-, -, rfl⟩ | ⟨-, qs', v', -, -, rfl, hv⟩
        · go_wp2_with fail
          go_ret2
          exact ⟨HB2.out, HN.out⟩
        · go_wp2_with fail
          go_ret2
          exact ⟨HB2.out, HN.out⟩
        · obtain ⟨a5, c5, rfl, -, -⟩ := hv.split
          clear hv
          go_wp2_with fail
          go_ret2
          exact ⟨HB2.out, HN.out⟩
end Go.Proofs.Ytkflhfdpdgnbfaa
