/- Normal: the code's walk. -/
import Derived.Test.YtkflhfdpdgnbfaaVn6
import Derived.Test.YtkflhfdpdgnbfaaLa6
namespace Go.Proofs.Ytkflhfdpdgnbfaa
open Go Go.RowKit
set_option linter.unusedVariables false
set_option linter.unusedSimpArgs false
set_option maxRecDepth 100000
theorem clone_S (v : Value) (l : List Lb) (w : World) (h : Sl lenc w v l) (hl : l.length ≤ 1000000) :
    Calls Try.prog 28 #[v] w fun e w' => ∃ a n c, e = .returned (.slice a n c) ∧ Sl lenc w' (.slice a n c) l ∧ (∀ k, (Value.slice a n c).ownBlock = some k → w.heap.size ≤ k) ∧ Below w.heap.size w w' := by
  refine (clone_any v l w h hl).mono ?_
  rintro e w' ⟨v', rfl, ho, hb⟩
  have hs : Sl lenc w' v' l := Sl.own lenc_len (by decide) ho
  obtain ⟨a, c, rfl, h1⟩ := id hs
  exact ⟨a, _, c, rfl, hs, fun k hk => (ho.lt k hk).1, hb⟩
theorem take_canon (ps : List Pt) (k : Nat) (h : k < ps.length) : (ps.take (k + 1)).map canonP = (ps.take k).map canonP ++ [canonP ps[k]] := by
  rw [List.take_succ_eq_append_getElem h, List.map_append]; rfl
set_option maxHeartbeats 8000000 in
theorem normal_any (v : Value) (ps : List Pt) (w : World) (h : VS w v ps) (hl : ps.length ≤ 100000) :
    Calls Try.prog 9 #[v] w fun e w' => Below w.heap.size w w' ∧ NR ps e w' := by
  obtain ⟨a, cap, rfl, hlen, hc⟩ := h.split
  have HC := Lib.hid hc
  clear hc h
  obtain ⟨i0, hi, hz0, hz1, hz2⟩ := info_parts Try.infoPt
  go_enter Try.func9, Try.ntmps9
  go_wp2_with fail
  go_loopw [4, 10] (fun v i wr => ∃ (k : Nat), k ≤ ps.length ∧ i = .int .i64 k ∧ OV wr w.heap.size v ((ps.take k).map canonP) ∧ Hid (Below w.heap.size w wr) ∧ Hid (∀ j (hj : j < ps.length), j < k → rightL ps[j].1 = true)) (fun _ i _ => ps.length - (intOf i).toNat)
  case atStart => exact ⟨0, Nat.zero_le _, rfl, OV.nil _ _, Below.refl _ _, fun j _ hj => absurd hj (Nat.not_lt_zero _)⟩
  case round =>
    obtain ⟨k, hk, rfl, hov, HB, HV⟩ := hrel
    have hBz := HB.out.size
    have h00 : (0 : Int) ≤ (k : Int) := by omega
    by_cases hlt : k < ps.length
    · have hltz : (k : Int) < (ps.length : Int) := by omega
      obtain ⟨b, off, lv, rfl, k0, k1, hsl⟩ := HC.out k hlt
      have p0 := cell_below HB.out (Nat.le_refl _) k0
      have p1 := cell_below HB.out (Nat.le_refl _) k1
      have hslr := hsl.below HB.out (Nat.le_refl _)
      obtain ⟨a2, n2, c2, rfl⟩ : ∃ a2 n2 c2, lv = .slice a2 n2 c2 := by
        obtain ⟨a2, c2, e, -⟩ := hsl
        exact ⟨a2, _, c2, e⟩
      obtain ⟨x, hx⟩ : ∃ x, x = ps[k].2 := ⟨_, rfl⟩
      rw [← hx] at p1
      have HX := Lib.hid hx
      have HFR := Lib.hid (fun w' (hb : Below wr.heap.size wr w') => right_any (.slice a2 n2 c2) ps[k].1 w' (hslr.below hb (Nat.le_refl _)))
      have HSL := Lib.hid (fun w' (hb : Below wr.heap.size wr w') => hslr.below hb (Nat.le_refl _))
      obtain ⟨rk, hrk⟩ : ∃ r, r = rightL ps[k].1 := ⟨_, rfl⟩
      rw [← hrk] at HFR
      have HRK := Lib.hid hrk
      clear hsl hslr k0 k1 hx hrk
      have HOV := Lib.hid hov
      obtain ⟨a4, c4, hu4, hc4, hc5⟩ := hov.slice
      clear hov
      go_wp2_with fail
      refine (HFR.out _ ((Below.refl _ _).alloc (Nat.le_refl _) _)).mono ?_
      rintro e w2 ⟨rfl, hg⟩
      have hb2 : Below wr.heap.size wr w2 := ((Below.refl _ _).alloc (Nat.le_refl _) _).trans (hg.below.mono (by simp))
      have q0 : w2.cell? ⟨wr.heap.size, 0, none⟩ = some (.slice a2 n2 c2) := cell_below hg.below (Nat.le_refl _) (by simp)
      have q1 : w2.cell? ⟨wr.heap.size, 1, none⟩ = some (.float .f64 x) := cell_below hg.below (Nat.le_refl _) (by simp)
      have HB2 := Lib.hid hb2
      have HBW := Lib.hid (HB.out.trans (hb2.mono hBz))
      cases rk with
      | false =>
        have HF := Lib.hid (show ∃ p ∈ ps, rightL p.1 = false from ⟨_, List.getElem_mem hlt, HRK.out.symm⟩)
        clear hg hb2
        go_wp2_with fail
        go_ret2
        exact ⟨HBW.out, .inl ⟨HF.out, rfl⟩⟩
      | true =>
        have HLN := Lib.hid (show ps[k].1.length ≤ 1000000 from by have := ((right_iff _).1 HRK.out.symm).2.2; omega)
        obtain ⟨zs, hzs, hown2, hzok⟩ := HOV.out.kept hb2
        have HZS := Lib.hid hzs
        have HZO := Lib.hid hzok
        obtain ⟨g3, hg3⟩ : ∃ g3, g3 = wr.heap.size := ⟨_, rfl⟩
        have hnl : ∀ j, u4.ownBlock = some j → j < g3 := fun j e => by
          obtain ⟨_, _, ho, _⟩ := HOV.out
          have := (ho.lt j e).2
          omega
        have hnb : some g3 ≠ u4.ownBlock := fun e => by have := hnl g3 e.symm; omega
        have hnd : ps.length + 64 ≤ 200000 := by omega
        rw [← hg3] at q0 q1 ⊢
        have hz3 : w.heap.size ≤ w2.heap.size := HBW.out.size
        have hz4 : g3 < w2.heap.size := World.block_lt_of_cell? w2 _ q0
        have hlc : ((ps.take k).map canonP).length = k := by simp; omega
        have HO2 := Lib.hid hown2
        have HNL := Lib.hid hnl
        have HLC := Lib.hid hlc
        clear hg hb2 hzs hzok hu4 hnl hg3
        rw [hlc] at hown2 hc4
        clear hlc
        go_wp2_with fail
        have hS9 : ∀ w', Below w2.heap.size w2 w' → Sl lenc w' (.slice a2 n2 c2) ps[k].1 := fun w' hb => HSL.out w' (HB2.out.trans (hb.mono HB2.out.size))
        have HS9 := Lib.hid hS9
        clear hS9
        go_region_held3 (fun w' => w'.cell? ⟨g3, 0, none⟩ = some (.slice a2 n2 c2) ∧ w'.cell? ⟨g3, 1, none⟩ = some (.float .f64 x))
          (first
            | exact ⟨hgrow.cell (cell_below (B := w2.heap.size) (by go_grown) (Nat.le_refl _) q0) hnb, hgrow.cell (cell_below (B := w2.heap.size) (by go_grown) (Nat.le_refl _) q1) hnb⟩
            | exact ⟨cell_below (B := w2.heap.size) (by go_grown) (Nat.le_refl _) q0, cell_below (B := w2.heap.size) (by go_grown) (Nat.le_refl _) q1⟩)
          (first
            | (go_at_call 28
               refine (clone_S _ _ _ (HS9.out _ (by go_grown)) HLN.out).mono ?_
               rintro e w9 ⟨a9, n9, c9, rfl, hs9, ha9, hb9⟩
               have hbA : Below w2.heap.size w2 w9 := Below.trans (by go_grown) (hb9.mono (by first | exact Nat.le_refl _ | (simp; done)))
               have hsA := hbA.size)
            | (go_at_call 29
               refine (canon_any _ _).mono ?_
               rintro e w8 ⟨rfl, rfl⟩)
            | (refine step_append_at rfl (.tmp 18) (.tmp 26) _ rfl w.heap.size 35 i0 _ 2 32 Try.underlying22 hi hz0 hz1 hz2 rfl (by decide) u4 k (zs.flatMap zenc) rfl ?_ ⟨w9.heap.size, 0, none⟩ 1 1 [.slice a9 n9 c9, .float .f64 (canon x)] rfl rfl ?_ ?_ ?_ ?_ ?_ ?_
               (exact World.ownsRow.alloc (hown2.kept (below_grownBy' hbA) (by cases u4.ownBlock with | none => exact .inl rfl | some g => exact .inr (by simp))) _)
               (exact World.news_of_block (heap_new w9 _))
               (intro u hu; simp at hu; rcases hu with rfl | rfl <;> rfl)
               (unfold maxLen; omega)
               (omega)
               (simp <;> omega)
               intro v' w10 hown' hgrow hat))
        have hbC : Below w2.heap.size w2 (w9.alloc (.cells #[.slice a9 n9 c9, .float .f64 (canon x)] 35)) := hbA.alloc hsA _
        have hov' : OV w10 w.heap.size v' ((ps.take (k + 1)).map canonP) := by
          have h1 := OV.appended (v' := v') (w' := w10) (z := (.slice a9 n9 c9, ps[k].1, canon x)) HZS.out (fun z hz => (HZO.out z hz).below hbC (Nat.le_refl _))
            ⟨hs9.below ((Below.refl _ _).alloc (Nat.le_refl _) _) (Nat.le_refl _), fun _ he => by
              have h2 : ∀ j, (Value.slice a9 n9 c9).ownBlock = some j → some j ≠ u4.ownBlock := fun j hj he2 => by
                have h3 : w2.heap.size ≤ j := ha9 j hj
                have h4 := HNL.out j he2.symm
                omega
              cases hob : (Value.slice a9 n9 c9).ownBlock with
              | none =>
                obtain ⟨_, e1, _⟩ := hs9.lt (by assumption)
                rw [e1] at hob; cases hob
              | some j => exact h2 j hob (by rw [← hob]; exact he)⟩ (by rw [HLC.out]; exact hown') hgrow hat
          rw [take_canon ps k hlt]
          have h5 : canonP ps[k] = (ps[k].1, canon x) := by rw [HX.out]; rfl
          rw [h5]; exact h1
        have hbW : Below w.heap.size w w10 := ((HBW.out.trans (hbA.mono hz3)).alloc (by omega) _).grown hgrow (by simp; omega) (fun j hj => (HO2.out.lt j hj).1)
        have HOV2 := Lib.hid hov'
        have HBW2 := Lib.hid hbW
        clear hov' hbW hbC hgrow hat hown' hown2 hs9 ha9 hb9 hbA hsA
        go_wp2_with fail
        go_roundw
        case rel => exact ⟨k + 1, by omega, by go_num, HOV2.out, HBW2.out, fun j hj hjk => by
          by_cases hjk2 : j = k
          · subst hjk2; exact HRK.out.symm
          · exact HV.out j hj (by omega)⟩
        case measure => simp [intOf]; omega
    · have hltz : ¬ (k : Int) < (ps.length : Int) := by omega
      obtain rfl : k = ps.length := by omega
      rw [List.take_of_length_le (Nat.le_refl _)] at hov
      obtain ⟨a4, c4, rfl, hc4, hc5⟩ := hov.slice
      have HS := Lib.hid (vsort_any _ _ _ _ hov (by simp; omega))
      have HA := Lib.hid (show ∀ p ∈ ps, rightL p.1 = true from fun p hp => by
        obtain ⟨j, hj, rfl⟩ := List.mem_iff_getElem.1 hp
        exact HV.out j hj hj)
      obtain ⟨N, hN⟩ : ∃ N, N = (ps.map canonP).length := ⟨_, rfl⟩
      have hNl : N ≤ 100000 := by rw [hN]; simpa using hl
      rw [← hN] at HS hc4 ⊢
      have HN := Lib.hid hN
      clear hov hN
      go_wp2_with fail
      refine HS.out.mono ?_
      rintro e w2 ⟨rfl, qs, hp, hw, hvs, hbw⟩
      have hb2 := hbw w HB.out
      have hql : qs.length = N := by rw [hp.length_eq, HN.out]
      obtain ⟨a5, c5, e5, hlen5, hc5'⟩ := hvs.split
      have hcc : ∀ i (hi : i < qs.length), ∃ b off lv, a4 = some ⟨b, off, none⟩ ∧ w2.cell? ⟨b, off + i * 2, none⟩ = some lv ∧ Sl lenc w2 lv qs[i].1 := fun i hi => by
        obtain ⟨b, off, lv, e1, e2, e3, e4⟩ := hc5' i hi
        injection e5 with e5
        exact ⟨b, off, lv, by rw [e5, e1], e2, e4⟩
      have HQ := Lib.hid hcc
      have HQL := Lib.hid hql
      have HP := Lib.hid hp
      have HW := Lib.hid hw
      have HVS := Lib.hid hvs
      have HB2 := Lib.hid hb2
      have hBz2 := hb2.size
      clear HS hp hw hvs hbw hb2 hql hlen5 hc5' hcc e5
      go_wp2_with fail
      go_loopw [7] (fun i wr => ∃ (k : Nat), k + 1 ≤ max N 1 ∧ i = .int .i64 ((k : Int) + 1) ∧ Hid (Below w2.heap.size w2 wr) ∧ Hid (∀ j (hj : j + 1 < qs.length), j < k → cmpL qs[j].1 qs[j + 1].1 ≠ 0)) (fun i _ => N - (intOf i).toNat)
      case atStart => exact ⟨0, by omega, rfl, Below.refl _ _, fun j _ hj => absurd hj (Nat.not_lt_zero _)⟩
      case round =>
        obtain ⟨k, hk, rfl, HB3, HV3⟩ := hrel
        have h00 : (0 : Int) ≤ (k : Int) := by omega
        have h01 : (0 : Int) ≤ (k : Int) + 1 := by omega
        have hBz3 := HB3.out.size
        by_cases hlt : k + 1 < N
        · have hltz : (k : Int) + 1 < (N : Int) := by omega
          have hltz0 : (k : Int) < (N : Int) := by omega
          have hq1 : k + 1 < qs.length := by have := HQL.out; omega
          obtain ⟨b, off, lv, rfl, k0, s0⟩ := HQ.out k (by omega)
          obtain ⟨b', off', lv', hbb, k1, s1⟩ := HQ.out (k + 1) hq1
          injection hbb with hbb
          injection hbb with hbb1 hbb2
          subst hbb1 hbb2
          have p0 := cell_below HB3.out (Nat.le_refl _) k0
          have p1 := cell_below HB3.out (Nat.le_refl _) k1
          have HSL := Lib.hid (fun w' (hb : Below wr.heap.size wr w') => compare_any lv lv' qs[k].1 qs[k + 1].1 w' ((s0.below HB3.out (Nat.le_refl _)).below hb (Nat.le_refl _)) ((s1.below HB3.out (Nat.le_refl _)).below hb (Nat.le_refl _)))
          obtain ⟨cc, hcc⟩ : ∃ c, c = cmpL qs[k].1 qs[k + 1].1 := ⟨_, rfl⟩
          rw [← hcc] at HSL
          have HCC := Lib.hid hcc
          have hw1 : IntKind.i64.wrap (k : Int) = (k : Int) := by rw [IntKind.wrap_i64] <;> omega
          have hw2 : ((k : Int) + 1).toNat = k + 1 := by omega
          clear k0 k1 s0 s1 hcc
          go_wp2_with fail
          have hbs : Below wr.heap.size wr wr := Below.refl _ _
          go_region_held3 (fun w' => w'.cell? ⟨b, off + k * 2, none⟩ = some lv ∧ w'.cell? ⟨b, off + (k + 1) * 2, none⟩ = some lv')
            (exact ⟨cell_below (B := wr.heap.size) (by go_grown) (Nat.le_refl _) p0, cell_below (B := wr.heap.size) (by go_grown) (Nat.le_refl _) p1⟩)
            (first
              | (go_at_call 32
                 refine (HSL.out _ (by go_grown)).mono ?_
                 rintro e w9 ⟨rfl, hg9⟩
                 have hbA : Below wr.heap.size wr w9 := Below.trans (by go_grown) (hg9.below.mono (by first | exact Nat.le_refl _ | (simp; done)))))
          have hbW : Below w2.heap.size w2 w9 := HB3.out.trans (hbA.mono hBz3)
          have HBB := Lib.hid hbW
          clear hbA hbW hg9
          by_cases hcz : cc = 0
          · have hcb : (cc == 0) = true := by simpa using hcz
            have HF := Lib.hid (no_strict (adj_dup hq1 (by rw [← HCC.out, hcz])) HP.out)
            subst hcz
            go_wp2_with fail
            go_ret2
            exact ⟨HB2.out.trans (HBB.out.mono hBz2), .inr (.inl ⟨HA.out, HF.out, rfl⟩)⟩
          · have hcb : (cc == 0) = false := by simpa using hcz
            have HCZ := Lib.hid hcz
            clear hcz
            go_wp2_with fail
            go_roundw
            case rel => exact ⟨k + 1, by omega, by go_num, HBB.out, fun j hj hjk => by
              by_cases hjk2 : j = k
              · subst hjk2; rw [← HCC.out]; exact HCZ.out
              · exact HV3.out j hj (by omega)⟩
            case measure => simp [intOf]; omega
        · have hltz : ¬ (k : Int) + 1 < (N : Int) := by omega
          have HF := Lib.hid (weak_adj HW.out fun j hj => HV3.out j hj (by have := HQL.out; omega))
          have HVV := Lib.hid (HVS.out.below HB3.out (Nat.le_refl _))
          go_wp2_with fail
          go_ret2
          exact ⟨HB2.out.trans (HB3.out.mono hBz2), .inr (.inr ⟨HA.out, qs, _, HP.out, HF.out, rfl, HVV.out⟩)⟩
end Go.Proofs.Ytkflhfdpdgnbfaa
