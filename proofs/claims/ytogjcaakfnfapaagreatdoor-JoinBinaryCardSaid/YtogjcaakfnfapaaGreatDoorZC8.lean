/- A grouping's check, both sides. Normal: the code's walk. Agg, the code: what it is made of. Group: a list of its own. Agg, the code's walk. A group's chosen points, the document's walk. (Several texts in one file, by merge.py.) -/
import Derived.Test.YtogjcaakfnfapaaGreatDoorZC7
import Derived.Test.YtogjcaakfnfapaaGreatDoorZC6
import Derived.Test.YtogjcaakfnfapaaGreatDoorZC2
namespace Go.Proofs.YtogjcaakfnfapaaGreatDoor
open Go Go.RowKit
set_option linter.unusedVariables false
set_option linter.unusedSimpArgs false
set_option maxRecDepth 100000
theorem chk_bad {how : Int} {names : List ByteArray} (h : how < 0 ∨ 2 < how ∨ (how = 0 ∧ 0 < names.length) ∨ onceL names = false) : chkL how names = 1 := if_pos h
theorem chk_ok {how : Int} {names : List ByteArray} (h1 : 0 ≤ how) (h2 : how ≤ 2) (h3 : ¬ (how = 0 ∧ 0 < names.length)) (h4 : onceL names = true) : chkL how names = 0 :=
  if_neg (fun h => by rcases h with h | h | h | h; omega; omega; exact h3 h; rw [h4] at h; cases h)
set_option maxHeartbeats 4000000 in
theorem check_any (how : Int) (vn : Value) (names : List ByteArray) (w : World) (hn : Sl senc1 w vn names) (hz : ∀ s ∈ names, s.size ≤ maxLen) :
    Calls Tryz.prog 35 #[.agg #[.int .i64 how, vn]] w fun e w' => e = .returned (.int .i64 (chkL how names)) ∧ Below w.heap.size w w' := by
  have HO := Lib.hid (fun w' (hb : Below w.heap.size w w') => once_any vn names w' (hn.below hb (Nat.le_refl _)) hz)
  obtain ⟨a, cap, rfl, hlen, hc⟩ := hn.strings
  clear hn hc hz
  obtain ⟨n, hnn⟩ : ∃ n, n = names.length := ⟨_, rfl⟩
  rw [← hnn] at HO hlen ⊢
  have HNN := Lib.hid hnn
  clear hnn
  by_cases h1 : how < 0
  · have HF := Lib.hid (chk_bad (names := names) (.inl h1))
    go_enter Tryz.func35, Tryz.ntmps35
    go_wp2_with fail
    go_ret
    exact ⟨by rw [HF.out] <;> rfl, (Below.refl _ _).alloc (Nat.le_refl _) _⟩
  · have h1' : 0 ≤ how := by omega
    clear h1
    by_cases h2 : 2 < how
    · have HF := Lib.hid (chk_bad (names := names) (.inr (.inl h2)))
      go_enter Tryz.func35, Tryz.ntmps35
      go_wp2_with fail
      go_ret
      exact ⟨by rw [HF.out] <;> rfl, (Below.refl _ _).alloc (Nat.le_refl _) _⟩
    · have h2' : how ≤ 2 := by omega
      clear h2
      by_cases h3 : how = 0 ∧ 0 < n
      · obtain ⟨rfl, h4⟩ := h3
        have HF := Lib.hid (chk_bad (how := 0) (names := names) (.inr (.inr (.inl ⟨rfl, by rw [← HNN.out]; exact h4⟩))))
        have h5 : (0 : Int) < (n : Int) := by omega
        go_enter Tryz.func35, Tryz.ntmps35
        go_wp2_with fail
        go_ret
        exact ⟨by rw [HF.out] <;> rfl, (Below.refl _ _).alloc (Nat.le_refl _) _⟩
      · obtain ⟨b, hb⟩ : ∃ b, b = onceL names := ⟨_, rfl⟩
        rw [← hb] at HO
        have HCALL := Lib.hid (HO.out (w.alloc (.cells #[.int .i64 how, .slice a n cap] 24)) ((Below.refl _ _).alloc (Nat.le_refl _) _))
        cases b with
        | false =>
          have HF := Lib.hid (chk_bad (how := how) (names := names) (.inr (.inr (.inr hb.symm))))
          clear hb HO
          by_cases h4 : how = 0
          · subst h4
            obtain rfl : n = 0 := by omega
            clear h3
            go_enter Tryz.func35, Tryz.ntmps35
            go_wp2_with (go_at_call 36; refine HCALL.out.mono ?_; rintro e w1 ⟨rfl, hb1⟩)
            go_ret
            exact ⟨by rw [HF.out] <;> rfl, ((Below.refl _ _).alloc (Nat.le_refl _) _).trans (hb1.mono (by simp))⟩
          · have h5 : (how == 0) = false := by simpa using h4
            clear h3
            go_enter Tryz.func35, Tryz.ntmps35
            go_wp2_with (go_at_call 36; refine HCALL.out.mono ?_; rintro e w1 ⟨rfl, hb1⟩)
            go_ret
            exact ⟨by rw [HF.out] <;> rfl, ((Below.refl _ _).alloc (Nat.le_refl _) _).trans (hb1.mono (by simp))⟩
        | true =>
          have HF := Lib.hid (chk_ok (how := how) (names := names) h1' h2' (by rw [← HNN.out]; exact h3) hb.symm)
          clear hb HO
          by_cases h4 : how = 0
          · subst h4
            obtain rfl : n = 0 := by omega
            clear h3
            go_enter Tryz.func35, Tryz.ntmps35
            go_wp2_with (go_at_call 36; refine HCALL.out.mono ?_; rintro e w1 ⟨rfl, hb1⟩)
            go_ret
            exact ⟨by rw [HF.out] <;> rfl, ((Below.refl _ _).alloc (Nat.le_refl _) _).trans (hb1.mono (by simp))⟩
          · have h5 : (how == 0) = false := by simpa using h4
            clear h3
            go_enter Tryz.func35, Tryz.ntmps35
            go_wp2_with (go_at_call 36; refine HCALL.out.mono ?_; rintro e w1 ⟨rfl, hb1⟩)
            go_ret
            exact ⟨by rw [HF.out] <;> rfl, ((Below.refl _ _).alloc (Nat.le_refl _) _).trans (hb1.mono (by simp))⟩
theorem Tryz.elemStrs : Tryz.prog.underlying 22 = some (.slice (Tryz.prog.elem 22)) := by kernel_rfl
theorem Tryz.sizeStr (w : World) : (sizeOf (Tryz.prog.elem 22)).run Tryz.prog w = .ok 1 w := by rfl
theorem rhas_qs (v : Value) (names : List ByteArray) (x : ByteArray) (w : World) (h : Sl senc1 w v names) :
    Calls Tryz.prog 42 #[v, .string x] w fun e w' => e = .returned (.bool (hasL names x)) ∧ w = w' := (rhas_any v names x w h).mono fun _ _ h => ⟨h.1, h.2.symm⟩
set_option maxHeartbeats 4000000 in
theorem rcheck_any (how : Int) (vn : Value) (names : List ByteArray) (w : World) (hn : Sl senc1 w vn names) :
    Calls Tryz.prog 40 #[.agg #[.int .i64 how, vn]] w fun e w' => e = .returned (.int .i64 (chkL how names)) ∧ Below w.heap.size w w' := by
  have HSN := Lib.hid hn
  obtain ⟨a, cap, rfl, hlen, hc⟩ := hn.strings
  have hc2 : ∀ k, k < names.length → ∃ b off, a = some ⟨b, off, none⟩ ∧ w.cell? ⟨b, off + k, none⟩ = some (.string (nx names k)) := fun k hk => by
    obtain ⟨b, off, e, hd⟩ := hc k hk
    exact ⟨b, off, e, by rw [hd k hk, nx_at hk]⟩
  have HC := Lib.hid hc2
  clear hn hc hc2
  obtain ⟨n, hnn⟩ : ∃ n, n = names.length := ⟨_, rfl⟩
  rw [← hnn] at hlen HC HSN ⊢
  have HNN := Lib.hid hnn
  clear hnn
  by_cases h1 : how < 0
  · have HF := Lib.hid (chk_bad (names := names) (.inl h1))
    go_enter Tryz.func40, Tryz.ntmps40
    go_wp2_with fail
    go_ret
    exact ⟨by rw [HF.out] <;> rfl, (Below.refl _ _).alloc (Nat.le_refl _) _⟩
  · have h1' : 0 ≤ how := by omega
    clear h1
    by_cases h2 : 2 < how
    · have HF := Lib.hid (chk_bad (names := names) (.inr (.inl h2)))
      go_enter Tryz.func40, Tryz.ntmps40
      go_wp2_with fail
      go_ret
      exact ⟨by rw [HF.out] <;> rfl, (Below.refl _ _).alloc (Nat.le_refl _) _⟩
    · have h2' : how ≤ 2 := by omega
      clear h2
      by_cases h0 : 32 < n
      · have HF := Lib.hid (chk_bad (how := how) (names := names) (.inr (.inr (.inr (by unfold onceL; rw [← HNN.out, decide_eq_false (by omega)]; rfl)))))
        have h5 : (32 : Int) < (n : Int) := by omega
        go_enter Tryz.func40, Tryz.ntmps40
        go_wp2_with fail
        go_ret
        exact ⟨by rw [HF.out] <;> rfl, (Below.refl _ _).alloc (Nat.le_refl _) _⟩
      · have h0' : n ≤ 32 := by omega
        clear h0
        by_cases h3 : how = 0 ∧ 0 < n
        · obtain ⟨rfl, h4⟩ := h3
          have HF := Lib.hid (chk_bad (how := 0) (names := names) (.inr (.inr (.inl ⟨rfl, by rw [← HNN.out]; exact h4⟩))))
          have h5 : (0 : Int) < (n : Int) := by omega
          have h6 : (n : Int) ≤ 32 := by omega
          go_enter Tryz.func40, Tryz.ntmps40
          go_wp2_with fail
          go_ret
          exact ⟨by rw [HF.out] <;> rfl, (Below.refl _ _).alloc (Nat.le_refl _) _⟩
        · have h6 : (n : Int) ≤ 32 := by omega
          have H3 := Lib.hid h3
          go_enter Tryz.func40, Tryz.ntmps40
          by_cases h4 : how = 0
          case' pos =>
            have h5 : (how == 0) = true := by simpa using h4
            have H4 := Lib.hid h4
            clear h4
            have hn0 : n ≤ 0 := by have := H3.out; have := H4.out; omega
            have hn0' : (n : Int) ≤ 0 := by omega
            clear h3
          case' neg =>
            have h5 : (how == 0) = false := by simpa using h4
            have H4 := Lib.hid h4
            clear h3 h4
          all_goals go_wp2_with fail
          all_goals
            obtain ⟨B, hB⟩ : ∃ B, B = w.heap.size := ⟨_, rfl⟩
            have hb1 : Below w.heap.size w (w.alloc (.cells #[.int .i64 how, .slice a n cap] 24)) := (Below.refl _ _).alloc (Nat.le_refl _) _
            have g0 : (w.alloc (.cells #[.int .i64 how, .slice a n cap] 24)).cell? ⟨B, 1, none⟩ = some (.slice a n cap) := by rw [hB]; simp
            generalize w.alloc (.cells #[.int .i64 how, .slice a n cap] 24) = w1 at hb1 g0 ⊢
            rw [← hB]
            have HB1 := Lib.hid hb1
            have HBB := Lib.hid hB
            clear hb1 hB
            go_loopw [3] (fun i wr => ∃ k m : Nat, k ≤ n ∧ i = .int .i64 k ∧ Hid (∀ j, j < k → newN names j = true) ∧ wr = w1.drewN m) (fun i _ => n - (intOf i).toNat)
          case atStart => exact ⟨0, 0, Nat.zero_le _, rfl, (fun j h => absurd h (Nat.not_lt_zero _)), rfl⟩
          case atStart => exact ⟨0, 0, Nat.zero_le _, rfl, (fun j h => absurd h (Nat.not_lt_zero _)), rfl⟩
          all_goals
            obtain ⟨k, m, hk, rfl, HJ, rfl⟩ := hrel
            have h00 : (0 : Int) ≤ (k : Int) := by omega
            by_cases hlt : k < n
          all_goals try (exfalso; omega)
          case pos =>
            have hltz : (k : Int) < (n : Int) := by omega
            obtain ⟨b, off, rfl, q⟩ := HC.out k (by have := HNN.out; omega)
            have q0 := cell_below HB1.out (Nat.le_refl _) q
            obtain ⟨x, hx⟩ : ∃ x, x = nx names k := ⟨_, rfl⟩
            rw [← hx] at q0
            obtain ⟨nb, hnb⟩ : ∃ q, q = nameB x := ⟨_, rfl⟩
            have HNM := Lib.hid (fun w => rname_qs x w)
            rw [← hnb] at HNM
            obtain ⟨hs, hhs⟩ : ∃ q, q = hasL (names.take k) x := ⟨_, rfl⟩
            obtain ⟨a1, c1, hsl, hsl2⟩ := Sl.head (T := 22) Tryz.elemStrs Tryz.sizeStr senc1_len HSN.out (k := k) (by have := HNN.out; omega)
            have HHS := Lib.hid (fun q => rhas_qs _ _ x (w1.drewN q) ((hsl2.below HB1.out (Nat.le_refl _)).drewN q))
            rw [← hhs] at HHS
            have HNW := Lib.hid (show newN names k = (nb && !hs) by rw [newN, ← hx, hnb, hhs])
            clear q hx hnb hhs hsl2
            cases nb with
            | false =>
              have HF := Lib.hid (chk_bad (how := how) (names := names) (.inr (.inr (.inr (once_no (k := k) (by have := HNN.out; omega) (by rw [HNW.out]; rfl))))))
              go_wp2_with fail
              go_quiet ((first | (go_at_call 41; first | refine qs (HNM.out _) | refine quiet_same (HNM.out _)) | (go_at_call 42; first | refine qs (HHS.out _) | refine quiet_same (HHS.out _))))
              go_wp2_with fail
              go_ret
              exact ⟨by rw [HF.out] <;> rfl, below_drewN (below_drewN HB1.out _) _⟩
            | true =>
              cases hs with
              | true =>
                have HF := Lib.hid (chk_bad (how := how) (names := names) (.inr (.inr (.inr (once_no (k := k) (by have := HNN.out; omega) (by rw [HNW.out]; rfl))))))
                go_wp2_with fail
                go_quiet ((first | (go_at_call 41; first | refine qs (HNM.out _) | refine quiet_same (HNM.out _)) | (go_at_call 42; first | refine qs (HHS.out _) | refine quiet_same (HHS.out _))))
                go_wp2_with fail
                go_ret
                exact ⟨by rw [HF.out] <;> rfl, below_drewN (below_drewN HB1.out _) _⟩
              | false =>
                go_wp2_with fail
                go_quiet ((first | (go_at_call 41; first | refine qs (HNM.out _) | refine quiet_same (HNM.out _)) | (go_at_call 42; first | refine qs (HHS.out _) | refine quiet_same (HHS.out _))))
                go_wp2_with fail
                go_roundw
                case rel => exact ⟨k + 1, _, by omega, by go_num, (fun j hj => by
                  by_cases e : j = k
                  · subst e; exact HNW.out
                  · exact HJ.out j (by omega)), rfl⟩
                case measure => simp [intOf]; omega
          all_goals
            have hltz : ¬ (k : Int) < (n : Int) := by omega
            have HF := Lib.hid (chk_ok (how := how) (names := names) h1' h2' (by rw [← HNN.out]; exact H3.out) (once_yes (by rw [← HNN.out]; exact h0') (fun j hj => HJ.out j (by have := HNN.out; omega))))
            go_wp2_with fail
            go_ret
            exact ⟨by rw [HF.out] <;> rfl, below_drewN HB1.out _⟩
end Go.Proofs.YtogjcaakfnfapaaGreatDoor
namespace Go.Proofs.YtogjcaakfnfapaaGreatDoor
open Go Go.RowKit
set_option linter.unusedVariables false
set_option linter.unusedSimpArgs false
set_option maxRecDepth 100000
theorem clone_S (v : Value) (l : List Lb) (w : World) (h : Sl lenc w v l) (hl : l.length ≤ 1000000) :
    Calls Tryz.prog 45 #[v] w fun e w' => ∃ a n c, e = .returned (.slice a n c) ∧ Sl lenc w' (.slice a n c) l ∧ (∀ k, (Value.slice a n c).ownBlock = some k → w.heap.size ≤ k) ∧ Below w.heap.size w w' := by
  refine (clone_any v l w h hl).mono ?_
  rintro e w' ⟨v', rfl, ho, hb⟩
  have hs : Sl lenc w' v' l := Sl.own lenc_len (by decide) ho
  obtain ⟨a, c, rfl, h1⟩ := id hs
  exact ⟨a, _, c, rfl, hs, fun k hk => (ho.lt k hk).1, hb⟩
theorem take_canon (ps : List Pt) (k : Nat) (h : k < ps.length) : (ps.take (k + 1)).map canonP = (ps.take k).map canonP ++ [canonP ps[k]] := by
  rw [List.take_succ_eq_append_getElem h, List.map_append]; rfl
set_option maxHeartbeats 8000000 in
theorem normal_any (v : Value) (ps : List Pt) (w : World) (h : VS w v ps) (hl : ps.length ≤ 100000) :
    Calls Tryz.prog 16 #[v] w fun e w' => Below w.heap.size w w' ∧ NR ps e w' := by
  obtain ⟨a, cap, rfl, hlen, hc⟩ := h.split
  have HC := Lib.hid hc
  clear hc h
  obtain ⟨i0, hi, hz0, hz1, hz2⟩ := info_parts Tryz.infoPt
  go_enter Tryz.func16, Tryz.ntmps16
  go_wp2_with fail
  go_loopw [4, 10] (fun v i wr => ∃ (k : Nat), k ≤ ps.length ∧ i = .int .i64 k ∧ OV wr w.heap.size v ((ps.take k).map canonP) ∧ Hid (Below w.heap.size w wr) ∧ Hid (∀ j (hj : j < ps.length), j < k → rightL ps[j].1 = true)) (fun _ i _ => ps.length - (intOf i).toNat)
  case atStart => exact ⟨0, Nat.zero_le _, rfl, OV.nil _ _, Below.refl _ _, fun j _ hj => absurd hj (Nat.not_lt_zero _)⟩
  case round =>
    obtain ⟨k, hk, rfl, hov, HB, HV⟩ := hrel
    have hBz := HB.out.size
    have h00 : (0 : Int) ≤ (k : Int) := by omega
    by_cases hlt : k < ps.length
    · have hltz : (k : Int) < (ps.length : Int) := by omega
      obtain ⟨b, off, lv, rfl, k0, k1, hsl⟩ := HC.out k hlt
      have p0 := cell_below HB.out (Nat.le_refl _) k0
      have p1 := cell_below HB.out (Nat.le_refl _) k1
      have hslr := hsl.below HB.out (Nat.le_refl _)
      obtain ⟨a2, n2, c2, rfl⟩ : ∃ a2 n2 c2, lv = .slice a2 n2 c2 := by
        obtain ⟨a2, c2, e, -⟩ := hsl
        exact ⟨a2, _, c2, e⟩
      obtain ⟨x, hx⟩ : ∃ x, x = ps[k].2 := ⟨_, rfl⟩
      rw [← hx] at p1
      have HX := Lib.hid hx
      have HFR := Lib.hid (fun w' (hb : Below wr.heap.size wr w') => right_any (.slice a2 n2 c2) ps[k].1 w' (hslr.below hb (Nat.le_refl _)))
      have HSL := Lib.hid (fun w' (hb : Below wr.heap.size wr w') => hslr.below hb (Nat.le_refl _))
      obtain ⟨rk, hrk⟩ : ∃ r, r = rightL ps[k].1 := ⟨_, rfl⟩
      rw [← hrk] at HFR
      have HRK := Lib.hid hrk
      clear hsl hslr k0 k1 hx hrk
      have HOV := Lib.hid hov
      obtain ⟨a4, c4, hu4, hc4, hc5⟩ := hov.slice
      clear hov
      go_wp2_with fail
      refine (HFR.out _ ((Below.refl _ _).alloc (Nat.le_refl _) _)).mono ?_
      rintro e w2 ⟨rfl, hg⟩
      have hb2 : Below wr.heap.size wr w2 := ((Below.refl _ _).alloc (Nat.le_refl _) _).trans (hg.below.mono (by simp))
      have q0 : w2.cell? ⟨wr.heap.size, 0, none⟩ = some (.slice a2 n2 c2) := cell_below hg.below (Nat.le_refl _) (by simp)
      have q1 : w2.cell? ⟨wr.heap.size, 1, none⟩ = some (.float .f64 x) := cell_below hg.below (Nat.le_refl _) (by simp)
      have HB2 := Lib.hid hb2
      have HBW := Lib.hid (HB.out.trans (hb2.mono hBz))
      cases rk with
      | false =>
        have HF := Lib.hid (show ∃ p ∈ ps, rightL p.1 = false from ⟨_, List.getElem_mem hlt, HRK.out.symm⟩)
        clear hg hb2
        go_wp2_with fail
        go_ret2
        exact ⟨HBW.out, .inl ⟨HF.out, rfl⟩⟩
      | true =>
        have HLN := Lib.hid (show ps[k].1.length ≤ 1000000 from by have := ((right_iff _).1 HRK.out.symm).2.2; omega)
        obtain ⟨zs, hzs, hown2, hzok⟩ := HOV.out.kept hb2
        have HZS := Lib.hid hzs
        have HZO := Lib.hid hzok
        obtain ⟨g3, hg3⟩ : ∃ g3, g3 = wr.heap.size := ⟨_, rfl⟩
        have hnl : ∀ j, u4.ownBlock = some j → j < g3 := fun j e => by
          obtain ⟨_, _, ho, _⟩ := HOV.out
          have := (ho.lt j e).2
          omega
        have hnb : some g3 ≠ u4.ownBlock := fun e => by have := hnl g3 e.symm; omega
        have hnd : ps.length + 64 ≤ 200000 := by omega
        rw [← hg3] at q0 q1 ⊢
        have hz3 : w.heap.size ≤ w2.heap.size := HBW.out.size
        have hz4 : g3 < w2.heap.size := World.block_lt_of_cell? w2 _ q0
        have hlc : ((ps.take k).map canonP).length = k := by simp; omega
        have HO2 := Lib.hid hown2
        have HNL := Lib.hid hnl
        have HLC := Lib.hid hlc
        clear hg hb2 hzs hzok hu4 hnl hg3
        rw [hlc] at hown2 hc4
        clear hlc
        go_wp2_with fail
        have hS9 : ∀ w', Below w2.heap.size w2 w' → Sl lenc w' (.slice a2 n2 c2) ps[k].1 := fun w' hb => HSL.out w' (HB2.out.trans (hb.mono HB2.out.size))
        have HS9 := Lib.hid hS9
        clear hS9
        go_region_held3 (fun w' => w'.cell? ⟨g3, 0, none⟩ = some (.slice a2 n2 c2) ∧ w'.cell? ⟨g3, 1, none⟩ = some (.float .f64 x))
          (first
            | exact ⟨hgrow.cell (cell_below (B := w2.heap.size) (by go_grown) (Nat.le_refl _) q0) hnb, hgrow.cell (cell_below (B := w2.heap.size) (by go_grown) (Nat.le_refl _) q1) hnb⟩
            | exact ⟨cell_below (B := w2.heap.size) (by go_grown) (Nat.le_refl _) q0, cell_below (B := w2.heap.size) (by go_grown) (Nat.le_refl _) q1⟩)
          (first
            | (go_at_call 45
               refine (clone_S _ _ _ (HS9.out _ (by go_grown)) HLN.out).mono ?_
               rintro e w9 ⟨a9, n9, c9, rfl, hs9, ha9, hb9⟩
               have hbA : Below w2.heap.size w2 w9 := Below.trans (by go_grown) (hb9.mono (by first | exact Nat.le_refl _ | (simp; done)))
               have hsA := hbA.size)
            | (go_at_call 46
               refine (canon_any _ _).mono ?_
               rintro e w8 ⟨rfl, rfl⟩)
            | (refine step_append_at rfl (.tmp 18) (.tmp 26) _ rfl w.heap.size 50 i0 _ 2 32 Tryz.underlying27 hi hz0 hz1 hz2 rfl (by decide) u4 k (zs.flatMap zenc) rfl ?_ ⟨w9.heap.size, 0, none⟩ 1 1 [.slice a9 n9 c9, .float .f64 (canon x)] rfl rfl ?_ ?_ ?_ ?_ ?_ ?_
               (exact World.ownsRow.alloc (hown2.kept (below_grownBy' hbA) (by cases u4.ownBlock with | none => exact .inl rfl | some g => exact .inr (by simp))) _)
               (exact World.news_of_block (heap_new w9 _))
               (intro u hu; simp at hu; rcases hu with rfl | rfl <;> rfl)
               (unfold maxLen; omega)
               (omega)
               (simp <;> omega)
               intro v' w10 hown' hgrow hat))
        have hbC : Below w2.heap.size w2 (w9.alloc (.cells #[.slice a9 n9 c9, .float .f64 (canon x)] 50)) := hbA.alloc hsA _
        have hov' : OV w10 w.heap.size v' ((ps.take (k + 1)).map canonP) := by
          have h1 := OV.appended (v' := v') (w' := w10) (z := (.slice a9 n9 c9, ps[k].1, canon x)) HZS.out (fun z hz => (HZO.out z hz).below hbC (Nat.le_refl _))
            ⟨hs9.below ((Below.refl _ _).alloc (Nat.le_refl _) _) (Nat.le_refl _), fun _ he => by
              have h2 : ∀ j, (Value.slice a9 n9 c9).ownBlock = some j → some j ≠ u4.ownBlock := fun j hj he2 => by
                have h3 : w2.heap.size ≤ j := ha9 j hj
                have h4 := HNL.out j he2.symm
                omega
              cases hob : (Value.slice a9 n9 c9).ownBlock with
              | none =>
                obtain ⟨_, e1, _⟩ := hs9.lt (by assumption)
                rw [e1] at hob; cases hob
              | some j => exact h2 j hob (by rw [← hob]; exact he)⟩ (by rw [HLC.out]; exact hown') hgrow hat
          rw [take_canon ps k hlt]
          have h5 : canonP ps[k] = (ps[k].1, canon x) := by rw [HX.out]; rfl
          rw [h5]; exact h1
        have hbW : Below w.heap.size w w10 := ((HBW.out.trans (hbA.mono hz3)).alloc (by omega) _).grown hgrow (by simp; omega) (fun j hj => (HO2.out.lt j hj).1)
        have HOV2 := Lib.hid hov'
        have HBW2 := Lib.hid hbW
        clear hov' hbW hbC hgrow hat hown' hown2 hs9 ha9 hb9 hbA hsA
        go_wp2_with fail
        go_roundw
        case rel => exact ⟨k + 1, by omega, by go_num, HOV2.out, HBW2.out, fun j hj hjk => by
          by_cases hjk2 : j = k
          · subst hjk2; exact HRK.out.symm
          · exact HV.out j hj (by omega)⟩
        case measure => simp [intOf]; omega
    · have hltz : ¬ (k : Int) < (ps.length : Int) := by omega
      obtain rfl : k = ps.length := by omega
      rw [List.take_of_length_le (Nat.le_refl _)] at hov
      obtain ⟨a4, c4, rfl, hc4, hc5⟩ := hov.slice
      have HS := Lib.hid (vsort_any _ _ _ _ hov (by simp; omega))
      have HA := Lib.hid (show ∀ p ∈ ps, rightL p.1 = true from fun p hp => by
        obtain ⟨j, hj, rfl⟩ := List.mem_iff_getElem.1 hp
        exact HV.out j hj hj)
      obtain ⟨N, hN⟩ : ∃ N, N = (ps.map canonP).length := ⟨_, rfl⟩
      have hNl : N ≤ 100000 := by rw [hN]; simpa using hl
      rw [← hN] at HS hc4 ⊢
      have HN := Lib.hid hN
      clear hov hN
      go_wp2_with fail
      refine HS.out.mono ?_
      rintro e w2 ⟨rfl, qs, hp, hw, hvs, hbw⟩
      have hb2 := hbw w HB.out
      have hql : qs.length = N := by rw [hp.length_eq, HN.out]
      obtain ⟨a5, c5, e5, hlen5, hc5'⟩ := hvs.split
      have hcc : ∀ i (hi : i < qs.length), ∃ b off lv, a4 = some ⟨b, off, none⟩ ∧ w2.cell? ⟨b, off + i * 2, none⟩ = some lv ∧ Sl lenc w2 lv qs[i].1 := fun i hi => by
        obtain ⟨b, off, lv, e1, e2, e3, e4⟩ := hc5' i hi
        injection e5 with e5
        exact ⟨b, off, lv, by rw [e5, e1], e2, e4⟩
      have HQ := Lib.hid hcc
      have HQL := Lib.hid hql
      have HP := Lib.hid hp
      have HW := Lib.hid hw
      have HVS := Lib.hid hvs
      have HB2 := Lib.hid hb2
      have hBz2 := hb2.size
      clear HS hp hw hvs hbw hb2 hql hlen5 hc5' hcc e5
      go_wp2_with fail
      go_loopw [7] (fun i wr => ∃ (k : Nat), k + 1 ≤ max N 1 ∧ i = .int .i64 ((k : Int) + 1) ∧ Hid (Below w2.heap.size w2 wr) ∧ Hid (∀ j (hj : j + 1 < qs.length), j < k → cmpL qs[j].1 qs[j + 1].1 ≠ 0)) (fun i _ => N - (intOf i).toNat)
      case atStart => exact ⟨0, by omega, rfl, Below.refl _ _, fun j _ hj => absurd hj (Nat.not_lt_zero _)⟩
      case round =>
        obtain ⟨k, hk, rfl, HB3, HV3⟩ := hrel
        have h00 : (0 : Int) ≤ (k : Int) := by omega
        have h01 : (0 : Int) ≤ (k : Int) + 1 := by omega
        have hBz3 := HB3.out.size
        by_cases hlt : k + 1 < N
        · have hltz : (k : Int) + 1 < (N : Int) := by omega
          have hltz0 : (k : Int) < (N : Int) := by omega
          have hq1 : k + 1 < qs.length := by have := HQL.out; omega
          obtain ⟨b, off, lv, rfl, k0, s0⟩ := HQ.out k (by omega)
          obtain ⟨b', off', lv', hbb, k1, s1⟩ := HQ.out (k + 1) hq1
          injection hbb with hbb
          injection hbb with hbb1 hbb2
          subst hbb1 hbb2
          have p0 := cell_below HB3.out (Nat.le_refl _) k0
          have p1 := cell_below HB3.out (Nat.le_refl _) k1
          have HSL := Lib.hid (fun w' (hb : Below wr.heap.size wr w') => compare_any lv lv' qs[k].1 qs[k + 1].1 w' ((s0.below HB3.out (Nat.le_refl _)).below hb (Nat.le_refl _)) ((s1.below HB3.out (Nat.le_refl _)).below hb (Nat.le_refl _)))
          obtain ⟨cc, hcc⟩ : ∃ c, c = cmpL qs[k].1 qs[k + 1].1 := ⟨_, rfl⟩
          rw [← hcc] at HSL
          have HCC := Lib.hid hcc
          have hw1 : IntKind.i64.wrap (k : Int) = (k : Int) := by rw [IntKind.wrap_i64] <;> omega
          have hw2 : ((k : Int) + 1).toNat = k + 1 := by omega
          clear k0 k1 s0 s1 hcc
          go_wp2_with fail
          have hbs : Below wr.heap.size wr wr := Below.refl _ _
          go_region_held3 (fun w' => w'.cell? ⟨b, off + k * 2, none⟩ = some lv ∧ w'.cell? ⟨b, off + (k + 1) * 2, none⟩ = some lv')
            (exact ⟨cell_below (B := wr.heap.size) (by go_grown) (Nat.le_refl _) p0, cell_below (B := wr.heap.size) (by go_grown) (Nat.le_refl _) p1⟩)
            (first
              | (go_at_call 49
                 refine (HSL.out _ (by go_grown)).mono ?_
                 rintro e w9 ⟨rfl, hg9⟩
                 have hbA : Below wr.heap.size wr w9 := Below.trans (by go_grown) (hg9.below.mono (by first | exact Nat.le_refl _ | (simp; done)))))
          have hbW : Below w2.heap.size w2 w9 := HB3.out.trans (hbA.mono hBz3)
          have HBB := Lib.hid hbW
          clear hbA hbW hg9
          by_cases hcz : cc = 0
          · have hcb : (cc == 0) = true := by simpa using hcz
            have HF := Lib.hid (no_strict (adj_dup hq1 (by rw [← HCC.out, hcz])) HP.out)
            subst hcz
            go_wp2_with fail
            go_ret2
            exact ⟨HB2.out.trans (HBB.out.mono hBz2), .inr (.inl ⟨HA.out, HF.out, rfl⟩)⟩
          · have hcb : (cc == 0) = false := by simpa using hcz
            have HCZ := Lib.hid hcz
            clear hcz
            go_wp2_with fail
            go_roundw
            case rel => exact ⟨k + 1, by omega, by go_num, HBB.out, fun j hj hjk => by
              by_cases hjk2 : j = k
              · subst hjk2; rw [← HCC.out]; exact HCZ.out
              · exact HV3.out j hj (by omega)⟩
            case measure => simp [intOf]; omega
        · have hltz : ¬ (k : Int) + 1 < (N : Int) := by omega
          have HF := Lib.hid (weak_adj HW.out fun j hj => HV3.out j hj (by have := HQL.out; omega))
          have HVV := Lib.hid (HVS.out.below HB3.out (Nat.le_refl _))
          go_wp2_with fail
          go_ret2
          exact ⟨HB2.out.trans (HB3.out.mono hBz2), .inr (.inr ⟨HA.out, qs, _, HP.out, HF.out, rfl, HVV.out⟩)⟩
end Go.Proofs.YtogjcaakfnfapaaGreatDoor
namespace Go.Proofs.YtogjcaakfnfapaaGreatDoor
open Go Go.RowKit Go.Maps
set_option linter.unusedVariables false
set_option linter.unusedSimpArgs false
set_option maxRecDepth 100000
def isB (op : Int) : Bool := decide (1 ≤ op) && decide (op ≤ 8)
def takesB (op : Int) : Bool := op == 6 || op == 7
theorem zpts_flat : ∀ (raw : List RPt) (ps : List Pt), raw.length = ps.length → (∀ k (h : k < raw.length) (h2 : k < ps.length), raw[k].2 = ps[k].2) → (List.zipWith (fun (r : RPt) (p : Pt) => ((r.1, p) : ZPt)) raw ps).flatMap zenc = raw.flatMap penc
  | [], ps, _, _ => by simp
  | r :: raw, [], h, _ => by simp at h
  | r :: raw, p :: ps, h, hk => by
    have e0 := hk 0 (by simp) (by simp)
    simp only [List.getElem_cons_zero] at e0
    rw [List.zipWith_cons_cons, List.flatMap_cons, List.flatMap_cons, zpts_flat raw ps (by simpa using h) (fun k h1 h2 => hk (k + 1) (by simpa using h1) (by simpa using h2))]
    show [r.1, .float .f64 p.2] ++ _ = [r.1, .float .f64 r.2] ++ _
    rw [e0]
/-- A vector's points, as they lie. -/
theorem VS.zpts {w : World} {v : Value} {ps : List Pt} (h : VS w v ps) : ∃ zs : List ZPt, zs.map (·.2) = ps ∧ Sl zenc w v zs ∧ ∀ z ∈ zs, Sl lenc w z.1 z.2.1 := by
  obtain ⟨raw, h1, h2, h3⟩ := h
  refine ⟨List.zipWith (fun (r : RPt) (p : Pt) => ((r.1, p) : ZPt)) raw ps, ?_, ?_, fun z hz => ?_⟩
  · refine List.ext_getElem (by simp [h2]) fun k a b => ?_
    simp
  · obtain ⟨a, cap, rfl, hm, hn, hc⟩ := h1
    have hf := zpts_flat raw ps h2 (fun k a b => (h3 k a b).2)
    refine ⟨a, cap, by simp [h2], by simpa [h2] using hm, fun e => ?_, fun hx => ?_⟩
    · obtain ⟨e1, e2⟩ := hn e; exact ⟨e1, by rw [e2]; rfl⟩
    · obtain ⟨b, off, e, hd⟩ := hc (fun e => hx (by rw [e]; rfl))
      exact ⟨b, off, e, by rw [hf]; exact hd⟩
  · obtain ⟨k, hk, rfl⟩ := List.mem_iff_getElem.1 hz
    rw [List.getElem_zipWith]
    exact (h3 k (by simp at hk; omega) (by simp at hk; omega)).1
theorem rows_apart {w : World} {b1 b2 : Nat} {e1 e2 : TypeId} {s1 s2 n1 n2 : Nat} {v1 v2 : Value} {x1 x2 : List Value} (h1 : w.ownsRow b1 e1 s1 v1 n1 x1) (h2 : w.ownsRow b2 e2 s2 v2 n2 x2) (hne : e1 ≠ e2) : v1.ownBlock = none ∨ v1.ownBlock ≠ v2.ownBlock := by
  rcases h1.2 with ⟨rfl, -⟩ | ⟨k, cap, cur, rfl, -, hk, -⟩
  · exact .inl rfl
  · refine .inr fun q => ?_
    rcases h2.2 with ⟨rfl, -⟩ | ⟨k2, cap2, cur2, rfl, -, hk2, -⟩
    · cases q
    · injection q with q
      simp only at q
      subst q
      rw [hk] at hk2
      injection hk2 with hk2
      injection hk2 with _ h2 _
      exact hne h2
/-- A group's points that the answer is made of. -/
def aheadP (op : Int) (x y : Pt) : Bool := aheadF op x.2 y.2
def outP (op : Int) (k : Nat) (gl : Pt → List Lb) (ps : List Pt) (g : List Lb) : List Pt :=
  if takesB op then (stabF (aheadP op) (membG gl ps g)).take (cntN k (membG gl ps g).length) else [(g, oneF op ((membG gl ps g).map (·.2)))]
def glP (how : Int) (names : List ByteArray) (p : Pt) : List Lb := groupL how names p.1
def aggP (op how : Int) (names : List ByteArray) (k : Nat) (ps : List Pt) : List Pt := (firstsG (glP how names) ps).flatMap (outP op k (glP how names) ps)
def PtOk (p : Pt) : Prop := p.1.length ≤ 1000 ∧ SizesOk p.1 ∧ FB p.2
theorem firsts_map {β γ : Type} (f : β → γ) (gl : γ → List Lb) (zs : List β) : firstsG (fun z => gl (f z)) zs = firstsG gl (zs.map f) := by
  unfold firstsG; rw [List.foldl_map]
theorem memb_map {β γ : Type} (f : β → γ) (gl : γ → List Lb) (zs : List β) (g : List Lb) : (membG (fun z => gl (f z)) zs g).map f = membG gl (zs.map f) g := by
  unfold membG; rw [List.filter_map]; rfl
/-- What Agg answers. -/
def AggR (op how : Int) (names : List ByteArray) (k : Nat) (ps : List Pt) (e : Ending) (w' : World) : Prop :=
  ((isB op = false ∨ chkL how names ≠ 0) ∧ e = .returned (.tuple #[.slice none 0 0, .int .i64 1])) ∨
  (isB op = true ∧ chkL how names = 0 ∧ NR (aggP op how names k ps) e w')
theorem nr_congr {ps qs : List Pt} {e : Ending} {w : World} (h : qs.map canonP = ps.map canonP) (H : NR qs e w) : NR ps e w := by
  have key : ∀ {a b : List Pt}, a.map canonP = b.map canonP → (∀ p ∈ a, rightL p.1 = true) → ∀ p ∈ b, rightL p.1 = true := by
    intro a b hab ha p hp
    have h1 : canonP p ∈ b.map canonP := List.mem_map_of_mem hp
    rw [← hab] at h1
    obtain ⟨q, hq, e⟩ := List.mem_map.1 h1
    have := ha q hq
    have e2 : q.1 = p.1 := (show (canonP q).1 = (canonP p).1 by rw [e])
    rwa [e2] at this
  rcases H with ⟨⟨p, hp, h1⟩, he⟩ | ⟨h0, h1, he⟩ | ⟨h0, q, v, h1, h2, he, h4⟩
  · refine .inl ⟨?_, he⟩
    have h2 : canonP p ∈ qs.map canonP := List.mem_map_of_mem hp
    rw [h] at h2
    obtain ⟨q, hq, e⟩ := List.mem_map.1 h2
    have e2 : q.1 = p.1 := (show (canonP q).1 = (canonP p).1 by rw [e])
    exact ⟨q, hq, by rw [e2]; exact h1⟩
  · exact .inr (.inl ⟨key h h0, by rw [← h]; exact h1, he⟩)
  · exact .inr (.inr ⟨key h h0, q, v, by rw [← h]; exact h1, h2, he, h4⟩)
theorem nr_tuple {ps : List Pt} {e : Ending} {w : World} (H : NR ps e w) : ∃ v n, e = .returned (.tuple #[v, .int .i64 n]) := by
  rcases H with ⟨-, rfl⟩ | ⟨-, -, rfl⟩ | ⟨-, q, v, -, -, rfl, -⟩
  · exact ⟨_, _, rfl⟩
  · exact ⟨_, _, rfl⟩
  · exact ⟨_, _, rfl⟩
end Go.Proofs.YtogjcaakfnfapaaGreatDoor
namespace Go.Proofs.YtogjcaakfnfapaaGreatDoor
open Go Go.RowKit
set_option linter.unusedVariables false
set_option linter.unusedSimpArgs false
set_option maxRecDepth 100000
theorem keep_own (v vn : Value) (l : List Lb) (names : List ByteArray) (w : World) (h : Sl lenc w v l) (hn : Sl senc1 w vn names) (hl : l.length ≤ 1000000) :
    Calls Tryz.prog 92 #[v, vn] w fun e w' => ∃ v', e = .returned v' ∧ w'.ownsRow w.heap.size 46 2 v' (pickL names true l).length ((pickL names true l).flatMap lenc) ∧ Below w.heap.size w w' := by
  have HF := Lib.hid (pick_own v vn l names true w h hn hl)
  clear h hn
  go_enter Tryz.func92, Tryz.ntmps92
  go_wp2_with fail
  refine HF.out.mono ?_
  rintro e w1 ⟨v', rfl, hs, hb⟩
  go_wp2_with fail
  go_ret
  exact ⟨_, rfl, hs, hb⟩
set_option maxHeartbeats 4000000 in
theorem group_own (v vn : Value) (how : Int) (l : List Lb) (names : List ByteArray) (w : World) (h : Sl lenc w v l) (hn : Sl senc1 w vn names) (hl : l.length ≤ 100000) :
    Calls Tryz.prog 79 #[v, .agg #[.int .i64 how, vn]] w fun e w' => ∃ v', e = .returned v' ∧ w'.ownsRow w.heap.size 46 2 v' (groupL how names l).length ((groupL how names l).flatMap lenc) ∧ Below w.heap.size w w' := by
  obtain ⟨a, cap, rfl, hlen, -⟩ := hn.strings
  have hb0 : Below w.heap.size w (w.alloc (.cells #[.int .i64 how, .slice a names.length cap] 24)) := (Below.refl _ _).alloc (Nat.le_refl _) _
  have HSL := Lib.hid (h.below hb0 (Nat.le_refl _))
  have HN := Lib.hid (hn.below hb0 (Nat.le_refl _))
  have HB0 := Lib.hid hb0
  clear h hn hb0
  by_cases h1 : how = 1
  · have h1b : (how == 1) = true := by simpa using h1
    have HF := Lib.hid (show groupL how names l = pickL names true l by rw [groupL, if_pos h1])
    have HK := Lib.hid (keep_own v (.slice a names.length cap) l names _ HSL.out HN.out (by omega))
    clear h1
    go_enter Tryz.func79, Tryz.ntmps79
    go_wp2_with fail
    refine HK.out.mono ?_
    rintro e w1 ⟨v1, rfl, hs1, hb1⟩
    have HS1 := Lib.hid (ownsRow_low hs1 (base' := w.heap.size) (by simp))
    have HB1 := Lib.hid (HB0.out.trans (hb1.mono (by simp)))
    clear hs1 hb1
    go_wp2_with fail
    go_ret
    exact ⟨_, rfl, by rw [HF.out]; exact HS1.out, HB1.out⟩
  · have h1b : (how == 1) = false := by simpa using h1
    by_cases h2 : how = 2
    · have h2b : (how == 2) = true := by simpa using h2
      have HF := Lib.hid (show groupL how names l = pickL [gnameS] false (pickL names false l) by rw [groupL, if_neg h1, if_pos h2])
      have HK := Lib.hid (drop_any v (.slice a names.length cap) l names _ HSL.out HN.out (by omega))
      clear h1 h2
      go_enter Tryz.func79, Tryz.ntmps79
      go_wp2_with fail
      refine HK.out.mono ?_
      rintro e w1 ⟨v1, rfl, hs1, hb1⟩
      have HB1 := Lib.hid (HB0.out.trans (hb1.mono (by simp)))
      have hb2 : Below w1.heap.size w1 (w1.alloc (.cells #[.string gnameS] 9)) := (Below.refl _ _).alloc (Nat.le_refl _) _
      have HK2 := Lib.hid (drop_own v1 (.slice (some ⟨w1.heap.size, 0, none⟩) 1 1) (pickL names false l) [gnameS] _ (hs1.below hb2 (Nat.le_refl _)) (gsl_one w1 gnameS) (by have := pick_len names false l; omega))
      have HB2 := Lib.hid (HB1.out.trans (hb2.mono HB1.out.size))
      clear hs1 hb1 hb2
      go_wp2_with fail
      refine HK2.out.mono ?_
      rintro e w2 ⟨v2, rfl, hs2, hb2⟩
      have HS2 := Lib.hid (ownsRow_low hs2 (base' := w.heap.size) (by have := HB2.out.size; simp at this ⊢; omega))
      have HB3 := Lib.hid (HB2.out.trans (hb2.mono HB2.out.size))
      clear hs2 hb2
      go_wp2_with fail
      go_ret
      exact ⟨_, rfl, by rw [HF.out]; exact HS2.out, HB3.out⟩
    · have h2b : (how == 2) = false := by simpa using h2
      have HF := Lib.hid (show groupL how names l = [] by rw [groupL, if_neg h1, if_neg h2])
      clear h1 h2
      go_enter Tryz.func79, Tryz.ntmps79
      go_wp2_with fail
      go_ret
      exact ⟨_, rfl, by rw [HF.out]; exact World.ownsRow_nil _ _ _ _, HB0.out⟩
set_option maxHeartbeats 2000000 in
theorem rkeep_own (v vn : Value) (l : List Lb) (names : List ByteArray) (w : World) (h : Sl lenc w v l) (hn : Sl senc1 w vn names) (hl : l.length ≤ 1000000) :
    Calls Tryz.prog 82 #[v, vn] w fun e w' => ∃ v', e = .returned v' ∧ w'.ownsRow w.heap.size 46 2 v' (pickL names true l).length ((pickL names true l).flatMap lenc) ∧ Below w.heap.size w w' := by
  obtain ⟨a, cap, rfl, hlen, -, hc⟩ := h.split lenc_len
  have HC := Lib.hid hc
  have HN := Lib.hid hn
  clear hc h hn
  obtain ⟨i0, hi, hz0, hz1, hz2⟩ := info_parts Tryz.infoLb
  go_enter Tryz.func82, Tryz.ntmps82
  go_wp2_with fail
  go_loopw [5, 6] (fun v i wr => ∃ (k : Nat), k ≤ l.length ∧ i = .int .i64 k ∧ wr.ownsRow w.heap.size 46 2 v (pickL names true (l.take k)).length ((pickL names true (l.take k)).flatMap lenc) ∧ Below w.heap.size w wr) (fun _ i _ => l.length - (intOf i).toNat)
  case atStart => exact ⟨0, Nat.zero_le _, rfl, by simpa [pickL] using World.ownsRow_nil _ _ _ _, Below.refl _ _⟩
  case round =>
    obtain ⟨k, hk, rfl, hown, hb⟩ := hrel
    have hB := hb.size
    have HO := Lib.hid hown
    have HB := Lib.hid hb
    by_cases hlt : k < l.length
    · obtain ⟨b, off, rfl, k0, k1⟩ := lab_cells HC.out hb (Nat.le_refl _) hlt
      have HS := Lib.hid (pick_snoc names true l k hlt)
      have hct := pick_take_len names true l k
      generalize lx l k = x at k0 k1 HS
      clear hb
      obtain ⟨t, y⟩ := x
      simp only at k0 k1
      have hk0 : (0 : Int) ≤ (k : Int) := Int.natCast_nonneg _
      have hk1 : (k : Int) < (l.length : Int) := by omega
      have HCT := Lib.hid (rhas_any vn names t wr (HN.out.below HB.out (Nat.le_refl _)))
      go_wp2_with fail
      refine HCT.out.mono ?_
      rintro e w1 ⟨rfl, rfl⟩
      by_cases he : (hasL names t == true) = true
      · have he2 : hasL names t = true := by simpa using he
        rw [he2]
        have HE := Lib.hid he
        clear he
        go_wp2_with (at_builtin; refine wpList_append_own _ rfl _ _ 47 rfl w.heap.size 46 i0 (.agg #[.string ⟨#[]⟩, .string ⟨#[]⟩]) 2 32 Tryz.underlying47 hi hz0 hz1 hz2 rfl (by decide) _ _ _ rfl (hown.alloc _) ⟨w1.heap.size, 0, none⟩ 1 1 [.string t, .string y] rfl rfl ?c1 ?c2 ?c3 ?c4 ?c5 ?_)
        case c1 => have := two_new w1 (.string t) (.string y) 46; simpa using this
        case c2 => intro u hu; simp at hu; rcases hu with rfl | rfl <;> rfl
        case c3 => unfold maxLen; omega
        case c4 => omega
        case c5 => simp; omega
        intro v' w2 hown' hgrow _
        have HG := Lib.hid hgrow
        have HO' := Lib.hid hown'
        clear hown hgrow hown'
        go_wp2_with fail
        go_roundw
        case rel =>
          refine ⟨k + 1, by omega, by go_num, ?_, (HB.out.alloc hB _).grown HG.out (by simp; omega) (fun j hj => (HO.out.lt j hj).1)⟩
          rw [HS.out, HE.out]
          simp only [if_true, List.length_append, List.flatMap_append]
          exact HO'.out
        case measure => simp [intOf]; omega
      · have he1 : (hasL names t == true) = false := by simpa using he
        have he2 : hasL names t = !true := by cases h1 : hasL names t <;> simp_all
        have HE := Lib.hid he1
        rw [he2]
        clear he he1
        go_wp2_with fail
        go_roundw
        case rel =>
          refine ⟨k + 1, by omega, by go_num, ?_, HB.out⟩
          rw [HS.out, HE.out]
          simpa using HO.out
        case measure => simp [intOf]; omega
    · obtain rfl : k = l.length := by omega
      have hsl : wr.ownsRow w.heap.size 46 2 u5 (pickL names true l).length ((pickL names true l).flatMap lenc) := by rw [List.take_of_length_le (Nat.le_refl _)] at hown; exact hown
      clear hown HO
      go_wp2_with fail
      go_ret
      exact ⟨_, rfl, hsl, HB.out⟩
set_option maxHeartbeats 2000000 in
theorem rdrop_own (v vn : Value) (l : List Lb) (names : List ByteArray) (w : World) (h : Sl lenc w v l) (hn : Sl senc1 w vn names) (hl : l.length ≤ 1000000) :
    Calls Tryz.prog 59 #[v, vn] w fun e w' => ∃ v', e = .returned v' ∧ w'.ownsRow w.heap.size 46 2 v' (pickL names false l).length ((pickL names false l).flatMap lenc) ∧ Below w.heap.size w w' := by
  obtain ⟨a, cap, rfl, hlen, -, hc⟩ := h.split lenc_len
  have HC := Lib.hid hc
  have HN := Lib.hid hn
  clear hc h hn
  obtain ⟨i0, hi, hz0, hz1, hz2⟩ := info_parts Tryz.infoLb
  go_enter Tryz.func59, Tryz.ntmps59
  go_wp2_with fail
  go_loopw [5, 6] (fun v i wr => ∃ (k : Nat), k ≤ l.length ∧ i = .int .i64 k ∧ wr.ownsRow w.heap.size 46 2 v (pickL names false (l.take k)).length ((pickL names false (l.take k)).flatMap lenc) ∧ Below w.heap.size w wr) (fun _ i _ => l.length - (intOf i).toNat)
  case atStart => exact ⟨0, Nat.zero_le _, rfl, by simpa [pickL] using World.ownsRow_nil _ _ _ _, Below.refl _ _⟩
  case round =>
    obtain ⟨k, hk, rfl, hown, hb⟩ := hrel
    have hB := hb.size
    have HO := Lib.hid hown
    have HB := Lib.hid hb
    by_cases hlt : k < l.length
    · obtain ⟨b, off, rfl, k0, k1⟩ := lab_cells HC.out hb (Nat.le_refl _) hlt
      have HS := Lib.hid (pick_snoc names false l k hlt)
      have hct := pick_take_len names false l k
      generalize lx l k = x at k0 k1 HS
      clear hb
      obtain ⟨t, y⟩ := x
      simp only at k0 k1
      have hk0 : (0 : Int) ≤ (k : Int) := Int.natCast_nonneg _
      have hk1 : (k : Int) < (l.length : Int) := by omega
      have HCT := Lib.hid (rhas_any vn names t wr (HN.out.below HB.out (Nat.le_refl _)))
      go_wp2_with fail
      refine HCT.out.mono ?_
      rintro e w1 ⟨rfl, rfl⟩
      by_cases he : (hasL names t == false) = true
      · have he2 : hasL names t = false := by simpa using he
        rw [he2]
        have HE := Lib.hid he
        clear he
        go_wp2_with (at_builtin; refine wpList_append_own _ rfl _ _ 47 rfl w.heap.size 46 i0 (.agg #[.string ⟨#[]⟩, .string ⟨#[]⟩]) 2 32 Tryz.underlying47 hi hz0 hz1 hz2 rfl (by decide) _ _ _ rfl (hown.alloc _) ⟨w1.heap.size, 0, none⟩ 1 1 [.string t, .string y] rfl rfl ?c1 ?c2 ?c3 ?c4 ?c5 ?_)
        case c1 => have := two_new w1 (.string t) (.string y) 46; simpa using this
        case c2 => intro u hu; simp at hu; rcases hu with rfl | rfl <;> rfl
        case c3 => unfold maxLen; omega
        case c4 => omega
        case c5 => simp; omega
        intro v' w2 hown' hgrow _
        have HG := Lib.hid hgrow
        have HO' := Lib.hid hown'
        clear hown hgrow hown'
        go_wp2_with fail
        go_roundw
        case rel =>
          refine ⟨k + 1, by omega, by go_num, ?_, (HB.out.alloc hB _).grown HG.out (by simp; omega) (fun j hj => (HO.out.lt j hj).1)⟩
          rw [HS.out, HE.out]
          simp only [if_true, List.length_append, List.flatMap_append]
          exact HO'.out
        case measure => simp [intOf]; omega
      · have he1 : (hasL names t == false) = false := by simpa using he
        have he2 : hasL names t = !false := by cases h1 : hasL names t <;> simp_all
        have HE := Lib.hid he1
        rw [he2]
        clear he he1
        go_wp2_with fail
        go_roundw
        case rel =>
          refine ⟨k + 1, by omega, by go_num, ?_, HB.out⟩
          rw [HS.out, HE.out]
          simpa using HO.out
        case measure => simp [intOf]; omega
    · obtain rfl : k = l.length := by omega
      have hsl : wr.ownsRow w.heap.size 46 2 u5 (pickL names false l).length ((pickL names false l).flatMap lenc) := by rw [List.take_of_length_le (Nat.le_refl _)] at hown; exact hown
      clear hown HO
      go_wp2_with fail
      go_ret
      exact ⟨_, rfl, hsl, HB.out⟩
set_option maxHeartbeats 4000000 in
theorem rgroup_own (v vn : Value) (how : Int) (l : List Lb) (names : List ByteArray) (w : World) (h : Sl lenc w v l) (hn : Sl senc1 w vn names) (hl : l.length ≤ 100000) (hnl : names.length ≤ 100000) :
    Calls Tryz.prog 60 #[v, .agg #[.int .i64 how, vn]] w fun e w' => ∃ v', e = .returned v' ∧ w'.ownsRow w.heap.size 46 2 v' (groupL how names l).length ((groupL how names l).flatMap lenc) ∧ Below w.heap.size w w' := by
  obtain ⟨i0, hi, hz0, hz1, hz2⟩ := info_parts Tryz.infoStr'
  obtain ⟨a, cap, rfl, hlen, -⟩ := hn.strings
  obtain ⟨-, n1, s1⟩ := hn.src senc1_pos
  have N1 := Lib.hid n1
  have S1 := Lib.hid s1
  have hb0 : Below w.heap.size w (w.alloc (.cells #[.int .i64 how, .slice a names.length cap] 24)) := (Below.refl _ _).alloc (Nat.le_refl _) _
  have HSL := Lib.hid (h.below hb0 (Nat.le_refl _))
  have HSW := Lib.hid h
  have HN := Lib.hid (hn.below hb0 (Nat.le_refl _))
  have HB0 := Lib.hid hb0
  clear h hn hb0 n1 s1
  by_cases h1 : how = 1
  · have h1b : (how == 1) = true := by simpa using h1
    have HF := Lib.hid (show groupL how names l = pickL names true l by rw [groupL, if_pos h1])
    have HK := Lib.hid (rkeep_own v (.slice a names.length cap) l names _ HSL.out HN.out (by omega))
    clear h1
    go_enter Tryz.func60, Tryz.ntmps60
    go_wp2_with fail
    refine HK.out.mono ?_
    rintro e w1 ⟨v1, rfl, hs1, hb1⟩
    have HS1 := Lib.hid (ownsRow_low hs1 (base' := w.heap.size) (by simp))
    have HB1 := Lib.hid (HB0.out.trans (hb1.mono (by simp)))
    clear hs1 hb1
    go_wp2_with fail
    go_ret
    exact ⟨_, rfl, by rw [HF.out]; exact HS1.out, HB1.out⟩
  · have h1b : (how == 1) = false := by simpa using h1
    by_cases h2 : how = 2
    · have h2b : (how == 2) = true := by simpa using h2
      have HF := Lib.hid (show groupL how names l = pickL (gnameS :: names) false l by rw [groupL, if_neg h1, if_pos h2]; exact (pick_two gnameS names l).symm)
      clear h1 h2
      have hown0 : ((w.alloc (.cells #[.int .i64 how, .slice a names.length cap] 24)).alloc (.cells #[.string gnameS] 9)).ownsRow (w.heap.size + 1) 9 1 (.slice (some ⟨w.heap.size + 1, 0, none⟩) 1 1) 1 [.string gnameS] := by
        have := World.ownsRow_lit (base := w.heap.size + 1) (e := 9) (size := 1) (w.alloc (.cells #[.int .i64 how, .slice a names.length cap] 24)) #[.string gnameS] 1 (by simp) (by unfold maxLen; omega) rfl
        simpa using this
      have hbA : Below w.heap.size w ((w.alloc (.cells #[.int .i64 how, .slice a names.length cap] 24)).alloc (.cells #[.string gnameS] 9)) := HB0.out.alloc (by simp) _
      have HBA := Lib.hid hbA
      have HOA := Lib.hid hown0
      clear hbA
      unfold gnameS at hown0
      go_enter Tryz.func60, Tryz.ntmps60
      go_wp2_with (at_builtin; refine wpList_append_rd rfl _ _ 22 rfl (w.heap.size + 1) 9 i0 (.string ⟨#[]⟩) 1 16 Tryz.underlying22 hi hz0 hz1 hz2 rfl (by decide) _ 1 _ rfl hown0 a names.length cap (names.flatMap senc1) rfl N1.out (flat_length senc1_len names) (fun ad e j u hu => cell_below HBA.out (Nat.le_refl _) (S1.out ad e j u hu)) (one_strs names) (by unfold maxLen; omega) (by omega) (by simp) ?_)
      intro v1 w1 hown1 hg1
      have hb1 := HBA.out.grown hg1 (by simp; omega) (fun j hj => by have := (HOA.out.lt j hj).1; omega)
      have hs1 : Sl senc1 w1 v1 (gnameS :: names) := Sl.own senc1_len (by decide) (e := 9) (n := 1 + names.length) (base := w.heap.size + 1) hown1
      have HK := Lib.hid (rdrop_own v v1 l (gnameS :: names) w1 (HSW.out.below hb1 (Nat.le_refl _)) hs1 (by omega))
      have HB1 := Lib.hid hb1
      clear hown0 hown1 hg1 hb1 hs1
      go_wp2_with fail
      refine HK.out.mono ?_
      rintro e w2 ⟨v2, rfl, hs2, hb2⟩
      have HS2 := Lib.hid (ownsRow_low hs2 (base' := w.heap.size) (by have := HB1.out.size; omega))
      have HB3 := Lib.hid (HB1.out.trans (hb2.mono HB1.out.size))
      clear hs2 hb2
      go_wp2_with fail
      go_ret
      exact ⟨_, rfl, by rw [HF.out]; exact HS2.out, HB3.out⟩
    · have h2b : (how == 2) = false := by simpa using h2
      have HF := Lib.hid (show groupL how names l = [] by rw [groupL, if_neg h1, if_neg h2])
      clear h1 h2
      go_enter Tryz.func60, Tryz.ntmps60
      go_wp2_with fail
      go_ret
      exact ⟨_, rfl, by rw [HF.out]; exact World.ownsRow_nil _ _ _ _, HB0.out⟩
end Go.Proofs.YtogjcaakfnfapaaGreatDoor
namespace Go.Proofs.YtogjcaakfnfapaaGreatDoor
open Go Go.RowKit Go.Maps
set_option linter.unusedVariables false
set_option linter.unusedSimpArgs false
set_option maxRecDepth 100000
def glZ (how : Int) (names : List ByteArray) (z : ZPt) : List Lb := groupL how names z.2.1
theorem group_len (how : Int) (names : List ByteArray) (l : List Lb) : (groupL how names l).length ≤ l.length := by
  unfold groupL
  have hp : ∀ (ns : List ByteArray) (b : Bool) (l : List Lb), (pickL ns b l).length ≤ l.length := fun ns b l => by unfold pickL; exact List.length_filter_le _ _
  split
  · exact hp _ _ _
  · split
    · exact Nat.le_trans (hp _ _ _) (hp _ _ _)
    · exact Nat.zero_le _
theorem own_later {w w' : World} {base : Nat} {e : TypeId} {s n : Nat} {v : Value} {xs : List Value} (h : w.ownsRow base e s v n xs) (hb : Below w.heap.size w w') : w'.ownsRow base e s v n xs :=
  h.kept (below_grownBy' hb) (by cases v.ownBlock with | none => exact .inl rfl | some g => exact .inr (by simp))
def kx (K : List (List Lb)) (i : Nat) : List Lb := K.getD i []
theorem senc_keys : ∀ (K : List (List Lb)), (K.map keyL).flatMap senc1 = K.map fun g => Value.string (keyL g)
  | [] => rfl
  | g :: K => by rw [List.map_cons, List.flatMap_cons, senc_keys K]; rfl
theorem outP_len (op : Int) (k : Nat) (gl : Pt → List Lb) (ps : List Pt) (g : List Lb) {n : Nat} (h : ps.length ≤ n) (h1 : 1 ≤ n) : (outP op k gl ps g).length ≤ n := by
  unfold outP
  split
  · rw [List.length_take]
    have h2 := (stab_perm (aheadP op) (membG gl ps g)).length_eq
    have h3 : (membG gl ps g).length ≤ ps.length := List.length_filter_le _ _
    omega
  · exact h1
theorem outs_len (op : Int) (k : Nat) (gl : Pt → List Lb) {ps : List Pt} {n : Nat} (h : ps.length ≤ n) (h1 : 1 ≤ n) : ∀ K : List (List Lb), (K.flatMap (outP op k gl ps)).length ≤ K.length * n
  | [] => by simp
  | g :: K => by
    rw [List.flatMap_cons, List.length_append, List.length_cons, Nat.add_mul]
    have := outP_len op k gl ps g h h1
    have := outs_len op k gl h h1 K
    omega
theorem OV.appendAll {w w' : World} {base : Nat} {v v' : Value} {ps : List Pt} {zs ys : List ZPt} (h1 : zs.map (·.2) = ps) (h3 : ∀ z ∈ zs, ZOk w v.ownBlock z) (hy : ∀ z ∈ ys, ZOk w v.ownBlock z)
    (ho : w'.ownsRow base 50 2 v' (ps.length + ys.length) (zs.flatMap zenc ++ ys.flatMap zenc)) (hg : w.grownBy w' v.ownBlock) (hat : v'.ownBlock = v.ownBlock ∨ v'.ownBlock = some w.heap.size) : OV w' base v' (ps ++ ys.map (·.2)) := by
  have key : ∀ z, ZOk w v.ownBlock z → ZOk w' v'.ownBlock z := by
    intro z h
    refine ⟨(h.grown hg).1, fun hx he => ?_⟩
    rcases hat with e | e
    · exact h.2 hx (by rw [he, e])
    · obtain ⟨b, e1, e2⟩ := h.1.lt hx
      rw [e1, e] at he
      injection he with he
      omega
  refine ⟨zs ++ ys, by simp [h1], ?_, fun y hyy => ?_⟩
  · rw [List.length_append, List.flatMap_append, List.length_map]
    exact ho
  · rcases List.mem_append.1 hyy with hyy | hyy
    · exact key y (h3 y hyy)
    · exact key y (hy y hyy)
theorem outs_take (op : Int) (k : Nat) (gl : Pt → List Lb) (ps : List Pt) (K : List (List Lb)) (j : Nat) (h : j < K.length) : (K.take (j + 1)).flatMap (outP op k gl ps) = (K.take j).flatMap (outP op k gl ps) ++ outP op k gl ps (kx K j) := by
  rw [List.take_succ_eq_append_getElem h, List.flatMap_append, kx, List.getD_eq_getElem?_getD, List.getElem?_eq_getElem h]
  simp
/-- A group's chosen points, as they read. -/
theorem chosen_read (op how : Int) (k : Nat) (names : List ByteArray) {zs : List ZPt} {ps : List Pt} (h : zs.map (·.2) = ps) (g : List Lb) :
    ((stabF (aheadZ op) (membG (glZ how names) zs g)).take (cntN k (membG (glZ how names) zs g).length)).map (·.2) = (stabF (aheadP op) (membG (glP how names) ps g)).take (cntN k (membG (glP how names) ps g).length) := by
  have h1 : (membG (glZ how names) zs g).map (·.2) = membG (glP how names) ps g := by rw [← h]; exact memb_map (fun z : ZPt => z.2) (glP how names) zs g
  have h2 : (membG (glZ how names) zs g).length = (membG (glP how names) ps g).length := by rw [← h1, List.length_map]
  rw [List.map_take, h2]
  congr 1
  rw [← h1]
  exact stab_map (fun z : ZPt => z.2) (aheadP op) _
theorem group_S (v vn : Value) (how : Int) (l : List Lb) (names : List ByteArray) (w : World) (h : Sl lenc w v l) (hn : Sl senc1 w vn names) (hl : l.length ≤ 100000) :
    Calls Tryz.prog 79 #[v, .agg #[.int .i64 how, vn]] w fun e w' => ∃ a n c, e = .returned (.slice a n c) ∧ Sl lenc w' (.slice a n c) (groupL how names l) ∧ (∀ k, (Value.slice a n c).ownBlock = some k → w.heap.size ≤ k) ∧ Below w.heap.size w w' := by
  refine (group_own v vn how l names w h hn hl).mono ?_
  rintro e w' ⟨v', rfl, ho, hb⟩
  have hs : Sl lenc w' v' (groupL how names l) := Sl.own lenc_len (by decide) ho
  obtain ⟨a, c, rfl, h1⟩ := id hs
  exact ⟨a, _, c, rfl, hs, fun k hk => (ho.lt k hk).1, hb⟩
theorem Tryz.infoFl : (Tryz.prog.info? 48).map (fun i => (i.zero, i.size, i.bytes)) = some (some (.float .f64 0), 1, 8) := by kernel_rfl
theorem fl_flat : ∀ F : List ZPt, (F.map fun z => z.2.2).flatMap fenc1 = F.map fun z => Value.float .f64 z.2.2
  | [] => rfl
  | z :: F => by rw [List.map_cons, List.flatMap_cons, fl_flat F]; rfl
theorem zero_pts (w : World) : (zeroValue 27).run Tryz.prog w = .ok (.slice none 0 0) w := by rfl
end Go.Proofs.YtogjcaakfnfapaaGreatDoor
namespace Go.Proofs.YtogjcaakfnfapaaGreatDoor
open Go Go.RowKit
set_option linter.unusedVariables false
set_option linter.unusedSimpArgs false
set_option maxRecDepth 100000
theorem insF_at {α : Type} (lt : α → α → Bool) (x : α) : ∀ (l : List α) (m : Nat), m ≤ l.length → (∀ i (h : i < l.length), i < m → lt x l[i] = false) → (∀ h : m < l.length, lt x l[m] = true) → insF lt x l = l.take m ++ x :: l.drop m
  | [], m, h, _, _ => by simp [insF]
  | y :: r, 0, _, _, h2 => by
    have := h2 (by simp)
    simp only [List.getElem_cons_zero] at this
    unfold insF
    rw [if_pos this]; rfl
  | y :: r, m + 1, h, h1, h2 => by
    have h0 := h1 0 (by simp) (by omega)
    simp only [List.getElem_cons_zero] at h0
    unfold insF
    rw [if_neg (by rw [h0]; decide), insF_at lt x r m (by simpa using h) (fun i hi him => h1 (i + 1) (by simpa using hi) (by omega)) (fun hm => h2 (by simpa using hm))]
    rfl
theorem stab_take {α : Type} (lt : α → α → Bool) (l : List α) (k : Nat) (h : k < l.length) : stabF lt (l.take (k + 1)) = insF lt l[k] (stabF lt (l.take k)) := by
  rw [List.take_succ_eq_append_getElem h, stab_snoc]
theorem S_keepQ {w3 w' : World} {p q : Addr} {x0 x1 : Value} (p0 : w3.cell? p = some x0) (p1 : w3.cell? q = some x1) (h : Below w3.heap.size w3 w') :
    Below w3.heap.size w3 w' ∧ w'.cell? p = some x0 ∧ w'.cell? q = some x1 := ⟨h, cell_below h (Nat.le_refl _) p0, cell_below h (Nat.le_refl _) p1⟩
theorem keep_lit {w' wA : World} {X q n c : Nat} {cs : Array Value} {t : TypeId} {fr : Nat × Nat} (hg : w'.grownBy wA (Value.ownBlock (.slice (some ⟨X, 0, none⟩) n c))) (hne : q ≠ X) (hc : w'.heap[q]? = some (.cells cs t fr)) :
    ∀ j u, cs.toList[j]? = some u → wA.cell? ((⟨q, 0, none⟩ : Addr).add j) = some u := fun j u hu => hg.cell (World.news_of_block hc j u hu) (by
      rw [Addr.add_lit]
      simp only [Value.ownBlock]
      intro e; injection e with e; exact hne e)
end Go.Proofs.YtogjcaakfnfapaaGreatDoor
