/- The walk of VectorFilters. -/
import Derived.Test.YtkflhfdpdgnbfaaVp3
import Derived.Test.YtkflhfdpdgnbfaaVo9
namespace Go.Proofs.Ytkflhfdpdgnbfaa
open Go Go.RowKit
set_option linter.unusedVariables false
set_option linter.unusedSimpArgs false
set_option maxRecDepth 100000
set_option maxHeartbeats 8000000 in
theorem vectorFilters_walk (v : Value) (ps : List Pt) (op : Int) (x : Nat) (left : Bool) (w : World) (hw0 : VS w v ps ∧ ∀ p ∈ ps, (Lit.float .f64 p.2).wf = true) (hw1 : (Lit.int .i64 op).wf = true) (hw2 : (Lit.float .f64 x).wf = true) :
    Calls Try.prog 4 #[v, .int .i64 op, .float .f64 x, .bool left] w fun e w' => e = .returned (.bool true) ∧ Below w.heap.size w w' := by
  have hvs := hw0.1
  have hopb := i64_in hw1
  have HK := Lib.hid (known_any w)
  have HVS := Lib.hid hvs
  obtain ⟨a, cap, rfl, hlen, hc⟩ := hvs.split
  have HC := Lib.hid hc
  obtain ⟨N, hN⟩ : ∃ N, N = ps.length := ⟨_, rfl⟩
  rw [← hN] at HVS hlen ⊢
  have HN := Lib.hid hN
  clear hvs hw0 hN hc hw1 hw2
  have HRT := Lib.hid (fun w' (hb : Below w.heap.size w w') => lright_any _ ps w' (HVS.out.below hb (Nat.le_refl _)))
  obtain ⟨rr, hrr⟩ : ∃ r, r = (vfewL ps && vrightL ps) := ⟨_, rfl⟩
  rw [← hrr] at HRT
  have HRR := Lib.hid hrr
  clear hrr
  have skip : ∀ (P : Prop), P → P := fun _ h => h
  clear skip
  by_cases hgd : rr = true ∧ 5 ≤ op ∧ op ≤ 10 ∧ fnan x = false
  · obtain ⟨hr1, hr5, hr10, hrx⟩ := hgd
    subst hr1
    have hfw : vfewL ps = true ∧ vrightL ps = true := by have := HRR.out.symm; rwa [Bool.and_eq_true] at this
    have HL := Lib.hid (show ps.length ≤ 60 from (few_all hfw.1).1)
    have HST := Lib.hid (vright_parts hfw.2)
    have HX := Lib.hid hrx
    have hxb : (FloatKind.f64.format.order x x != some .eq) = false := hrx
    have h5b : decide (op < 5) = false := decide_eq_false (by omega)
    have h10b : decide (10 < op) = false := decide_eq_false (by omega)
    clear hfw hrx
    go_enter Try.func4, Try.ntmps4
    go_wp2_with fail
    refine HK.out.mono ?_
    rintro e w1 ⟨rfl, hb1⟩
    have HB1 := Lib.hid hb1
    clear hb1
    go_wp2_with fail
    refine (HRT.out _ HB1.out).mono ?_
    rintro e w2 ⟨rfl, n2, rfl⟩
    have HB2 := Lib.hid (below_drewN HB1.out n2)
    generalize w1.drewN n2 = w2 at HB2 ⊢
    go_wp2_with fail
    go_loopw [9] (fun i wr => ∃ k : Nat, k ≤ N ∧ i = .int .i64 k ∧ Hid (∀ j (hj : j < ps.length), j < k → fnan ps[j].2 = false) ∧ Hid (Below w.heap.size w wr)) (fun i _ => N - (intOf i).toNat)
    case atStart => exact ⟨0, Nat.zero_le _, rfl, fun j _ hj => absurd hj (Nat.not_lt_zero _), HB2.out⟩
    case round =>
      obtain ⟨k, hk, rfl, HV, HB⟩ := hrel
      have h00 : (0 : Int) ≤ (k : Int) := by omega
      by_cases hlt : k < N
      · have hltz : (k : Int) < (N : Int) := by omega
        have hp : k < ps.length := by rw [← HN.out]; exact hlt
        obtain ⟨b, off, lv, rfl, k0, k1, -⟩ := HC.out k hp
        have p1 := cell_below HB.out (Nat.le_refl _) k1
        obtain ⟨y, hy⟩ : ∃ y, y = ps[k].2 := ⟨_, rfl⟩
        rw [← hy] at p1
        have HY := Lib.hid hy
        clear k0 k1 hy
        obtain ⟨c, hcE⟩ : ∃ c, c = (FloatKind.f64.format.order y y != some .eq) := ⟨_, rfl⟩
        cases c with
        | true =>
          have hcE2 := hcE.symm
          clear hcE
          go_wp2_with fail
          go_quiet (fail)
          go_wp2_with fail
          go_ret
          exact ⟨rfl, below_drewN HB.out _⟩
        | false =>
          have hcE2 := hcE.symm
          have HF := Lib.hid (show fnan ps[k].2 = false by rw [← HY.out]; exact hcE2)
          clear hcE
          go_wp2_with fail
          go_quiet (fail)
          go_wp2_with fail
          go_roundw
          case rel => exact ⟨k + 1, by omega, by go_num, (fun j hj hjk => by
            by_cases hjk2 : j = k
            · subst hjk2; exact HF.out
            · exact HV.out j hj (by omega)), below_drewN HB.out _⟩
          case measure => simp [intOf]; omega
      · have hltz : ¬ (k : Int) < (N : Int) := by omega
        have HNA := Lib.hid (show ∀ p ∈ ps, fnan p.2 = false from fun p hp => by
          obtain ⟨j, hj, rfl⟩ := List.mem_iff_getElem.1 hp
          exact HV.out j hj (by have := HN.out; omega))
        have hlz : ∀ p ∈ ps, p.1.length ≤ 1000000 := fun p hp => by have := ((right_iff _).1 (HST.out.2 p hp)).2.2; omega
        have hnob : 5 ≤ notOp op ∧ notOp op ≤ 10 := by unfold notOp; repeat' split <;> omega
        have HSA := Lib.hid (fun w' (hb : Below w.heap.size w w') => (scaled_filter _ ps x left op w' (HVS.out.below hb (Nat.le_refl _)) (by have := HL.out; omega) hr5 hr10 hlz).mono fun e w'' h => And.intro h.1 (nr_filter HST.out.1 HST.out.2 HNA.out h.2))
        have HSB := Lib.hid (fun w' (hb : Below w.heap.size w w') => (scaled_filter _ ps x left (notOp op) w' (HVS.out.below hb (Nat.le_refl _)) (by have := HL.out; omega) hnob.1 hnob.2 hlz).mono fun e w'' h => And.intro h.1 (nr_filter HST.out.1 HST.out.2 HNA.out h.2))
        have HJ := Lib.hid (fun e w' h => nr_joined (e := e) (w := w') (x := x) (left := left) hr5 hr10 HX.out HST.out.1 HST.out.2 HNA.out h)
        have hlen2 := parts_len (x := x) (left := left) hr5 hr10 HX.out HNA.out
        obtain ⟨A, hA⟩ : ∃ A, A = ps.filter fun p => holdsF op (sideF left x p.2).1 (sideF left x p.2).2 := ⟨_, rfl⟩
        obtain ⟨B, hB⟩ : ∃ B, B = ps.filter fun p => holdsF (notOp op) (sideF left x p.2).1 (sideF left x p.2).2 := ⟨_, rfl⟩
        rw [← hA] at HSA HJ hlen2
        rw [← hB] at HSB HJ hlen2
        obtain ⟨nA, hnA⟩ : ∃ n, n = A.length := ⟨_, rfl⟩
        obtain ⟨nB, hnB⟩ : ∃ n, n = B.length := ⟨_, rfl⟩
        rw [← hnA, ← hnB, ← HN.out] at hlen2
        have hN60 : N ≤ 60 := by rw [HN.out]; exact HL.out
        have HNA2 := Lib.hid hnA
        have HNB2 := Lib.hid hnB
        have hbne : (((nA : Int) + (nB : Int)) != (N : Int)) = false := by rw [bne_eq_false_iff_eq]; omega
        have hsum : (nA : Int) + (nB : Int) = (N : Int) := by omega
        have HSUM := Lib.hid hsum
        have HNZ := Lib.hid hN60
        have HL2 := Lib.hid hlen2
        have h6 : (op = 5 ∧ notOp op = 6) ∨ (op = 6 ∧ notOp op = 5) ∨ (op = 7 ∧ notOp op = 10) ∨ (op = 8 ∧ notOp op = 9) ∨ (op = 9 ∧ notOp op = 8) ∨ (op = 10 ∧ notOp op = 7) := by
          rcases (by omega : op = 5 ∨ op = 6 ∨ op = 7 ∨ op = 8 ∨ op = 9 ∨ op = 10) with rfl | rfl | rfl | rfl | rfl | rfl <;> decide
        clear hA hB hnA hnB hsum hlen2 hnob hlz
        obtain ⟨i0, hi, hz0, hz1, hz2⟩ := info_parts Try.infoPt
        rcases h6 with ⟨rfl, hno⟩ | ⟨rfl, hno⟩ | ⟨rfl, hno⟩ | ⟨rfl, hno⟩ | ⟨rfl, hno⟩ | ⟨rfl, hno⟩
        all_goals
          rw [hno] at HSB
          clear hno
          have HBq := Lib.hid (HB.out.alloc HB.out.size (.cells #[.int .i64 6, .int .i64 5, .int .i64 10, .int .i64 9, .int .i64 8, .int .i64 7] 3))
          go_wp2_with fail
          refine (HSA.out _ HBq.out).mono ?_
          rintro e w3 ⟨hb3, u, rfl, hu⟩
          have HU := Lib.hid hu
          have HB3 := Lib.hid (HBq.out.trans (hb3.mono HBq.out.size))
          obtain ⟨a5, c5, rfl, -, -⟩ := hu.split
          rw [← HNA2.out] at HU ⊢
          clear hu hb3
          go_wp2_with fail
          refine (HSB.out _ HB3.out).mono ?_
          rintro e w4 ⟨hb4, u, rfl, hu⟩
          have HU4 := Lib.hid (HU.out.below hb4 (Nat.le_refl _))
          have HB4 := Lib.hid (HB3.out.trans (hb4.mono HB3.out.size))
          have HT := Lib.hid hu
          obtain ⟨a6, c6, rfl, -, -⟩ := hu.split
          rw [← HNB2.out] at HT ⊢
          clear hu hb4
          have hwr : IntKind.i64.wrap ((nA : Int) + (nB : Int)) = (nA : Int) + (nB : Int) := by have := HSUM.out; have := HNZ.out; rw [IntKind.wrap_i64] <;> omega
          obtain ⟨zA, hzA, hsA, hlA⟩ := HU4.out.raw
          obtain ⟨zB, hzB, hsB, hlB⟩ := HT.out.raw
          have hzAl : zA.length = nA := by rw [HNA2.out, ← hzA]; simp
          have hzBl : zB.length = nB := by rw [HNB2.out, ← hzB]; simp
          obtain ⟨-, nnA, scA⟩ := hsA.src zenc_pos
          obtain ⟨-, nnB, scB⟩ := hsB.src zenc_pos
          have hz4 : w.heap.size ≤ w4.heap.size := HB4.out.size
          have HLA := Lib.hid hlA
          have HLB := Lib.hid hlB
          have HZA := Lib.hid hzA
          have HZB := Lib.hid hzB
          have HZAL := Lib.hid hzAl
          have HZBL := Lib.hid hzBl
          have NNA := Lib.hid nnA
          have NNB := Lib.hid nnB
          have SCA := Lib.hid scA
          have SCB := Lib.hid scB
          clear hlA hlB hzA hzB hzAl hzBl nnA nnB scA scB hsA hsB
          have hb5 : Below w4.heap.size w4 (w4.alloc (.cells #[] 35)) := (Below.refl _ _).alloc (Nat.le_refl _) _
          have HB5 := Lib.hid hb5
          have hown0 : (w4.alloc (.cells #[] 35)).ownsRow w4.heap.size 35 2 (.slice (some ⟨w4.heap.size, 0, none⟩) 0 0) 0 [] := owns_lit (heap_new _ _) (Nat.le_refl _)
          clear hb5
          go_wp2_with (at_builtin; refine wpList_append_two rfl _ _ 22 25 rfl w4.heap.size 35 35 i0 _ 2 32 Try.underlying22 Try.underlying25 hi hz0 hz1 hz2 rfl (by decide) (.slice (some ⟨w4.heap.size, 0, none⟩) 0 0) 0 [] rfl hown0 a5 nA c5 (zA.flatMap zenc) rfl NNA.out (by rw [flat_length zenc_len, HZAL.out]) (fun ad e j u hu => cell_below HB5.out (Nat.le_refl _) (SCA.out ad e j u hu)) (zenc_one HLA.out) (by unfold maxLen; have := HSUM.out; have := HNZ.out; omega) (by have := HSUM.out; have := HNZ.out; omega) (by simp) ?_)
          intro v1 wA hown1 hg1
          have hbA : Below w4.heap.size w4 wA := HB5.out.grown hg1 (by simp) (fun j hj => by simp [Value.ownBlock] at hj; omega)
          have HBA := Lib.hid hbA
          have hsA := hbA.size
          clear hbA hg1 hown0
          go_wp2_with (at_builtin; refine wpList_append_two rfl _ _ 22 25 rfl w4.heap.size 35 35 i0 _ 2 32 Try.underlying22 Try.underlying25 hi hz0 hz1 hz2 rfl (by decide) v1 nA (zA.flatMap zenc) rfl (by simpa using hown1) a6 nB c6 (zB.flatMap zenc) rfl NNB.out (by rw [flat_length zenc_len, HZBL.out]) (fun ad e j u hu => cell_below HBA.out (Nat.le_refl _) (SCB.out ad e j u hu)) (zenc_one HLB.out) (by unfold maxLen; have := HSUM.out; have := HNZ.out; omega) (by have := HSUM.out; have := HNZ.out; omega) hsA ?_)
          intro v2 wB hown2 hg2
          have hbB : Below w4.heap.size w4 wB := HBA.out.grown hg2 hsA (fun j hj => (hown1.lt j hj).1)
          have hvs2 : VS wB v2 (A ++ B) := by
            have h1 : Sl zenc wB v2 (zA ++ zB) := Sl.own zenc_len (by decide) (e := 35) (n := nA + nB) (base := w4.heap.size) (by rw [List.flatMap_append]; exact hown2)
            have h2 := vs_of h1 (fun z hz => by
              rcases List.mem_append.1 hz with hz | hz
              · exact (HLA.out z hz).below hbB (Nat.le_refl _)
              · exact (HLB.out z hz).below hbB (Nat.le_refl _))
            rw [List.map_append, HZA.out, HZB.out] at h2
            exact h2
          have HNM := Lib.hid (normal_any v2 (A ++ B) wB hvs2 (by rw [List.length_append, ← HNA2.out, ← HNB2.out]; have := HL2.out; have := HNZ.out; omega))
          have HBB := Lib.hid (HB4.out.trans (hbB.mono hz4))
          clear hown1 hown2 hg2 hbB hvs2
          go_wp2_with fail
          refine HNM.out.mono ?_
          rintro e w6 ⟨hb6, hn6⟩
          obtain ⟨u6, rfl, hu6⟩ := HJ.out _ _ hn6
          have HB6 := Lib.hid (HBB.out.trans (hb6.mono HBB.out.size))
          have HCS := Lib.hid (csame_any u6 (.slice a N cap) ps ps w6 hu6 (HVS.out.below HB6.out (Nat.le_refl _)))
          rw [vsame_refl] at HCS
          clear hb6 hn6 hu6
          go_wp2_with fail
          refine HCS.out.mono ?_
          rintro e w7 ⟨rfl, hb7⟩
          have HB7 := Lib.hid (HB6.out.trans (hb7.mono HB6.out.size))
          clear hb7
          go_wp2_with fail
          go_ret
          exact ⟨rfl, HB7.out⟩
  · have hfour : (rr = false) ∨ (rr = true ∧ op < 5) ∨ (rr = true ∧ ¬ op < 5 ∧ 10 < op) ∨ (rr = true ∧ ¬ op < 5 ∧ ¬ 10 < op ∧ fnan x = true) := by
      cases rr
      · exact .inl rfl
      · by_cases h1 : op < 5
        · exact .inr (.inl ⟨rfl, h1⟩)
        · by_cases h2 : 10 < op
          · exact .inr (.inr (.inl ⟨rfl, h1, h2⟩))
          · refine .inr (.inr (.inr ⟨rfl, h1, h2, ?_⟩))
            cases hx : fnan x
            · exact absurd ⟨rfl, by omega, by omega, hx⟩ hgd
            · rfl
    clear hgd
    rcases hfour with rfl | ⟨rfl, h1⟩ | ⟨rfl, h1, h2⟩ | ⟨rfl, h1, h2, h3⟩
    case' inr.inl => have h1b : decide (op < 5) = true := decide_eq_true h1
    case' inr.inr.inl =>
      have h1b : decide (op < 5) = false := decide_eq_false h1
      have h2b : decide (10 < op) = true := decide_eq_true h2
    case' inr.inr.inr =>
      have h1b : decide (op < 5) = false := decide_eq_false h1
      have h2b : decide (10 < op) = false := decide_eq_false h2
      have h3b : (FloatKind.f64.format.order x x != some .eq) = true := h3
    all_goals
      clear HRR
      go_enter Try.func4, Try.ntmps4
      go_wp2_with fail
      refine HK.out.mono ?_
      rintro e w1 ⟨rfl, hb1⟩
      have HB1 := Lib.hid hb1
      clear hb1
      go_wp2_with fail
      refine (HRT.out _ HB1.out).mono ?_
      rintro e w2 ⟨rfl, n2, rfl⟩
      have HB2 := Lib.hid (below_drewN HB1.out n2)
      generalize w1.drewN n2 = w2 at HB2 ⊢
      go_wp2_with fail
      go_ret
      exact ⟨rfl, HB2.out⟩
end Go.Proofs.Ytkflhfdpdgnbfaa
