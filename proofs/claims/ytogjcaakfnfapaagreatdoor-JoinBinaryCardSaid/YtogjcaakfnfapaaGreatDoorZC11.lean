/- Whether a match may be: both sides (printed by gen_jn6.py). Whether a match's names are few: the laws' own tests. (Several texts in one file, by merge.py.) -/
import Derived.Test.YtogjcaakfnfapaaGreatDoorZC10
namespace Go.Proofs.YtogjcaakfnfapaaGreatDoor
open Go Go.RowKit Go.Lib
set_option linter.unusedVariables false
set_option linter.unusedSimpArgs false
set_option maxRecDepth 100000
theorem chkfn_any (mb : Nat) (vn : Value) (names : List ByteArray) (s : ByteArray) (w : World) (q1 : w.cell? ⟨mb, 1, none⟩ = some vn) (hn : Sl senc1 w vn names) :
    Calls Tryz.prog 38 #[.string s, .pointer (some ⟨mb, 0, none⟩)] w fun e w' => e = .returned (.bool (hasL names s)) ∧ w' = w := by
  have HC := Lib.hid (contains_any vn names s w hn)
  obtain ⟨an, cn, rfl, -, -⟩ := hn.strings
  generalize names.length = nn at HC q1
  clear hn
  go_enter Tryz.func38, Tryz.ntmps38
  go_wp2_with fail
  refine HC.out.mono ?_
  rintro e w1 ⟨rfl, rfl⟩
  go_wp2_with fail
  go_ret
  exact ⟨rfl, rfl⟩
set_option maxHeartbeats 4000000 in
theorem ifunc_any (mb : Nat) (vn vi : Value) (names incl : List ByteArray) (w : World) (q1 : w.cell? ⟨mb, 1, none⟩ = some vn) (hn : Sl senc1 w vn names) (hi : Sl senc1 w vi incl) :
    Calls Tryz.prog 66 #[vi, .func (.func 38) #[] #[.pointer (some ⟨mb, 0, none⟩)]] w fun e w' => (∃ i : Int, e = .returned (.int .i64 i) ∧ decide (0 ≤ i) = incl.any (hasL names)) ∧ w' = w := by
  have eg := enters_of Tryz.func38 (by kernel_rfl) rfl
  have HF := Lib.hid (fun x => chkfn_any mb vn names x w q1 hn)
  obtain ⟨a, cap, rfl, hlen, hc⟩ := hi.strings
  have hc2 : ∀ k, k < incl.length → ∃ b off, a = some ⟨b, off, none⟩ ∧ w.cell? ⟨b, off + k, none⟩ = some (.string (nx incl k)) := fun k hk => by
    obtain ⟨b, off, e, hd⟩ := hc k hk
    exact ⟨b, off, e, by rw [hd k hk, nx_at hk]⟩
  have HC := Lib.hid hc2
  clear hi hc hc2 hn q1
  obtain ⟨n, hnn⟩ : ∃ n, n = incl.length := ⟨_, rfl⟩
  rw [← hnn] at hlen ⊢
  have HNN := Lib.hid hnn
  clear hnn
  go_enter Tryz.func66, Tryz.ntmps66
  go_wp2_with fail
  go_loopw [8] (fun i wr => ∃ k : Nat, k ≤ n ∧ i = .int .i64 k ∧ Hid (∀ j, j < k → hasL names (nx incl j) = false) ∧ wr = w) (fun i _ => n - (intOf i).toNat)
  case atStart => exact ⟨0, Nat.zero_le _, rfl, (fun j h => absurd h (Nat.not_lt_zero _)), rfl⟩
  case round =>
    obtain ⟨k, hk, rfl, HJ, rfl⟩ := hrel
    have h00 : (0 : Int) ≤ (k : Int) := by omega
    by_cases hlt : k < n
    · have hltz : (k : Int) < (n : Int) := by omega
      obtain ⟨b, off, rfl, q0⟩ := HC.out k (by have := HNN.out; omega)
      obtain ⟨x, hx⟩ : ∃ x, x = nx incl k := ⟨_, rfl⟩
      rw [← hx] at q0
      have HX := Lib.hid hx
      have HFX := Lib.hid (HF.out x)
      obtain ⟨bb, hbb⟩ : ∃ b, b = hasL names x := ⟨_, rfl⟩
      rw [← hbb] at HFX
      have HBB := Lib.hid hbb
      clear hx hbb
      cases bb with
      | true =>
        have HA := Lib.hid (show incl.any (hasL names) = true by
          rw [List.any_eq_true]
          exact ⟨x, by rw [HX.out, nx_at (by have := HNN.out; omega)]; exact List.getElem_mem _, HBB.out.symm⟩)
        go_wp2_with fail
        refine HFX.out.mono ?_
        rintro e w2 ⟨rfl, rfl⟩
        go_wp2_with fail
        go_ret
        exact ⟨⟨_, rfl, by rw [HA.out]; simp⟩, rfl⟩
      | false =>
        go_wp2_with fail
        refine HFX.out.mono ?_
        rintro e w2 ⟨rfl, rfl⟩
        go_wp2_with fail
        go_roundw
        case rel => exact ⟨k + 1, by omega, by go_num, (fun j hj => by
            by_cases e : j = k
            · subst e; rw [← HX.out]; exact HBB.out.symm
            · exact HJ.out j (by omega)), by trivial⟩
        case measure => simp [intOf]; omega
    · have hltz : ¬ (k : Int) < (n : Int) := by omega
      have HA := Lib.hid (show incl.any (hasL names) = false by
        rw [List.any_eq_false]
        intro s hs
        obtain ⟨j, hj, rfl⟩ := List.mem_iff_getElem.1 hs
        have := HJ.out j (by have := HNN.out; omega)
        rw [nx_at hj] at this
        simp [this])
      go_wp2_with fail
      go_ret
      exact ⟨⟨_, rfl, by rw [HA.out]; rfl⟩, rfl⟩
theorem cfunc_any (mb : Nat) (vn vi : Value) (names incl : List ByteArray) (w : World) (q1 : w.cell? ⟨mb, 1, none⟩ = some vn) (hn : Sl senc1 w vn names) (hi : Sl senc1 w vi incl) :
    Calls Tryz.prog 37 #[vi, .func (.func 38) #[] #[.pointer (some ⟨mb, 0, none⟩)]] w fun e w' => e = .returned (.bool (incl.any (hasL names))) ∧ Below w.heap.size w w' := by
  have HC := Lib.hid (ifunc_any mb vn vi names incl w q1 hn hi)
  obtain ⟨a, cap, rfl, -, -⟩ := hi.strings
  generalize incl.length = nn at HC ⊢
  obtain ⟨r, hr⟩ : ∃ r, r = incl.any (hasL names) := ⟨_, rfl⟩
  rw [← hr] at HC ⊢
  clear hi hn q1 hr
  go_enter Tryz.func37, Tryz.ntmps37
  go_wp2_with fail
  refine HC.out.mono ?_
  rintro e w2 ⟨⟨i, rfl, hi⟩, rfl⟩
  cases r with
  | true =>
    have h0 : 0 ≤ i := of_decide_eq_true hi
    clear hi
    go_wp2_with fail
    go_ret
    exact ⟨rfl, Below.refl _ _⟩
  | false =>
    have h0 : i < 0 := by have := of_decide_eq_false hi; omega
    go_wp2_with fail
    go_ret
    exact ⟨by first | rfl | exact ret_b hi, Below.refl _ _⟩
theorem mchk_bad {how card : Int} {names incl : List ByteArray} (h : chkL how names ≠ 0 ∨ card < 0 ∨ 2 < card ∨ (card = 0 ∧ 0 < incl.length) ∨ onceL incl = false ∨ (how = 1 ∧ incl.any (hasL names) = true)) : mchkL how names card incl = 1 := if_pos h
theorem mchk_ok {how card : Int} {names incl : List ByteArray} (h : ¬ (chkL how names ≠ 0 ∨ card < 0 ∨ 2 < card ∨ (card = 0 ∧ 0 < incl.length) ∨ onceL incl = false ∨ (how = 1 ∧ incl.any (hasL names) = true))) : mchkL how names card incl = 0 := if_neg h
theorem chk_one {how : Int} {names : List ByteArray} (h : chkL how names ≠ 0) : chkL how names = 1 := by
  unfold chkL at h ⊢
  split
  · rfl
  · rename_i h2
    rw [if_neg h2] at h
    exact absurd rfl h
set_option maxHeartbeats 16000000 in
theorem mcheck_any (how card : Int) (vn vi : Value) (names incl : List ByteArray) (w : World) (hn : Sl senc1 w vn names) (hi : Sl senc1 w vi incl) (hz : ∀ s ∈ names, s.size ≤ maxLen) (hzi : ∀ s ∈ incl, s.size ≤ maxLen) :
    Calls Tryz.prog 12 #[.agg #[.int .i64 how, vn, .int .i64 card, vi]] w fun e w' => e = .returned (.int .i64 (mchkL how names card incl)) ∧ Below w.heap.size w w' := by
  have HN := Lib.hid hn
  have HI := Lib.hid hi
  have HZ := Lib.hid hz
  have HZI := Lib.hid hzi
  obtain ⟨an, cn, rfl, hlen, -⟩ := hn.strings
  obtain ⟨ai, ci, rfl, hleni, -⟩ := hi.strings
  clear hn hi hz hzi
  obtain ⟨nn, hnn⟩ : ∃ n, n = names.length := ⟨_, rfl⟩
  rw [← hnn] at HN hlen ⊢
  obtain ⟨ni, hni⟩ : ∃ n, n = incl.length := ⟨_, rfl⟩
  rw [← hni] at HI hleni ⊢
  have HNI := Lib.hid hni
  clear hnn hni
  obtain ⟨w1, hw1⟩ : ∃ w1, w1 = w.alloc (.cells #[.int .i64 how, .slice an nn cn, .int .i64 card, .slice ai ni ci] 26) := ⟨_, rfl⟩
  obtain ⟨mb, hmb⟩ : ∃ b, b = w.heap.size := ⟨_, rfl⟩
  have Q0 := Lib.hid (show w1.cell? ⟨mb, 0, none⟩ = some (.int .i64 how) by rw [hw1, hmb]; simp)
  have Q1 := Lib.hid (show w1.cell? ⟨mb, 1, none⟩ = some (.slice an nn cn) by rw [hw1, hmb]; simp)
  have Q2 := Lib.hid (show w1.cell? ⟨mb, 2, none⟩ = some (.int .i64 card) by rw [hw1, hmb]; simp)
  have Q3 := Lib.hid (show w1.cell? ⟨mb, 3, none⟩ = some (.slice ai ni ci) by rw [hw1, hmb]; simp)
  have HB1 := Lib.hid (show Below w.heap.size w w1 by rw [hw1]; exact (Below.refl _ _).alloc (Nat.le_refl _) _)
  have HW1 := Lib.hid hw1
  have HMB := Lib.hid hmb
  have HCK := Lib.hid (check_any how _ names w1 (HN.out.below HB1.out (Nat.le_refl _)) HZ.out)
  have HON := Lib.hid (fun w' (hb : Below w.heap.size w w') => once_any _ incl w' (HI.out.below hb (Nat.le_refl _)) HZI.out)
  clear hw1 hmb
  obtain ⟨r, hr⟩ : ∃ r, r = mchkL how names card incl := ⟨_, rfl⟩
  rw [← hr]
  obtain ⟨ck, hck⟩ : ∃ c, c = chkL how names := ⟨_, rfl⟩
  rw [← hck] at HCK
  obtain ⟨on, hon⟩ : ∃ b, b = onceL incl := ⟨_, rfl⟩
  rw [← hon] at HON
  have HNI := HNI.out
  by_cases hc0 : ck = 0
  · subst hc0
    by_cases h1 : card < 0
    · rw [mchk_bad (.inr (.inl h1))] at hr
      subst hr
      clear hck hon HNI
      go_enter Tryz.func12, Tryz.ntmps12
      go_wp2_with fail
      rw [← HW1.out, ← HMB.out]
      refine HCK.out.mono ?_
      rintro e w2 ⟨rfl, hb2⟩
      have q0 := cell_below hb2 (Nat.le_refl _) Q0.out
      have q1 := cell_below hb2 (Nat.le_refl _) Q1.out
      have q2 := cell_below hb2 (Nat.le_refl _) Q2.out
      have q3 := cell_below hb2 (Nat.le_refl _) Q3.out
      have HB2 := Lib.hid (HB1.out.trans (hb2.mono HB1.out.size))
      clear hb2
      go_wp2_with fail
      go_ret
      exact ⟨rfl, HB2.out⟩
    · have h1' : 0 ≤ card := by omega
      clear h1
      by_cases h2 : 2 < card
      · rw [mchk_bad (.inr (.inr (.inl h2)))] at hr
        subst hr
        clear hck hon HNI
        go_enter Tryz.func12, Tryz.ntmps12
        go_wp2_with fail
        rw [← HW1.out, ← HMB.out]
        refine HCK.out.mono ?_
        rintro e w2 ⟨rfl, hb2⟩
        have q0 := cell_below hb2 (Nat.le_refl _) Q0.out
        have q1 := cell_below hb2 (Nat.le_refl _) Q1.out
        have q2 := cell_below hb2 (Nat.le_refl _) Q2.out
        have q3 := cell_below hb2 (Nat.le_refl _) Q3.out
        have HB2 := Lib.hid (HB1.out.trans (hb2.mono HB1.out.size))
        clear hb2
        go_wp2_with fail
        go_ret
        exact ⟨rfl, HB2.out⟩
      · have h2' : card ≤ 2 := by omega
        clear h2
        by_cases h3 : card = 0 ∧ 0 < ni
        · obtain ⟨h3, h4⟩ := h3
          rw [mchk_bad (.inr (.inr (.inr (.inl ⟨h3, by omega⟩))))] at hr
          subst hr h3
          have h5 : (0 : Int) < (ni : Int) := by omega
          clear hck hon HNI h1' h2'
          go_enter Tryz.func12, Tryz.ntmps12
          go_wp2_with fail
          rw [← HW1.out, ← HMB.out]
          refine HCK.out.mono ?_
          rintro e w2 ⟨rfl, hb2⟩
          have q0 := cell_below hb2 (Nat.le_refl _) Q0.out
          have q1 := cell_below hb2 (Nat.le_refl _) Q1.out
          have q2 := cell_below hb2 (Nat.le_refl _) Q2.out
          have q3 := cell_below hb2 (Nat.le_refl _) Q3.out
          have HB2 := Lib.hid (HB1.out.trans (hb2.mono HB1.out.size))
          clear hb2
          go_wp2_with fail
          go_ret
          exact ⟨rfl, HB2.out⟩
        · cases on with
          | false =>
            rw [mchk_bad (.inr (.inr (.inr (.inr (.inl hon.symm)))))] at hr
            subst hr
            clear hck hon HNI
            by_cases h5 : card = 0
            · subst h5
              obtain rfl : ni = 0 := by omega
              clear h3 h1' h2'
              go_enter Tryz.func12, Tryz.ntmps12
              go_wp2_with fail
              rw [← HW1.out, ← HMB.out]
              refine HCK.out.mono ?_
              rintro e w2 ⟨rfl, hb2⟩
              have q0 := cell_below hb2 (Nat.le_refl _) Q0.out
              have q1 := cell_below hb2 (Nat.le_refl _) Q1.out
              have q2 := cell_below hb2 (Nat.le_refl _) Q2.out
              have q3 := cell_below hb2 (Nat.le_refl _) Q3.out
              have HB2 := Lib.hid (HB1.out.trans (hb2.mono HB1.out.size))
              clear hb2
              go_wp2_with fail
              refine (HON.out _ HB2.out).mono ?_
              rintro e w3 ⟨rfl, hb3⟩
              have q0 := cell_below hb3 (Nat.le_refl _) q0
              have q1 := cell_below hb3 (Nat.le_refl _) q1
              have q2 := cell_below hb3 (Nat.le_refl _) q2
              have q3 := cell_below hb3 (Nat.le_refl _) q3
              have HB3 := Lib.hid (HB2.out.trans (hb3.mono HB2.out.size))
              clear hb3
              go_wp2_with fail
              go_ret
              exact ⟨rfl, HB3.out⟩
            · have h6 : (card == 0) = false := by simpa using h5
              clear h3 h5
              go_enter Tryz.func12, Tryz.ntmps12
              go_wp2_with fail
              rw [← HW1.out, ← HMB.out]
              refine HCK.out.mono ?_
              rintro e w2 ⟨rfl, hb2⟩
              have q0 := cell_below hb2 (Nat.le_refl _) Q0.out
              have q1 := cell_below hb2 (Nat.le_refl _) Q1.out
              have q2 := cell_below hb2 (Nat.le_refl _) Q2.out
              have q3 := cell_below hb2 (Nat.le_refl _) Q3.out
              have HB2 := Lib.hid (HB1.out.trans (hb2.mono HB1.out.size))
              clear hb2
              go_wp2_with fail
              refine (HON.out _ HB2.out).mono ?_
              rintro e w3 ⟨rfl, hb3⟩
              have q0 := cell_below hb3 (Nat.le_refl _) q0
              have q1 := cell_below hb3 (Nat.le_refl _) q1
              have q2 := cell_below hb3 (Nat.le_refl _) q2
              have q3 := cell_below hb3 (Nat.le_refl _) q3
              have HB3 := Lib.hid (HB2.out.trans (hb3.mono HB2.out.size))
              clear hb3
              go_wp2_with fail
              go_ret
              exact ⟨rfl, HB3.out⟩
          | true =>
            have HCF := Lib.hid (fun w' (hb : Below w.heap.size w w') (q : w'.cell? ⟨mb, 1, none⟩ = some (.slice an nn cn)) => cfunc_any mb _ _ names incl w' q (HN.out.below hb (Nat.le_refl _)) (HI.out.below hb (Nat.le_refl _)))
            obtain ⟨ab, hab⟩ : ∃ b, b = incl.any (hasL names) := ⟨_, rfl⟩
            rw [← hab] at HCF
            by_cases h7 : how = 1
            · subst h7
              have hrr : r = if ab = true then 1 else 0 := by
                rw [hr]
                cases ab with
                | true => exact mchk_bad (.inr (.inr (.inr (.inr (.inr ⟨rfl, hab.symm⟩)))))
                | false => exact mchk_ok (by rw [← hck, ← hon, ← hab, ← HNI]; simp; omega)
              clear hr hck hon HNI hab
              by_cases h5 : card = 0
              · subst h5
                obtain rfl : ni = 0 := by omega
                clear h3 h1' h2'
                cases ab with
                | true =>
                  rw [if_pos rfl] at hrr
                  subst hrr
                  go_enter Tryz.func12, Tryz.ntmps12
                  go_wp2_with fail
                  rw [← HW1.out, ← HMB.out]
                  refine HCK.out.mono ?_
                  rintro e w2 ⟨rfl, hb2⟩
                  have q0 := cell_below hb2 (Nat.le_refl _) Q0.out
                  have q1 := cell_below hb2 (Nat.le_refl _) Q1.out
                  have q2 := cell_below hb2 (Nat.le_refl _) Q2.out
                  have q3 := cell_below hb2 (Nat.le_refl _) Q3.out
                  have HB2 := Lib.hid (HB1.out.trans (hb2.mono HB1.out.size))
                  clear hb2
                  go_wp2_with fail
                  refine (HON.out _ HB2.out).mono ?_
                  rintro e w3 ⟨rfl, hb3⟩
                  have q0 := cell_below hb3 (Nat.le_refl _) q0
                  have q1 := cell_below hb3 (Nat.le_refl _) q1
                  have q2 := cell_below hb3 (Nat.le_refl _) q2
                  have q3 := cell_below hb3 (Nat.le_refl _) q3
                  have HB3 := Lib.hid (HB2.out.trans (hb3.mono HB2.out.size))
                  clear hb3
                  go_wp2_with fail
                  refine (HCF.out _ HB3.out q1).mono ?_
                  rintro e w4 ⟨rfl, hb4⟩
                  have HB4 := Lib.hid (HB3.out.trans (hb4.mono HB3.out.size))
                  clear hb4
                  go_wp2_with fail
                  go_ret
                  exact ⟨rfl, HB4.out⟩
                | false =>
                  rw [if_neg (by decide)] at hrr
                  subst hrr
                  go_enter Tryz.func12, Tryz.ntmps12
                  go_wp2_with fail
                  rw [← HW1.out, ← HMB.out]
                  refine HCK.out.mono ?_
                  rintro e w2 ⟨rfl, hb2⟩
                  have q0 := cell_below hb2 (Nat.le_refl _) Q0.out
                  have q1 := cell_below hb2 (Nat.le_refl _) Q1.out
                  have q2 := cell_below hb2 (Nat.le_refl _) Q2.out
                  have q3 := cell_below hb2 (Nat.le_refl _) Q3.out
                  have HB2 := Lib.hid (HB1.out.trans (hb2.mono HB1.out.size))
                  clear hb2
                  go_wp2_with fail
                  refine (HON.out _ HB2.out).mono ?_
                  rintro e w3 ⟨rfl, hb3⟩
                  have q0 := cell_below hb3 (Nat.le_refl _) q0
                  have q1 := cell_below hb3 (Nat.le_refl _) q1
                  have q2 := cell_below hb3 (Nat.le_refl _) q2
                  have q3 := cell_below hb3 (Nat.le_refl _) q3
                  have HB3 := Lib.hid (HB2.out.trans (hb3.mono HB2.out.size))
                  clear hb3
                  go_wp2_with fail
                  refine (HCF.out _ HB3.out q1).mono ?_
                  rintro e w4 ⟨rfl, hb4⟩
                  have HB4 := Lib.hid (HB3.out.trans (hb4.mono HB3.out.size))
                  clear hb4
                  go_wp2_with fail
                  go_ret
                  exact ⟨rfl, HB4.out⟩
              · have h6 : (card == 0) = false := by simpa using h5
                clear h3 h5
                cases ab with
                | true =>
                  rw [if_pos rfl] at hrr
                  subst hrr
                  go_enter Tryz.func12, Tryz.ntmps12
                  go_wp2_with fail
                  rw [← HW1.out, ← HMB.out]
                  refine HCK.out.mono ?_
                  rintro e w2 ⟨rfl, hb2⟩
                  have q0 := cell_below hb2 (Nat.le_refl _) Q0.out
                  have q1 := cell_below hb2 (Nat.le_refl _) Q1.out
                  have q2 := cell_below hb2 (Nat.le_refl _) Q2.out
                  have q3 := cell_below hb2 (Nat.le_refl _) Q3.out
                  have HB2 := Lib.hid (HB1.out.trans (hb2.mono HB1.out.size))
                  clear hb2
                  go_wp2_with fail
                  refine (HON.out _ HB2.out).mono ?_
                  rintro e w3 ⟨rfl, hb3⟩
                  have q0 := cell_below hb3 (Nat.le_refl _) q0
                  have q1 := cell_below hb3 (Nat.le_refl _) q1
                  have q2 := cell_below hb3 (Nat.le_refl _) q2
                  have q3 := cell_below hb3 (Nat.le_refl _) q3
                  have HB3 := Lib.hid (HB2.out.trans (hb3.mono HB2.out.size))
                  clear hb3
                  go_wp2_with fail
                  refine (HCF.out _ HB3.out q1).mono ?_
                  rintro e w4 ⟨rfl, hb4⟩
                  have HB4 := Lib.hid (HB3.out.trans (hb4.mono HB3.out.size))
                  clear hb4
                  go_wp2_with fail
                  go_ret
                  exact ⟨rfl, HB4.out⟩
                | false =>
                  rw [if_neg (by decide)] at hrr
                  subst hrr
                  go_enter Tryz.func12, Tryz.ntmps12
                  go_wp2_with fail
                  rw [← HW1.out, ← HMB.out]
                  refine HCK.out.mono ?_
                  rintro e w2 ⟨rfl, hb2⟩
                  have q0 := cell_below hb2 (Nat.le_refl _) Q0.out
                  have q1 := cell_below hb2 (Nat.le_refl _) Q1.out
                  have q2 := cell_below hb2 (Nat.le_refl _) Q2.out
                  have q3 := cell_below hb2 (Nat.le_refl _) Q3.out
                  have HB2 := Lib.hid (HB1.out.trans (hb2.mono HB1.out.size))
                  clear hb2
                  go_wp2_with fail
                  refine (HON.out _ HB2.out).mono ?_
                  rintro e w3 ⟨rfl, hb3⟩
                  have q0 := cell_below hb3 (Nat.le_refl _) q0
                  have q1 := cell_below hb3 (Nat.le_refl _) q1
                  have q2 := cell_below hb3 (Nat.le_refl _) q2
                  have q3 := cell_below hb3 (Nat.le_refl _) q3
                  have HB3 := Lib.hid (HB2.out.trans (hb3.mono HB2.out.size))
                  clear hb3
                  go_wp2_with fail
                  refine (HCF.out _ HB3.out q1).mono ?_
                  rintro e w4 ⟨rfl, hb4⟩
                  have HB4 := Lib.hid (HB3.out.trans (hb4.mono HB3.out.size))
                  clear hb4
                  go_wp2_with fail
                  go_ret
                  exact ⟨rfl, HB4.out⟩
            · have h8 : (how == 1) = false := by simpa using h7
              have hrr : r = 0 := by rw [hr]; exact mchk_ok (by rw [← hck, ← hon, ← HNI]; simp; omega)
              subst hrr
              clear hr hck hon HNI hab h7
              by_cases h5 : card = 0
              · subst h5
                obtain rfl : ni = 0 := by omega
                clear h3 h1' h2'
                go_enter Tryz.func12, Tryz.ntmps12
                go_wp2_with fail
                rw [← HW1.out, ← HMB.out]
                refine HCK.out.mono ?_
                rintro e w2 ⟨rfl, hb2⟩
                have q0 := cell_below hb2 (Nat.le_refl _) Q0.out
                have q1 := cell_below hb2 (Nat.le_refl _) Q1.out
                have q2 := cell_below hb2 (Nat.le_refl _) Q2.out
                have q3 := cell_below hb2 (Nat.le_refl _) Q3.out
                have HB2 := Lib.hid (HB1.out.trans (hb2.mono HB1.out.size))
                clear hb2
                go_wp2_with fail
                refine (HON.out _ HB2.out).mono ?_
                rintro e w3 ⟨rfl, hb3⟩
                have q0 := cell_below hb3 (Nat.le_refl _) q0
                have q1 := cell_below hb3 (Nat.le_refl _) q1
                have q2 := cell_below hb3 (Nat.le_refl _) q2
                have q3 := cell_below hb3 (Nat.le_refl _) q3
                have HB3 := Lib.hid (HB2.out.trans (hb3.mono HB2.out.size))
                clear hb3
                go_wp2_with fail
                go_ret
                exact ⟨rfl, HB3.out⟩
              · have h6 : (card == 0) = false := by simpa using h5
                clear h3 h5
                go_enter Tryz.func12, Tryz.ntmps12
                go_wp2_with fail
                rw [← HW1.out, ← HMB.out]
                refine HCK.out.mono ?_
                rintro e w2 ⟨rfl, hb2⟩
                have q0 := cell_below hb2 (Nat.le_refl _) Q0.out
                have q1 := cell_below hb2 (Nat.le_refl _) Q1.out
                have q2 := cell_below hb2 (Nat.le_refl _) Q2.out
                have q3 := cell_below hb2 (Nat.le_refl _) Q3.out
                have HB2 := Lib.hid (HB1.out.trans (hb2.mono HB1.out.size))
                clear hb2
                go_wp2_with fail
                refine (HON.out _ HB2.out).mono ?_
                rintro e w3 ⟨rfl, hb3⟩
                have q0 := cell_below hb3 (Nat.le_refl _) q0
                have q1 := cell_below hb3 (Nat.le_refl _) q1
                have q2 := cell_below hb3 (Nat.le_refl _) q2
                have q3 := cell_below hb3 (Nat.le_refl _) q3
                have HB3 := Lib.hid (HB2.out.trans (hb3.mono HB2.out.size))
                clear hb3
                go_wp2_with fail
                go_ret
                exact ⟨rfl, HB3.out⟩
  · have hck1 : ck = 1 := by rw [hck]; exact chk_one (by rw [← hck]; exact hc0)
    rw [mchk_bad (.inl (by rw [← hck]; exact hc0))] at hr
    subst hr hck1
    clear hck hc0 hon HNI
    go_enter Tryz.func12, Tryz.ntmps12
    go_wp2_with fail
    rw [← HW1.out, ← HMB.out]
    refine HCK.out.mono ?_
    rintro e w2 ⟨rfl, hb2⟩
    have q0 := cell_below hb2 (Nat.le_refl _) Q0.out
    have q1 := cell_below hb2 (Nat.le_refl _) Q1.out
    have q2 := cell_below hb2 (Nat.le_refl _) Q2.out
    have q3 := cell_below hb2 (Nat.le_refl _) Q3.out
    have HB2 := Lib.hid (HB1.out.trans (hb2.mono HB1.out.size))
    clear hb2
    go_wp2_with fail
    go_ret
    exact ⟨rfl, HB2.out⟩
end Go.Proofs.YtogjcaakfnfapaaGreatDoor
namespace Go.Proofs.YtogjcaakfnfapaaGreatDoor
open Go Go.RowKit
set_option linter.unusedVariables false
set_option linter.unusedSimpArgs false
set_option maxRecDepth 100000
set_option maxHeartbeats 4000000 in
theorem mcount_any (how card : Int) (vn vi : Value) (names incl : List ByteArray) (w : World) (hn : Sl senc1 w vn names) (hi : Sl senc1 w vi incl) :
    Calls Tryz.prog 7 #[.agg #[.int .i64 how, vn, .int .i64 card, vi]] w fun e w' => e = .returned (.bool (decide (names.length ≤ 40) && decide (incl.length ≤ 40))) ∧ Below w.heap.size w w' := by
  obtain ⟨an, cn, rfl, hlen, -⟩ := hn.strings
  obtain ⟨ai, ci, rfl, hleni, -⟩ := hi.strings
  generalize names.length = nn at hlen ⊢
  generalize incl.length = ni at hleni ⊢
  clear hn hi
  by_cases h1 : nn ≤ 40
  · have h1z : (nn : Int) ≤ 40 := by omega
    rw [decide_eq_true h1]
    by_cases h2 : ni ≤ 40
    · have h2z : (ni : Int) ≤ 40 := by omega
      rw [decide_eq_true h2]
      go_enter Tryz.func7, Tryz.ntmps7
      go_wp2_with fail
      go_ret
      exact ⟨by first | rfl | (simp; omega), (Below.refl _ _).alloc (Nat.le_refl _) _⟩
    · have h2z : ¬ (ni : Int) ≤ 40 := by omega
      have h3 : 40 < ni := by omega
      rw [decide_eq_false h2]
      go_enter Tryz.func7, Tryz.ntmps7
      go_wp2_with fail
      go_ret
      exact ⟨by first | rfl | (simp; omega), (Below.refl _ _).alloc (Nat.le_refl _) _⟩
  · have h1z : ¬ (nn : Int) ≤ 40 := by omega
    have h3 : 40 < nn := by omega
    rw [decide_eq_false h1]
    go_enter Tryz.func7, Tryz.ntmps7
    go_wp2_with fail
    go_ret
    exact ⟨by first | rfl | (simp; omega), (Below.refl _ _).alloc (Nat.le_refl _) _⟩
theorem senc1_one (l : List ByteArray) : ∀ u ∈ l.flatMap senc1, u.oneCell' = true := one_strs l
def FewM (names incl : List ByteArray) (w : World) (e : Ending) (w' : World) : Prop := ∃ b, e = .returned (.bool b) ∧ (b = true → (∀ s ∈ names, s.size ≤ 300) ∧ ∀ s ∈ incl, s.size ≤ 300) ∧ Below w.heap.size w w'
set_option maxHeartbeats 4000000 in
theorem mfew_any (how card : Int) (vn vi : Value) (names incl : List ByteArray) (w : World) (hn : Sl senc1 w vn names) (hi : Sl senc1 w vi incl) (h1 : names.length ≤ 40) (h2 : incl.length ≤ 40) :
    Calls Tryz.prog 8 #[.agg #[.int .i64 how, vn, .int .i64 card, vi]] w (FewM names incl w) := by
  obtain ⟨j0, ji, jz0, jz1, jz2⟩ := info_parts Tryz.infoStr'
  obtain ⟨an, cn, rfl, hlen, -⟩ := hn.strings
  obtain ⟨ai, ci, rfl, hleni, -⟩ := hi.strings
  obtain ⟨-, nnA, scA⟩ := hn.src senc1_pos
  obtain ⟨-, nnB, scB⟩ := hi.src senc1_pos
  have NNA := Lib.hid nnA
  have NNB := Lib.hid nnB
  have SCA := Lib.hid scA
  have SCB := Lib.hid scB
  clear hn hi nnA nnB scA scB
  obtain ⟨nn, hnn⟩ : ∃ n, n = names.length := ⟨_, rfl⟩
  rw [← hnn] at NNA hlen h1 ⊢
  obtain ⟨ni, hni⟩ : ∃ n, n = incl.length := ⟨_, rfl⟩
  rw [← hni] at NNB hleni h2 ⊢
  have HNN := Lib.hid hnn
  have HNI := Lib.hid hni
  clear hnn hni
  obtain ⟨w1, hw1⟩ : ∃ w1, w1 = w.alloc (.cells #[.int .i64 how, .slice an nn cn, .int .i64 card, .slice ai ni ci] 26) := ⟨_, rfl⟩
  obtain ⟨mb, hmb⟩ : ∃ b, b = w.heap.size := ⟨_, rfl⟩
  have q1 : w1.cell? ⟨mb, 1, none⟩ = some (.slice an nn cn) := by rw [hw1, hmb]; simp
  have q3 : w1.cell? ⟨mb, 3, none⟩ = some (.slice ai ni ci) := by rw [hw1, hmb]; simp
  have HB1 := Lib.hid (show Below w.heap.size w w1 by rw [hw1]; exact (Below.refl _ _).alloc (Nat.le_refl _) _)
  have HW1 := Lib.hid hw1
  have HMB := Lib.hid hmb
  have hz1 : mb < w1.heap.size := World.block_lt_of_cell? w1 _ q1
  clear hw1 hmb
  go_enter Tryz.func8, Tryz.ntmps8
  go_wp2_with fail
  rw [← HW1.out, ← HMB.out]
  have hbA : Below w1.heap.size w1 w1 := Below.refl _ _
  have hsA := hbA.size
  go_region_held3 (fun w' => Below w1.heap.size w1 w' ∧ w'.cell? ⟨mb, 1, none⟩ = some (.slice an nn cn) ∧ w'.cell? ⟨mb, 3, none⟩ = some (.slice ai ni ci))
    (first | exact S_keepP q1 q3 (by go_grown) | exact ⟨by go_grown, cell_below (B := w1.heap.size) (by go_grown) (Nat.le_refl _) q1, cell_below (B := w1.heap.size) (by go_grown) (Nat.le_refl _) q3⟩)
    (first
      | (refine step_append_rd rfl (.tmp 5) (.tmp 8) _ rfl w1.heap.size 9 j0 _ 1 16 Tryz.underlying22 ji jz0 jz1 jz2 rfl (by decide) (.slice (some ⟨_, 0, none⟩) 0 0) 0 [] rfl
           ?_ an nn cn (names.flatMap senc1) rfl NNA.out (by rw [flat_length senc1_len, HNN.out]) ?_ ?_ ?_ ?_ ?_ ?_
         (refine owns_lit ?_ ?_; exact heap_new _ _; (simp <;> omega))
         (exact fun ad e j u hu => cell_below (B := w1.heap.size) (by go_grown) (Nat.le_refl _) (cell_below HB1.out (Nat.le_refl _) (SCA.out ad e j u hu)))
         (exact senc1_one _)
         (unfold maxLen; omega)
         (omega)
         (simp <;> omega)
         intro v1 wA hown1 hg1
         have hbA : Below w1.heap.size w1 wA := Below.grown (by go_grown) hg1 (by simp <;> omega) (fun j hj => by simp [Value.ownBlock] at hj; omega)
         have hsA := hbA.size)
      | (refine step_append_rd rfl (.tmp 9) (.tmp 11) _ rfl w1.heap.size 9 j0 _ 1 16 Tryz.underlying22 ji jz0 jz1 jz2 rfl (by decide) v1 nn (names.flatMap senc1) rfl
           ?_ ai ni ci (incl.flatMap senc1) rfl NNB.out (by rw [flat_length senc1_len, HNI.out]) ?_ ?_ ?_ ?_ ?_ ?_
         (first | exact (by simpa using hown1) | exact World.ownsRow.alloc (by simpa using hown1) _)
         (exact fun ad e j u hu => cell_below (B := w1.heap.size) (by go_grown) (Nat.le_refl _) (cell_below HB1.out (Nat.le_refl _) (SCB.out ad e j u hu)))
         (exact senc1_one _)
         (unfold maxLen; omega)
         (omega)
         (first | exact hsA | (simp; omega))
         intro v2 wB hown2 hg2
         have hbB : Below w1.heap.size w1 wB := Below.grown (by go_grown) hg2 (by first | exact hsA | (simp; omega)) (fun j hj => (hown1.lt j hj).1)
         have hsB := hbB.size))
  have hsl : Sl senc1 wB v2 (names ++ incl) := Sl.own senc1_len (by decide) (e := 9) (n := nn + ni) (base := w1.heap.size) (by rw [List.flatMap_append]; exact hown2)
  obtain ⟨a9, c9, rfl, hl9, hc⟩ := hsl.strings
  have hc2 : ∀ k, k < (names ++ incl).length → ∃ b off, a9 = some ⟨b, off, none⟩ ∧ wB.cell? ⟨b, off + k, none⟩ = some (.string (nx (names ++ incl) k)) := fun k hk => by
    obtain ⟨b, off, e, hd⟩ := hc k hk
    exact ⟨b, off, e, by rw [hd k hk, nx_at hk]⟩
  have HC := Lib.hid hc2
  have HB2 := Lib.hid (HB1.out.trans (hbB.mono HB1.out.size))
  obtain ⟨n, hn9⟩ : ∃ n, n = (names ++ incl).length := ⟨_, rfl⟩
  have hn80 : n ≤ 80 := by rw [hn9, List.length_append, ← HNN.out, ← HNI.out]; omega
  rw [← hn9] at hl9 ⊢
  have HN9 := Lib.hid hn9
  clear hc hc2 hsl hown1 hown2 hg1 hg2 hbA hbB hsA hsB hn9 q1 q3
  go_wp2_with fail
  go_loopw [4] (fun i wr => ∃ k : Nat, k ≤ n ∧ i = .int .i64 k ∧ Hid (∀ j, j < k → (nx (names ++ incl) j).size ≤ 300) ∧ wr = wB) (fun i _ => n - (intOf i).toNat)
  case atStart => exact ⟨0, Nat.zero_le _, rfl, (fun j h => absurd h (Nat.not_lt_zero _)), rfl⟩
  case round =>
    obtain ⟨k, hk, rfl, HJ, rfl⟩ := hrel
    have h00 : (0 : Int) ≤ (k : Int) := by omega
    by_cases hlt : k < n
    · have hltz : (k : Int) < (n : Int) := by omega
      obtain ⟨b, off, rfl, q0⟩ := HC.out k (by have := HN9.out; omega)
      obtain ⟨x, hx⟩ : ∃ x, x = nx (names ++ incl) k := ⟨_, rfl⟩
      rw [← hx] at q0
      have HX := Lib.hid hx
      clear hx
      by_cases hs : 300 < x.size
      · have hsz : (300 : Int) < (x.size : Int) := by omega
        go_wp2_with fail
        go_ret
        exact ⟨false, rfl, (fun e => by cases e), HB2.out⟩
      · have hsz : ¬ (300 : Int) < (x.size : Int) := by omega
        have hs2 : x.size ≤ 300 := by omega
        go_wp2_with fail
        go_roundw
        case rel => exact ⟨k + 1, by omega, by go_num, (fun j hj => by
            by_cases e : j = k
            · subst e; rw [← HX.out]; exact hs2
            · exact HJ.out j (by omega)), by trivial⟩
        case measure => simp [intOf]; omega
    · have hltz : ¬ (k : Int) < (n : Int) := by omega
      have h80 : (n : Int) ≤ 80 := by omega
      have HAL := Lib.hid (show ∀ s ∈ names ++ incl, s.size ≤ 300 from fun s hs => by
        obtain ⟨j, hj, rfl⟩ := List.mem_iff_getElem.1 hs
        have := HJ.out j (by have := HN9.out; omega)
        rwa [nx_at hj] at this)
      go_wp2_with fail
      go_ret
      exact ⟨true, by first | rfl | (simp; omega), (fun _ => ⟨fun s hs => HAL.out s (by simp [hs]), fun s hs => HAL.out s (by simp [hs])⟩), HB2.out⟩
end Go.Proofs.YtogjcaakfnfapaaGreatDoor
