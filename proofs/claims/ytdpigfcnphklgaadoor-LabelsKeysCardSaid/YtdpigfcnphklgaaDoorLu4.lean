/- Unquote: the document's walk. -/
import Derived.Test.YtdpigfcnphklgaaDoorLu3
namespace Go.Proofs.YtdpigfcnphklgaaDoor
open Go Go.RowKit
set_option linter.unusedVariables false
set_option linter.unusedSimpArgs false
set_option maxRecDepth 100000
set_option maxHeartbeats 8000000 in
theorem runquote_any (s : ByteArray) (w : World) (hs : s.size ≤ 1000000) :
    Calls Tryd.prog 22 #[.string s] w fun e w' => UqR s.data.toList e ∧ Below w.heap.size w w' := by
  obtain ⟨i0, hi, hz0, hz1, hz2⟩ := info_parts Tryd.infoU8'
  have hl : s.data.toList.length = s.size := by simp
  by_cases h0 : s.size = 0
  · have h1 : s.toList = [] := empty_of h0
    have h2 : s.toList.isEmpty = true := by rw [h1]; rfl
    have HU := Lib.hid (uqR_bad (uqS_no s (.inl h0)))
    clear hl
    go_enter Tryd.func22, Tryd.ntmps22
    go_wp2_with fail
    go_ret3
    exact ⟨HU.out, Below.refl _ _⟩
  · have hp : 0 < s.size := by omega
    have h1 : ¬ s.toList = [] := not_empty_of hp
    have h2 : s.toList.isEmpty = false := by simpa using h1
    have hpz : (0 : Int) < (s.size : Int) := by omega
    by_cases hq : s[0] = 34
    · have hqb : ((s[0].toNat : Int) == 34) = true := by rw [hq]; rfl
      have hqn : ((s[0].toNat : Int) != 34) = false := by rw [hq]; rfl
      have HST := Lib.hid (uqS_start s hp hq)
      clear hl hq
      go_enter Tryd.func22, Tryd.ntmps22
      go_wp2_with fail
      go_loopw [5, 6] (fun v i wr => ∃ (k f : Nat) (out : List UInt8), 1 ≤ k ∧ k ≤ s.size ∧ i = .int .i64 k ∧ s.size - k < f ∧ out.length ≤ k ∧ wr.ownsRow w.heap.size 5 1 v out.length (Lib.byteCells out) ∧ Hid (uqS s.data.toList = uqB s.data.toList f k out) ∧ Hid (Below w.heap.size w wr)) (fun _ i _ => s.size - (intOf i).toNat)
      case atStart => exact ⟨1, s.size + 1, [], Nat.le_refl _, hp, rfl, by omega, Nat.zero_le _, World.ownsRow_nil _ _ _ _, HST.out, Below.refl _ _⟩
      case round =>
        obtain ⟨k, f, out, hk1, hk, rfl, hf, hol, hown, HU, HB⟩ := hrel
        obtain ⟨f, rfl⟩ : ∃ m, f = m + 1 := ⟨f - 1, by omega⟩
        have hBz := HB.out.size
        have h00 : (0 : Int) ≤ (k : Int) := by omega
        by_cases hlt : k < s.size
        · have hltz : (k : Int) < (s.size : Int) := by omega
          obtain ⟨c, hc⟩ : ∃ c, c = s[k] := ⟨_, rfl⟩
          have HD := Lib.hid (show s.data.toList.drop k = c :: s.data.toList.drop (k + 1) by rw [hc]; exact drop_cons s k hlt)
          obtain ⟨ci, hci⟩ : ∃ ci : Int, (s[k].toNat : Int) = ci := ⟨_, rfl⟩
          have HCI := Lib.hid (show ci = (c.toNat : Int) by rw [hc, ← hci])
          clear hc
          have hc0 : 0 ≤ ci := by omega
          have hc1 : ci ≤ 255 := by have := s[k].toNat_lt; omega
          have HO := Lib.hid hown
          by_cases h34 : ci = 34
          · have h34a : (ci == 34) = true := by simpa using h34
            have hc34 : c = 34 := UInt8.toNat_inj.1 (by show c.toNat = 34; have := HCI.out; omega)
            have HF := Lib.hid (show uqS s.data.toList = (out, (k : Int) + 1, 0) by rw [HU.out, uqB, HD.out]; simp only [hc34, if_true])
            have RC := conv_own (l := out) hown
            have hnle : ¬ (s.size : Int) ≤ (k : Int) := by omega
            clear hown h34 hc34
            go_wp2_with fail
            go_ret3
            exact ⟨uqR_ok HF.out, HB.out⟩
          · have h34a : (ci == 34) = false := by simpa using h34
            have hc34 : ¬ c = 34 := fun e => h34 (by rw [HCI.out, e]; rfl)
            by_cases hpl : plainI ci = true
            · have hp1 : 32 ≤ ci ∧ ci < 127 := by simpa [plainI] using hpl
              have hp32 : 32 ≤ ci := hp1.1
              have hp127 : ci < 127 := hp1.2
              have hb32 : decide (ci < 32) = false := decide_eq_false (by omega)
              have hb127 : decide (127 ≤ ci) = false := decide_eq_false (by omega)
              by_cases h92 : ci = 92
              · have h92a : (ci == 92) = true := by simpa using h92
                have hc92 : c = 92 := UInt8.toNat_inj.1 (by show c.toNat = 92; have := HCI.out; omega)
                have hc92n : ¬ c ≠ 92 := fun h => h hc92
                have HUX := Lib.hid (show uqS s.data.toList = match escB (s.data.toList.drop k) with | none => ([], 0, 2) | some (x, n) => uqB s.data.toList f (k + n) (out ++ [x]) by
                  rw [HU.out, uqB, HD.out]
                  simp only [hc34, if_false]
                  rw [← HCI.out, if_neg (by rw [hpl]; decide), if_neg hc92n]
                  generalize escB (c :: s.data.toList.drop (k + 1)) = o
                  cases o <;> rfl)
                have hlen : (s.data.toList.drop k).length = s.size - k := by rw [List.length_drop]; simp
                have hgD : ∀ j, (h : k + j < s.size) → (s.data.toList.drop k).getD j 0 = s[k + j] := fun j h => by
                  rw [List.getD_eq_getElem?_getD, List.getElem?_drop, ← List.getD_eq_getElem?_getD]
                  exact getD_at s (k + j) h
                have HGD := Lib.hid hgD
                clear h34 hc34 h92 hc92 hc92n hpl hp1 hgD
                have ht1 : ((k : Int) + 1).toNat = k + 1 := by omega
                have hn1 : (0 : Int) ≤ (k : Int) + 1 := by omega
                by_cases hl2 : k + 1 < s.size
                · have hl2z : (k : Int) + 1 < (s.size : Int) := by omega
                  have hl2b : decide ((k : Int) + 1 < (s.size : Int)) = true := decide_eq_true hl2z
                  obtain ⟨d, hd⟩ : ∃ d : Int, (s[k + 1].toNat : Int) = d := ⟨_, rfl⟩
                  have hd0 : 0 ≤ d := by omega
                  have hd1 : d ≤ 255 := by have := s[k + 1].toNat_lt; omega
                  have g1 := HGD.out 1 hl2
                  by_cases hdq : d = 34 ∨ d = 92
                  · have HF := Lib.hid (show uqS s.data.toList = uqB s.data.toList f (k + 2) (out ++ [s[k + 1]]) by
                      have he : escB (s.data.toList.drop k) = some (s[k + 1], 2) := by
                        rw [escB, if_neg (by omega), g1, if_pos (by rcases hdq with h | h; exact .inl (UInt8.toNat_inj.1 (by show s[k + 1].toNat = 34; omega)); exact .inr (UInt8.toNat_inj.1 (by show s[k + 1].toNat = 92; omega)))]
                      have := HUX.out
                      rw [he] at this
                      exact this)
                    have HDD := Lib.hid (show Lib.byteCells (out ++ [s[k + 1]]) = Lib.byteCells out ++ [.int .u8 d] by rw [byteCells_snoc', hd])
                    by_cases hdc : d = 34
                    case' pos => have hda : (d == 34) = true := by simpa using hdc
                    case' neg =>
                      have hda : (d == 34) = false := by simpa using hdc
                      have hdb : (d == 92) = true := by simp; omega
                    all_goals
                      clear hdq hdc hlen g1
                      go_wp2_with (at_builtin; refine wpList_append_own _ rfl _ _ 80 rfl w.heap.size 5 i0 (.int .u8 0) 1 1 Tryd.underlying80 hi hz0 hz1 hz2 rfl (by decide) _ _ _ rfl (hown.alloc _) ⟨wr.heap.size, 0, none⟩ 1 1 [.int .u8 d] rfl rfl (World.news_of_block (heap_new _ _)) (one_u8 _) (by unfold maxLen; omega) (by omega) (by simp; omega) ?_)
                      intro v' w4 hown' hgrow _
                      have HG := Lib.hid ((HB.out.alloc hBz (.cells #[.int .u8 d] 5)).grown hgrow (by simp; omega) (fun j hj => (HO.out.lt j hj).1))
                      have HO' := Lib.hid hown'
                      clear hown hgrow hown'
                      go_wp2_with fail
                      go_roundw
                      case rel =>
                        refine ⟨k + 2, f, out ++ [s[k + 1]], by omega, by omega, by go_num, by omega, by simp; omega, ?_, HF.out, HG.out⟩
                        rw [HDD.out, List.length_append]
                        exact HO'.out
                      case measure => simp [intOf]; omega
                  · have hda : (d == 34) = false := by simp; omega
                    have hdb : (d == 92) = false := by simp; omega
                    have hne : ¬ (s[k + 1] = 34 ∨ s[k + 1] = 92) := by
                      rintro (h | h) <;> (rw [h] at hd; apply hdq)
                      · exact .inl hd.symm
                      · exact .inr hd.symm
                    by_cases hl4 : k + 3 < s.size
                    · have hl4z : ¬ (s.size : Int) ≤ (k : Int) + 3 := by omega
                      have hl4b : decide ((s.size : Int) ≤ (k : Int) + 3) = false := decide_eq_false hl4z
                      by_cases h120 : d = 120
                      · have h120a : (d == 120) = true := by simpa using h120
                        have h120n : (d != 120) = false := by rw [h120]; rfl
                        have hs1 : s[k + 1] = 120 := UInt8.toNat_inj.1 (by show s[k + 1].toNat = 120; omega)
                        have hl3 : k + 2 < s.size := by omega
                        have g2 := HGD.out 2 hl3
                        have g3 := HGD.out 3 hl4
                        obtain ⟨p, hp'⟩ : ∃ p : Int, (s[k + 2].toNat : Int) = p := ⟨_, rfl⟩
                        obtain ⟨q, hq'⟩ : ∃ q : Int, (s[k + 3].toNat : Int) = q := ⟨_, rfl⟩
                        have hp0 : 0 ≤ p := by omega
                        have hp1 : p ≤ 255 := by have := s[k + 2].toNat_lt; omega
                        have hq0 : 0 ≤ q := by omega
                        have hq1 : q ≤ 255 := by have := s[k + 3].toNat_lt; omega
                        have hpn : p.toNat = s[k + 2].toNat := by omega
                        have hqn : q.toNat = s[k + 3].toNat := by omega
                        have HX := Lib.hid (fun w => rdigit16_any p w hp0 hp1)
                        have HY := Lib.hid (fun w => rdigit16_any q w hq0 hq1)
                        have bx := hexV_bd p.toNat
                        have by' := hexV_bd q.toNat
                        have HES : Hid (escB (s.data.toList.drop k) = if hexV p.toNat < 0 ∨ hexV q.toNat < 0 ∨ plainI (16 * hexV p.toNat + hexV q.toNat) = true then none else some (UInt8.ofNat (16 * hexV p.toNat + hexV q.toNat).toNat, 4)) := by
                          show _ = _
                          rw [escB, if_neg (by omega), g1, if_neg hne, if_neg (by rw [hs1]; intro h; rcases h with h | h; omega; exact h rfl), g2, g3, ← hpn, ← hqn]
                        generalize hexV p.toNat = x at HX HES bx
                        generalize hexV q.toNat = y at HY HES by'
                        obtain ⟨bx1, bx2⟩ := bx
                        obtain ⟨by1, by2⟩ := by'
                        have ht2 : ((k : Int) + 2).toNat = k + 2 := by omega
                        have ht3 : ((k : Int) + 3).toNat = k + 3 := by omega
                        have hn2 : (0 : Int) ≤ (k : Int) + 2 := by omega
                        have hn3 : (0 : Int) ≤ (k : Int) + 3 := by omega
                        have hm2 : (k : Int) + 2 < (s.size : Int) := by omega
                        have hm3 : (k : Int) + 3 < (s.size : Int) := by omega
                        clear hlen g1 g2 g3 hdq hne h120 hs1 hpn hqn
                        by_cases hx : x < 0
                        · have hxb : decide (x < 0) = true := decide_eq_true hx
                          have HF := Lib.hid (show uqS s.data.toList = ([], 0, 2) by
                            have := HUX.out
                            rw [HES.out, if_pos (.inl hx)] at this
                            exact this)
                          clear hown
                          go_wp2_with fail
                          refine (HX.out _).mono ?_
                          rintro e w1 ⟨rfl, rfl⟩
                          go_wp2_with fail
                          go_ret3
                          exact ⟨uqR_bad HF.out, HB.out⟩
                        · have hxb : decide (x < 0) = false := decide_eq_false hx
                          by_cases hy : y < 0
                          · have hyb : decide (y < 0) = true := decide_eq_true hy
                            have HF := Lib.hid (show uqS s.data.toList = ([], 0, 2) by
                              have := HUX.out
                              rw [HES.out, if_pos (.inr (.inl hy))] at this
                              exact this)
                            clear hown
                            go_wp2_with fail
                            refine (HX.out _).mono ?_
                            rintro e w1 ⟨rfl, rfl⟩
                            go_wp2_with fail
                            refine (HY.out _).mono ?_
                            rintro e w1 ⟨rfl, rfl⟩
                            go_wp2_with fail
                            go_ret3
                            exact ⟨uqR_bad HF.out, HB.out⟩
                          · have hyb : decide (y < 0) = false := decide_eq_false hy
                            go_wp2_with fail
                            refine (HX.out _).mono ?_
                            rintro e w1 ⟨rfl, rfl⟩
                            go_wp2_with fail
                            refine (HY.out _).mono ?_
                            rintro e w2 ⟨rfl, rfl⟩
                            go_wp2_with fail
                            have hwr1 : IntKind.i64.wrap ((k : Int) + 2) = (k : Int) + 2 := by rw [IntKind.wrap_i64]; omega
                            have hwr2 : IntKind.i64.wrap ((k : Int) + 3) = (k : Int) + 3 := by rw [IntKind.wrap_i64]; omega
                            have hwr3 : IntKind.i64.wrap (16 * x) = 16 * x := by rw [IntKind.wrap_i64]; omega
                            have hwr4 : IntKind.i64.wrap (16 * x + y) = 16 * x + y := by rw [IntKind.wrap_i64]; omega
                            have hwr5 : IntKind.u8.wrap (16 * x + y) = 16 * x + y := by unfold IntKind.wrap; simp [IntKind.signed, IntKind.bits]; omega
                            go_quiet ((go_at_call 67; first | (with_reducible refine qs (HX.out _)) | (with_reducible refine quiet_same (HX.out _)) | (with_reducible refine qs (HY.out _)) | (with_reducible refine quiet_same (HY.out _))))
                            clear hwr1 hwr2 hwr3 hwr4 hwr5
                            have hown2 : (wr.drewN nq).ownsRow w.heap.size 5 1 u5 out.length (Lib.byteCells out) := hown
                            have HB2 := Lib.hid (below_drewN HB.out nq)
                            have hBz2 := HB2.out.size
                            generalize wr.drewN nq = w3 at hown2 HB2 hBz2 ⊢
                            clear hown HO hBz
                            have HO2 := Lib.hid hown2
                            obtain ⟨z, hzz⟩ : ∃ z : Int, z = 16 * x + y := ⟨_, rfl⟩
                            have hz0' : 0 ≤ z := by omega
                            have hz1' : z ≤ 255 := by omega
                            rw [← hzz]
                            rw [← hzz] at HES
                            have HZZ := Lib.hid hzz
                            clear hzz
                            by_cases hpl : plainI z = true
                            · have hpq : 32 ≤ z ∧ z < 127 := by simpa [plainI] using hpl
                              obtain ⟨hpq1, hpq2⟩ := hpq
                              have hpb : decide (32 ≤ z) = true := decide_eq_true hpq1
                              have hpc : decide (z < 127) = true := decide_eq_true hpq2
                              have HF := Lib.hid (show uqS s.data.toList = ([], 0, 2) by
                                have := HUX.out
                                rw [HES.out, if_pos (.inr (.inr hpl))] at this
                                exact this)
                              clear hpl hown2
                              go_wp2_with fail
                              go_ret3
                              exact ⟨uqR_bad HF.out, HB2.out⟩
                            · have HF := Lib.hid (show uqS s.data.toList = uqB s.data.toList f (k + 4) (out ++ [UInt8.ofNat z.toNat]) by
                                have := HUX.out
                                rw [HES.out, if_neg (by intro h; rcases h with h | h | h; omega; omega; exact hpl h)] at this
                                exact this)
                              have HDD := Lib.hid (show Lib.byteCells (out ++ [UInt8.ofNat z.toNat]) = Lib.byteCells out ++ [.int .u8 z] by
                                rw [byteCells_snoc', UInt8.toNat_ofNat', show ((z.toNat % 2 ^ 8 : Nat) : Int) = z by omega])
                              have hpq : ¬ (32 ≤ z ∧ z < 127) := by simpa [plainI] using hpl
                              clear hpl
                              by_cases h32 : 32 ≤ z
                              case' pos =>
                                have hpb : decide (32 ≤ z) = true := decide_eq_true h32
                                have hpd : ¬ z < 127 := by omega
                                have hpc : decide (z < 127) = false := decide_eq_false hpd
                              case' neg => have hpb : decide (32 ≤ z) = false := decide_eq_false h32
                              all_goals
                                clear hpq
                                go_wp2_with (at_builtin; refine wpList_append_own _ rfl _ _ 80 rfl w.heap.size 5 i0 (.int .u8 0) 1 1 Tryd.underlying80 hi hz0 hz1 hz2 rfl (by decide) _ _ _ rfl (hown2.alloc _) ⟨w3.heap.size, 0, none⟩ 1 1 [.int .u8 z] rfl rfl (World.news_of_block (heap_new _ _)) (one_u8 _) (by unfold maxLen; omega) (by omega) (by simp; omega) ?_)
                                intro v' w4 hown' hgrow _
                                have HG := Lib.hid ((HB2.out.alloc hBz2 (.cells #[.int .u8 z] 5)).grown hgrow (by simp; omega) (fun j hj => (HO2.out.lt j hj).1))
                                have HO' := Lib.hid hown'
                                clear hown2 hgrow hown'
                                go_wp2_with fail
                                go_roundw
                                case rel =>
                                  refine ⟨k + 4, f, out ++ [UInt8.ofNat z.toNat], by omega, by omega, by go_num, by omega, by simp; omega, ?_, HF.out, HG.out⟩
                                  rw [HDD.out, List.length_append]
                                  exact HO'.out
                                case measure => simp [intOf]; omega
                      · have h120a : (d == 120) = false := by simpa using h120
                        have h120n : (d != 120) = true := by simpa using h120
                        have HF := Lib.hid (show uqS s.data.toList = ([], 0, 2) by
                          have he : escB (s.data.toList.drop k) = none := by rw [escB, if_neg (by omega), g1, if_neg hne, if_pos (.inr (fun h => h120 (by rw [h] at hd; exact hd.symm)))]
                          have := HUX.out
                          rw [he] at this
                          exact this)
                        clear hown hdq hne h120 hlen g1
                        go_wp2_with fail
                        go_ret3
                        exact ⟨uqR_bad HF.out, HB.out⟩
                    · have hl4z : (s.size : Int) ≤ (k : Int) + 3 := by omega
                      have hl4b : decide ((s.size : Int) ≤ (k : Int) + 3) = true := decide_eq_true hl4z
                      have HF := Lib.hid (show uqS s.data.toList = ([], 0, 2) by
                        have he : escB (s.data.toList.drop k) = none := by rw [escB, if_neg (by omega), g1, if_neg hne, if_pos (.inl (by omega))]
                        have := HUX.out
                        rw [he] at this
                        exact this)
                      clear hown hdq hne hlen g1
                      go_wp2_with fail
                      go_ret3
                      exact ⟨uqR_bad HF.out, HB.out⟩
                · have hl2z : ¬ (k : Int) + 1 < (s.size : Int) := by omega
                  have hl2b : decide ((k : Int) + 1 < (s.size : Int)) = false := decide_eq_false hl2z
                  have hl4z : (s.size : Int) ≤ (k : Int) + 3 := by omega
                  have hl4b : decide ((s.size : Int) ≤ (k : Int) + 3) = true := decide_eq_true hl4z
                  have HF := Lib.hid (show uqS s.data.toList = ([], 0, 2) by
                    have he : escB (s.data.toList.drop k) = none := by rw [escB, if_pos (by omega)]
                    have := HUX.out
                    rw [he] at this
                    exact this)
                  clear hown hlen
                  go_wp2_with fail
                  go_ret3
                  exact ⟨uqR_bad HF.out, HB.out⟩
              · have h92a : (ci == 92) = false := by simpa using h92
                have hc92 : c ≠ 92 := fun e => h92 (by rw [HCI.out, e]; rfl)
                have HF := Lib.hid (show uqS s.data.toList = uqB s.data.toList f (k + 1) (out ++ [c]) by
                  rw [HU.out, uqB, HD.out]
                  simp only [hc34, if_false]
                  rw [← HCI.out, if_neg (by rw [hpl]; decide), if_pos hc92])
                clear h34 hc34 h92 hc92
                clear hpl hp1
                obtain ⟨w1, rfl⟩ : ∃ w1 : World, w1 = wr := ⟨_, rfl⟩
                go_wp2_with (at_builtin; refine wpList_append_own _ rfl _ _ 80 rfl w.heap.size 5 i0 (.int .u8 0) 1 1 Tryd.underlying80 hi hz0 hz1 hz2 rfl (by decide) _ _ _ rfl (hown.alloc _) ⟨w1.heap.size, 0, none⟩ 1 1 [.int .u8 ci] rfl rfl (World.news_of_block (heap_new _ _)) (one_u8 ci) (by unfold maxLen; omega) (by omega) (by simp; omega) ?_)
                intro v' w2 hown' hgrow _
                have HG := Lib.hid ((HB.out.alloc hBz (.cells #[.int .u8 ci] 5)).grown hgrow (by simp; omega) (fun j hj => (HO.out.lt j hj).1))
                have HO' := Lib.hid hown'
                clear hown hgrow hown'
                go_wp2_with fail
                go_roundw
                case rel =>
                  refine ⟨k + 1, f, out ++ [c], by omega, by omega, by go_num, by omega, by simp; omega, ?_, HF.out, HG.out⟩
                  rw [byteCells_snoc', ← HCI.out, List.length_append]
                  exact HO'.out
                case measure => simp [intOf]; omega
            · have hpl2 : plainI ci = false := by simpa using hpl
              have HF := Lib.hid (show uqS s.data.toList = ([], 0, 2) by
                rw [HU.out, uqB, HD.out]
                simp only [hc34, if_false]
                rw [← HCI.out, if_pos hpl2])
              have hp1 : ¬ (32 ≤ ci ∧ ci < 127) := by simpa [plainI] using hpl
              clear hown h34 hc34 hpl
              by_cases h32 : ci < 32
              case' pos => have hb32 : decide (ci < 32) = true := decide_eq_true h32
              case' neg =>
                have hb32 : decide (ci < 32) = false := decide_eq_false h32
                have h127 : 127 ≤ ci := by omega
                have hb127 : decide (127 ≤ ci) = true := decide_eq_true h127
              all_goals
                clear hp1 hpl2
                go_wp2_with fail
                go_ret3
                exact ⟨uqR_bad HF.out, HB.out⟩
        · have hltz : ¬ (k : Int) < (s.size : Int) := by omega
          have hle : (s.size : Int) ≤ (k : Int) := by omega
          have HF := Lib.hid (show uqS s.data.toList = ([], 0, 2) by rw [HU.out, uqB, List.drop_of_length_le (by simp; omega)])
          clear hown
          go_wp2_with fail
          go_ret3
          exact ⟨uqR_bad HF.out, HB.out⟩
    · have hqb : ((s[0].toNat : Int) == 34) = false := by
        have : s[0].toNat ≠ 34 := fun e => hq (UInt8.toNat_inj.1 e)
        simp; omega
      have HU := Lib.hid (uqR_bad (uqS_no s (.inr ⟨hp, hq⟩)))
      clear hl hq
      go_enter Tryd.func22, Tryd.ntmps22
      go_wp2_with fail
      go_ret3
      exact ⟨HU.out, Below.refl _ _⟩
end Go.Proofs.YtdpigfcnphklgaaDoor
