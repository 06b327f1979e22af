/- Unquote: the code's walk. -/
import Derived.Test.YtdpigfcnphklgaaDoorLu2
import Derived.WalkSpells
namespace Go.Proofs.YtdpigfcnphklgaaDoor
open Go Go.RowKit
set_option linter.unusedVariables false
set_option linter.unusedSimpArgs false
set_option maxRecDepth 100000
theorem one_u8 (c : Int) : ∀ u ∈ [Value.int .u8 c], u.oneCell' = true := by
  intro u hu
  simp at hu
  subst hu; rfl
def UqR (s : List UInt8) (e : Ending) : Prop := e = .returned (.tuple #[.string ⟨(uqS s).1.toArray⟩, .int .i64 (uqS s).2.1, .int .i64 (uqS s).2.2])
theorem uqR_bad {s : List UInt8} (h : uqS s = ([], 0, 2)) : UqR s (.returned (.tuple #[.string ⟨#[]⟩, .int .i64 0, .int .i64 2])) := by unfold UqR; rw [h]
theorem uqR_ok {s out : List UInt8} {n : Int} (h : uqS s = (out, n, 0)) : UqR s (.returned (.tuple #[.string ⟨out.toArray⟩, .int .i64 n, .int .i64 0])) := by unfold UqR; rw [h]
theorem drop_cons (s : ByteArray) (k : Nat) (h : k < s.size) : s.data.toList.drop k = s[k] :: s.data.toList.drop (k + 1) := by
  rw [List.drop_eq_getElem_cons (by simpa using h)]; rfl
theorem byteCells_snoc' (l : List UInt8) (c : UInt8) : Lib.byteCells (l ++ [c]) = Lib.byteCells l ++ [.int .u8 (c.toNat : Int)] := by rw [Lib.byteCells_append]; rfl
theorem uqS_cons (c : UInt8) (t : List UInt8) : uqS (c :: t) = if c = 34 then uqB (c :: t) ((c :: t).length + 1) 1 [] else ([], 0, 2) := rfl
theorem uqS_start (s : ByteArray) (h : 0 < s.size) (h2 : s[0] = 34) : uqS s.data.toList = uqB s.data.toList (s.size + 1) 1 [] := by
  have e := drop_cons s 0 h
  rw [List.drop_zero] at e
  have hl : s.data.toList.length = s.size := by simp
  rw [e, uqS_cons, if_pos h2, ← e, hl]
theorem uqS_no (s : ByteArray) (h : s.size = 0 ∨ ∃ h0 : 0 < s.size, s[0] ≠ 34) : uqS s.data.toList = ([], 0, 2) := by
  rcases h with h | ⟨h0, h⟩
  · have : s.data.toList = [] := List.length_eq_zero_iff.1 (by simpa using h)
    rw [this]; rfl
  · have e := drop_cons s 0 h0
    rw [List.drop_zero] at e
    rw [e, uqS_cons, if_neg h]
set_option maxHeartbeats 8000000 in
theorem unquote_any (s : ByteArray) (w : World) (hs : s.size ≤ 1000000) :
    Calls Tryd.prog 21 #[.string s] w fun e w' => UqR s.data.toList e ∧ Below w.heap.size w w' := by
  obtain ⟨i0, hi, hz0, hz1, hz2⟩ := info_parts Tryd.infoU8'
  have hl : s.data.toList.length = s.size := by simp
  by_cases h0 : s.size = 0
  · have h1 : s.toList = [] := empty_of h0
    have h2 : s.toList.isEmpty = true := by rw [h1]; rfl
    have HU := Lib.hid (uqR_bad (uqS_no s (.inl h0)))
    clear hl
    go_enter Tryd.func21, Tryd.ntmps21
    go_wp2_with fail
    go_step3
    go_wp2_with fail
    try rw [Exit.noGoto_ret]
    go_ret3
    exact ⟨HU.out, Below.refl _ _⟩
  · have hp : 0 < s.size := by omega
    have h1 : ¬ s.toList = [] := not_empty_of hp
    have h2 : s.toList.isEmpty = false := by simpa using h1
    have hpz : (0 : Int) < (s.size : Int) := by omega
    by_cases hq : s[0] = 34
    · have hqb : ((s[0].toNat : Int) == 34) = true := by rw [hq]; rfl
      have hqn : ((s[0].toNat : Int) != 34) = false := by rw [hq]; rfl
      have HST := Lib.hid (uqS_start s hp hq)
      clear hl hq
      go_enter Tryd.func21, Tryd.ntmps21
      go_wp2_with fail
      go_step3
      go_wp2_with fail
      go_step3
      go_wp2_with fail
      go_loopw [5, 6] (fun v i wr => ∃ (k f : Nat) (out : List UInt8), 1 ≤ k ∧ k ≤ s.size ∧ i = .int .i64 k ∧ s.size - k < f ∧ out.length ≤ k ∧ wr.ownsRow w.heap.size 5 1 v out.length (Lib.byteCells out) ∧ Hid (uqS s.data.toList = uqB s.data.toList f k out) ∧ Hid (Below w.heap.size w wr)) (fun _ i _ => s.size - (intOf i).toNat)
      case atStart => exact ⟨1, s.size + 1, [], Nat.le_refl _, hp, rfl, by omega, Nat.zero_le _, World.ownsRow_nil _ _ _ _, HST.out, Below.refl _ _⟩
      case round =>
        obtain ⟨k, f, out, hk1, hk, rfl, hf, hol, hown, HU, HB⟩ := hrel
        obtain ⟨f, rfl⟩ : ∃ m, f = m + 1 := ⟨f - 1, by omega⟩
        have hBz := HB.out.size
        have h00 : (0 : Int) ≤ (k : Int) := by omega
        by_cases hlt : k < s.size
        · have hltz : (k : Int) < (s.size : Int) := by omega
          obtain ⟨c, hc⟩ : ∃ c, c = s[k] := ⟨_, rfl⟩
          have HD := Lib.hid (show s.data.toList.drop k = c :: s.data.toList.drop (k + 1) by rw [hc]; exact drop_cons s k hlt)
          obtain ⟨ci, hci⟩ : ∃ ci : Int, (s[k].toNat : Int) = ci := ⟨_, rfl⟩
          have HCI := Lib.hid (show ci = (c.toNat : Int) by rw [hc, ← hci])
          clear hc
          have hc0 : 0 ≤ ci := by omega
          have hc1 : ci ≤ 255 := by have := s[k].toNat_lt; omega
          have HO := Lib.hid hown
          by_cases h34 : ci = 34
          · have h34a : (ci == 34) = true := by simpa using h34
            have hc34 : c = 34 := UInt8.toNat_inj.1 (by show c.toNat = 34; have := HCI.out; omega)
            have HF := Lib.hid (show uqS s.data.toList = (out, (k : Int) + 1, 0) by rw [HU.out, uqB, HD.out]; simp only [hc34, if_true])
            have RC := conv_own (l := out) hown
            have hnle : ¬ (s.size : Int) ≤ (k : Int) := by omega
            clear hown h34 hc34
            go_wp2_with fail
            try rw [Exit.noGoto_ret]
            go_ret3
            exact ⟨uqR_ok HF.out, HB.out⟩
          · have h34a : (ci == 34) = false := by simpa using h34
            have hc34 : ¬ c = 34 := fun e => h34 (by rw [HCI.out, e]; rfl)
            by_cases hpl : plainI ci = true
            · by_cases h92 : ci = 92
              · have h92a : (ci == 92) = true := by simpa using h92
                have hc92 : c = 92 := UInt8.toNat_inj.1 (by show c.toNat = 92; have := HCI.out; omega)
                have hc92n : ¬ c ≠ 92 := fun h => h hc92
                have hsz : (s.extract k s.size).data.toList = c :: s.data.toList.drop (k + 1) := by rw [Lib.extract_to_end]; exact HD.out
                have HES := Lib.hid (fun w => escaped_any (s.extract k s.size) w)
                have HUX := Lib.hid (show uqS s.data.toList = match escB (c :: s.data.toList.drop (k + 1)) with | none => ([], 0, 2) | some (x, n) => uqB s.data.toList f (k + n) (out ++ [x]) by
                  rw [HU.out, uqB, HD.out]
                  simp only [hc34, if_false]
                  rw [← HCI.out, if_neg (by rw [hpl]; decide), if_neg hc92n]
                  generalize escB (c :: s.data.toList.drop (k + 1)) = o
                  cases o <;> rfl)
                have HSZ := Lib.hid hsz
                have hlen : (c :: s.data.toList.drop (k + 1)).length = s.size - k := by rw [← HD.out, List.length_drop]; simp
                have HLEN := Lib.hid hlen
                clear h34 hc34 h92 hc92 hc92n hsz hlen
                go_wp2_with fail
                refine (plain_any _ _).mono ?_
                rintro e w1 ⟨rfl, rfl⟩
                rw [hpl]
                clear hpl
                go_wp2_with fail
                refine (HES.out _).mono ?_
                rintro e w2 ⟨hes, n2, rfl⟩
                unfold EscR at hes
                rw [HSZ.out] at hes
                have HUY := HUX.out
                cases hesc : escB (c :: s.data.toList.drop (k + 1)) with
                | none =>
                  rw [hesc] at hes HUY
                  simp only at hes HUY
                  subst hes
                  have HF := Lib.hid HUY
                  clear hesc HUY
                  go_wp2_with fail
                  try rw [Exit.noGoto_ret]
                  go_ret3
                  exact ⟨uqR_bad HF.out, below_drewN HB.out _⟩
                | some p =>
                  obtain ⟨x, m⟩ := p
                  have hn := escB_n hesc
                  rw [HLEN.out] at hn
                  rw [hesc] at hes HUY
                  simp only at hes HUY
                  subst hes
                  have HF := Lib.hid HUY
                  obtain ⟨hn1, hn2⟩ := hn
                  have hm0 : ¬ (m : Int) = 0 := by omega
                  have hm1 : ((m : Int) == 0) = false := by simpa using hm0
                  have hm2 : (0 : Int) ≤ (m : Int) := by omega
                  have hown2 : (w1.drewN n2).ownsRow w.heap.size 5 1 u5 out.length (Lib.byteCells out) := hown
                  have HB2 := Lib.hid (below_drewN HB.out n2)
                  have hBz2 := HB2.out.size
                  generalize w1.drewN n2 = w3 at hown2 HB2 hBz2 ⊢
                  clear hesc HUY hown HO hBz
                  have HO2 := Lib.hid hown2
                  go_wp2_with (at_builtin; refine wpList_append_own _ rfl _ _ 80 rfl w.heap.size 5 i0 (.int .u8 0) 1 1 Tryd.underlying80 hi hz0 hz1 hz2 rfl (by decide) _ _ _ rfl (hown2.alloc _) ⟨w3.heap.size, 0, none⟩ 1 1 [.int .u8 x.toNat] rfl rfl (World.news_of_block (heap_new _ _)) (one_u8 _) (by unfold maxLen; omega) (by omega) (by simp; omega) ?_)
                  intro v' w4 hown' hgrow _
                  have HG := Lib.hid ((HB2.out.alloc hBz2 (.cells #[.int .u8 x.toNat] 5)).grown hgrow (by simp; omega) (fun j hj => (HO2.out.lt j hj).1))
                  have HO' := Lib.hid hown'
                  clear hown2 hgrow hown'
                  go_wp2_with fail
                  go_roundw
                  case rel =>
                    refine ⟨k + m, f, out ++ [x], by omega, by omega, by go_num, by omega, by simp; omega, ?_, HF.out, HG.out⟩
                    rw [byteCells_snoc', List.length_append]
                    exact HO'.out
                  case measure => simp [intOf]; omega
              · have h92a : (ci == 92) = false := by simpa using h92
                have hc92 : c ≠ 92 := fun e => h92 (by rw [HCI.out, e]; rfl)
                have HF := Lib.hid (show uqS s.data.toList = uqB s.data.toList f (k + 1) (out ++ [c]) by
                  rw [HU.out, uqB, HD.out]
                  simp only [hc34, if_false]
                  rw [← HCI.out, if_neg (by rw [hpl]; decide), if_pos hc92])
                clear h34 hc34 h92 hc92
                go_wp2_with fail
                refine (plain_any _ _).mono ?_
                rintro e w1 ⟨rfl, rfl⟩
                rw [hpl]
                clear hpl
                go_wp2_with (at_builtin; refine wpList_append_own _ rfl _ _ 80 rfl w.heap.size 5 i0 (.int .u8 0) 1 1 Tryd.underlying80 hi hz0 hz1 hz2 rfl (by decide) _ _ _ rfl (hown.alloc _) ⟨w1.heap.size, 0, none⟩ 1 1 [.int .u8 ci] rfl rfl (World.news_of_block (heap_new _ _)) (one_u8 ci) (by unfold maxLen; omega) (by omega) (by simp; omega) ?_)
                intro v' w2 hown' hgrow _
                have HG := Lib.hid ((HB.out.alloc hBz (.cells #[.int .u8 ci] 5)).grown hgrow (by simp; omega) (fun j hj => (HO.out.lt j hj).1))
                have HO' := Lib.hid hown'
                clear hown hgrow hown'
                go_wp2_with fail
                go_roundw
                case rel =>
                  refine ⟨k + 1, f, out ++ [c], by omega, by omega, by go_num, by omega, by simp; omega, ?_, HF.out, HG.out⟩
                  rw [byteCells_snoc', ← HCI.out, List.length_append]
                  exact HO'.out
                case measure => simp [intOf]; omega
            · have hpl2 : plainI ci = false := by simpa using hpl
              have HF := Lib.hid (show uqS s.data.toList = ([], 0, 2) by
                rw [HU.out, uqB, HD.out]
                simp only [hc34, if_false]
                rw [← HCI.out, if_pos hpl2])
              clear hown h34 hc34 hpl
              go_wp2_with fail
              refine (plain_any _ _).mono ?_
              rintro e w1 ⟨rfl, rfl⟩
              rw [hpl2]
              go_wp2_with fail
              try rw [Exit.noGoto_ret]
              go_ret3
              exact ⟨uqR_bad HF.out, HB.out⟩
        · have hltz : ¬ (k : Int) < (s.size : Int) := by omega
          have hle : (s.size : Int) ≤ (k : Int) := by omega
          have HF := Lib.hid (show uqS s.data.toList = ([], 0, 2) by rw [HU.out, uqB, List.drop_of_length_le (by simp; omega)])
          clear hown
          go_wp2_with fail
          try rw [Exit.noGoto_ret]
          go_ret3
          exact ⟨uqR_bad HF.out, HB.out⟩
    · have hqb : ((s[0].toNat : Int) == 34) = false := by
        have : s[0].toNat ≠ 34 := fun e => hq (UInt8.toNat_inj.1 e)
        simp; omega
      have HU := Lib.hid (uqR_bad (uqS_no s (.inr ⟨hp, hq⟩)))
      clear hl hq
      go_enter Tryd.func21, Tryd.ntmps21
      go_wp2_with fail
      go_step3
      go_wp2_with fail
      try rw [Exit.noGoto_ret]
      go_ret3
      exact ⟨HU.out, Below.refl _ _⟩
end Go.Proofs.YtdpigfcnphklgaaDoor
