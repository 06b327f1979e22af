/- labels.Set. -/
import Derived.Test.YtdpigfcnphklgaaDoorLa11
namespace Go.Proofs.YtdpigfcnphklgaaDoor
open Go.RowKit
set_option linter.unusedVariables false
set_option linter.unusedSimpArgs false
set_option maxRecDepth 100000
theorem name_qs (s : ByteArray) (w : World) : Calls Tryd.prog 18 #[.string s] w fun e w' => e = .returned (.bool (nameB s)) ∧ w = w' := (name_any s w).mono fun _ _ h => ⟨h.1, h.2.symm⟩
def okFrom : Option ByteArray → List Lb → Bool
  | _, [] => true
  | p, x :: r => nameB x.1 && decide (x.2.size ≤ 256) && !(decide (p = some x.1)) && okFrom (some x.1) r
def keepL (l : List Lb) : List Lb := l.filter fun x => decide (0 < x.2.size)
def setOk (l : List Lb) : Bool := okFrom none l && decide ((keepL l).length ≤ 32)
def prevO (cs : List Lb) : Nat → Option ByteArray
  | 0 => none
  | k + 1 => some (lx cs k).1
theorem keep_snoc (l : List Lb) (k : Nat) (h : k < l.length) : keepL (l.take (k + 1)) = keepL (l.take k) ++ if 0 < (lx l k).2.size then [lx l k] else [] := by
  unfold keepL
  rw [lx_at h, List.take_succ_eq_append_getElem h, List.filter_append]
  congr 1
  by_cases h : 0 < l[k].2.size <;> simp [h]
theorem keep_take_len (l : List Lb) (k : Nat) : (keepL (l.take k)).length ≤ l.length := Nat.le_trans (List.length_filter_le _ _) (by simp; omega)
set_option maxHeartbeats 4000000 in
theorem set_any (v : Value) (l : List Lb) (w : World) (h : Sl lenc w v l) (hl : l.length ≤ 100000) :
    Calls Tryd.prog 13 #[v] w fun e w' => ∃ l' : List Lb, l'.Perm l ∧ l'.Pairwise (fun x y => cmpN x y ≤ 0) ∧ Below w.heap.size w w' ∧
      ((setOk l' = true ∧ ∃ v', e = .returned (.tuple #[v', .int .i64 0]) ∧ Sl lenc w' v' (keepL l')) ∨ (setOk l' = false ∧ e = .returned (.tuple #[.slice none 0 0, .int .i64 1]))) := by
  have hcl := clone_any v l w h (by omega)
  obtain ⟨a, cap, rfl, hlen, hnone, -⟩ := h.split lenc_len
  have HCL := Lib.hid hcl
  clear hcl h
  obtain ⟨i0, hi, hz0, hz1, hz2⟩ := info_parts Tryd.infoLb
  by_cases hne : l = []
  · subst hne
    clear HCL
    go_enter Tryd.func13, Tryd.ntmps13
    go_wp2_with fail
    go_ret2
    exact ⟨Below.refl _ _, .inl ⟨rfl, _, rfl, Sl.nil _⟩⟩
  · have hl0 : l.length ≠ 0 := fun e => hne (List.eq_nil_of_length_eq_zero e)
    have hl1 : ¬ (l.length : Int) = 0 := by omega
    have hl2 : ((l.length : Int) == 0) = false := by simpa using hne
    go_enter Tryd.func13, Tryd.ntmps13
    go_wp2_with fail
    refine HCL.out.mono ?_
    rintro e w1 ⟨v1, rfl, hown, hb1⟩
    have HS := Lib.hid (sortstable_any v1 l.length l w.heap.size w1 hown hne (by omega))
    have HB1 := Lib.hid hb1
    clear hown hb1 HCL
    go_wp2_with fail
    refine HS.out.mono ?_
    rintro e w2 ⟨rfl, l', hp, hso, hsl, hbw⟩
    have hb2 := hbw w HB1.out
    have HP := Lib.hid hp
    have HSO := Lib.hid hso
    have hlen' : l'.length = l.length := hp.length_eq
    obtain ⟨a1, cap1, rfl, hlen1, -, hc1⟩ := hsl.split lenc_len
    have HC := Lib.hid hc1
    have HB2 := Lib.hid hb2
    clear HS HB1 hp hso hsl hbw hb2 hc1
    go_wp2_with fail
    go_loopw [5, 17] (fun v i wr => ∃ (k : Nat), k ≤ l'.length ∧ i = .int .i64 k ∧ wr.ownsRow w2.heap.size 33 2 v (keepL (l'.take k)).length ((keepL (l'.take k)).flatMap lenc) ∧ Below w2.heap.size w2 wr ∧ Hid (okFrom (prevO l' k) (l'.drop k) = okFrom none l')) (fun _ i _ => l'.length - (intOf i).toNat)
    case atStart => exact ⟨0, Nat.zero_le _, rfl, by simpa [keepL] using World.ownsRow_nil _ _ _ _, Below.refl _ _, rfl⟩
    case round =>
      obtain ⟨k, hk, rfl, hown, hb, HV⟩ := hrel
      have hB := hb.size
      have hB0 := HB2.out.size
      have HO := Lib.hid hown
      have HB := Lib.hid hb
      by_cases hlt : k < l'.length
      · have hltz : (k : Int) < (l'.length : Int) := by omega
        have h00 : (0 : Int) ≤ (k : Int) := by omega
        obtain ⟨b, off, rfl, k0, k1⟩ := lab_cells HC.out hb (Nat.le_refl _) hlt
        have HD := Lib.hid (show l'.drop k = lx l' k :: l'.drop (k + 1) by rw [List.drop_eq_getElem_cons hlt]; simp [lx, hlt])
        have HS := Lib.hid (keep_snoc l' k hlt)
        have hct := keep_take_len l' k
        by_cases hn : nameB (lx l' k).1 = true
        · by_cases hbz : 256 < (lx l' k).2.size
          · have hb1 : (256 : Int) < ((lx l' k).2.size : Int) := by omega
            have hb2 : decide ((256 : Int) < ((lx l' k).2.size : Int)) = true := by simpa using hb1
            have HF := Lib.hid (show setOk l' = false by rw [setOk, ← HV.out, HD.out, okFrom, hn, show decide ((lx l' k).2.size ≤ 256) = false from decide_eq_false (by omega)]; rfl)
            clear hown
            go_wp2_with fail
            go_quiet ((go_at_call 18; first | refine qs (name_qs _ _) | refine quiet_same (name_qs _ _)))
            go_wp2_with fail
            go_ret2
            exact ⟨l', HP.out, HSO.out, below_drewN ((HB2.out.trans (HB.out.mono hB0)).alloc (by omega) _) _, .inr ⟨HF.out, rfl⟩⟩
          · have hb1 : ¬ (256 : Int) < ((lx l' k).2.size : Int) := by omega
            have hb2 : decide ((256 : Int) < ((lx l' k).2.size : Int)) = false := by simp only [decide_eq_false_iff_not]; exact hb1
            have HVN0 : decide (prevO l' k = some (lx l' k).1) = false → Hid (okFrom (prevO l' (k + 1)) (l'.drop (k + 1)) = okFrom none l') := fun hne => by
              show _ = _
              rw [← HV.out, HD.out, okFrom, hn, hne, show decide ((lx l' k).2.size ≤ 256) = true from decide_eq_true (by omega)]; rfl
            have HVV := Lib.hid HVN0
            clear HVN0 hown
            by_cases hk0' : k = 0
            · have hz3 : ¬ (0 : Int) < (k : Int) := by omega
              have hz4 : decide ((0 : Int) < (k : Int)) = false := by simp only [decide_eq_false_iff_not]; exact hz3
              have hz5 : decide (0 < k) = false := by simp; omega
              have HVN := HVV.out (by rw [hk0']; rfl)
              clear hk0'
              go_wp2_with fail
              go_quiet ((go_at_call 18; first | refine qs (name_qs _ _) | refine quiet_same (name_qs _ _)))
              have hq1 : ((wr.alloc (.cells #[.string (lx l' k).1, .string (lx l' k).2] 33)).drewN nq).ownsRow w2.heap.size 33 2 u5 (keepL (l'.take k)).length ((keepL (l'.take k)).flatMap lenc) := World.ownsRow.alloc HO.out _
              have hq2 : Below w2.heap.size w2 ((wr.alloc (.cells #[.string (lx l' k).1, .string (lx l' k).2] 33)).drewN nq) := below_drewN (HB.out.alloc hB _) _
              have hq3 : ((wr.alloc (.cells #[.string (lx l' k).1, .string (lx l' k).2] 33)).drewN nq).cell? ⟨wr.heap.size, 0, none⟩ = some (.string (lx l' k).1) := by simp
              have hq4 : ((wr.alloc (.cells #[.string (lx l' k).1, .string (lx l' k).2] 33)).drewN nq).cell? ⟨wr.heap.size, 1, none⟩ = some (.string (lx l' k).2) := by simp
              generalize (wr.alloc (.cells #[.string (lx l' k).1, .string (lx l' k).2] 33)).drewN nq = wq at hq1 hq2 hq3 hq4 ⊢
              have hqB := hq2.size
              have HQ1 := Lib.hid hq1
              have HQ2 := Lib.hid hq2
              clear hq2
              by_cases hzz : 0 < (lx l' k).2.size
              · have hz1' : ¬ (lx l' k).2.toList = [] := not_empty_of hzz
                have hz2' : (lx l' k).2.toList.isEmpty = false := by simpa using hz1'
                have HSS := Lib.hid (show keepL (l'.take (k + 1)) = keepL (l'.take k) ++ [lx l' k] by rw [HS.out, if_pos hzz])
                go_wp2_with (at_builtin; refine wpList_append_own _ rfl _ _ 22 rfl w2.heap.size 33 i0 (.agg #[.string ⟨#[]⟩, .string ⟨#[]⟩]) 2 32 Tryd.underlying22 hi hz0 hz1 hz2 rfl (by decide) _ _ _ rfl (hq1.alloc _) ⟨wq.heap.size, 0, none⟩ 1 1 [.string (lx l' k).1, .string (lx l' k).2] rfl rfl ?c1 ?c2 ?c3 ?c4 ?c5 ?_)
                case c1 => have := two_new wq (.string (lx l' k).1) (.string (lx l' k).2) 33; simpa using this
                case c2 => intro u hu; simp at hu; rcases hu with rfl | rfl <;> rfl
                case c3 => unfold maxLen; omega
                case c4 => omega
                case c5 => simp; omega
                intro v' w3 hown' hgrow _
                have HG := Lib.hid hgrow
                have HO' := Lib.hid hown'
                clear hq1 hgrow hown'
                go_wp2_with fail
                go_roundw
                case rel =>
                  refine ⟨k + 1, by omega, by go_num, ?_, (HQ2.out.alloc hqB _).grown HG.out (by simp; omega) (fun j hj => (HQ1.out.lt j hj).1), HVN⟩
                  rw [HSS.out]
                  simp only [List.length_append, List.flatMap_append]
                  exact HO'.out
                case measure => simp [intOf]; omega
              · have hz1' : (lx l' k).2.toList = [] := empty_of (by omega)
                have hz2' : (lx l' k).2.toList.isEmpty = true := by simpa using hz1'
                have HSS := Lib.hid (show keepL (l'.take (k + 1)) = keepL (l'.take k) by rw [HS.out, if_neg hzz, List.append_nil])
                clear hq1
                go_wp2_with fail
                go_roundw
                case rel => exact ⟨k + 1, by omega, by go_num, by rw [HSS.out]; exact HQ1.out, HQ2.out, HVN⟩
                case measure => simp [intOf]; omega
            · obtain ⟨m, rfl⟩ : ∃ m, k = m + 1 := ⟨k - 1, by omega⟩
              have hlt' : m < l'.length := by omega
              obtain ⟨b3, off3, e2, hp0, hp1⟩ := lab_cells HC.out HB.out (Nat.le_refl _) hlt'
              injection e2 with e2
              injection e2 with e2 e3
              subst e2 e3
              have hbl : b < wr.heap.size := World.block_lt_of_cell? wr _ hp0
              have hbn : b ≠ wr.heap.size := by omega
              have hp0a : (wr.alloc (.cells #[.string (lx l' (m + 1)).1, .string (lx l' (m + 1)).2] 33)).cell? ⟨b, off + m * 2, none⟩ = some (.string (lx l' m).1) := cell_below ((Below.refl wr.heap.size wr).alloc (Nat.le_refl _) _) (Nat.le_refl _) hp0
              have hz3 : (0 : Int) < ((m : Int) + 1) := by omega
              have hz4 : decide ((0 : Int) < ((m : Int) + 1)) = true := decide_eq_true hz3
              have hm1 : (m : Int) < (l'.length : Int) := by omega
              have hm0 : (0 : Int) ≤ (m : Int) := by omega
              have hm2 : ((m : Int) + 1).toNat = m + 1 := by omega
              have hm3 : (0 : Int) ≤ (m : Int) + 1 := by omega
              have hm4 : (m : Int) + 1 < (l'.length : Int) := by omega
              have hm5 : IntKind.i64.wrap (m : Int) = (m : Int) := by rw [IntKind.wrap_i64]; omega
              by_cases he : (lx l' m).1 = (lx l' (m + 1)).1
              · have he1 : ((lx l' m).1.toList == (lx l' (m + 1)).1.toList) = true := by rw [he]; simp
                have HF := Lib.hid (show setOk l' = false by
                  have hbq : decide (prevO l' (m + 1) = some (lx l' (m + 1)).1) = true := decide_eq_true (by show some (lx l' m).1 = some (lx l' (m + 1)).1; rw [he])
                  rw [setOk, ← HV.out, HD.out, okFrom, hbq]
                  simp only [Bool.not_true, Bool.and_false, Bool.false_and])
                clear he
                go_wp2_with fail
                go_quiet ((go_at_call 18; first | refine qs (name_qs _ _) | refine quiet_same (name_qs _ _)))
                go_wp2_with fail
                go_ret2
                exact ⟨l', HP.out, HSO.out, below_drewN ((HB2.out.trans (HB.out.mono hB0)).alloc (by omega) _) _, .inr ⟨HF.out, rfl⟩⟩
              · have he1 : ((lx l' m).1.toList == (lx l' (m + 1)).1.toList) = false := by
                  rw [beq_cmp]
                  exact decide_eq_false fun h => he ((cmpS_eq _ _).1 h)
                have HVN := HVV.out (decide_eq_false fun hh => he (by have hh2 : some (lx l' m).1 = some (lx l' (m + 1)).1 := hh; injection hh2))
                clear he
                go_wp2_with fail
                go_quiet ((go_at_call 18; first | refine qs (name_qs _ _) | refine quiet_same (name_qs _ _)))
                have hq1 : ((wr.alloc (.cells #[.string (lx l' (m + 1)).1, .string (lx l' (m + 1)).2] 33)).drewN nq).ownsRow w2.heap.size 33 2 u5 (keepL (l'.take (m + 1))).length ((keepL (l'.take (m + 1))).flatMap lenc) := World.ownsRow.alloc HO.out _
                have hq2 : Below w2.heap.size w2 ((wr.alloc (.cells #[.string (lx l' (m + 1)).1, .string (lx l' (m + 1)).2] 33)).drewN nq) := below_drewN (HB.out.alloc hB _) _
                have hq3 : ((wr.alloc (.cells #[.string (lx l' (m + 1)).1, .string (lx l' (m + 1)).2] 33)).drewN nq).cell? ⟨wr.heap.size, 0, none⟩ = some (.string (lx l' (m + 1)).1) := by simp
                have hq4 : ((wr.alloc (.cells #[.string (lx l' (m + 1)).1, .string (lx l' (m + 1)).2] 33)).drewN nq).cell? ⟨wr.heap.size, 1, none⟩ = some (.string (lx l' (m + 1)).2) := by simp
                generalize (wr.alloc (.cells #[.string (lx l' (m + 1)).1, .string (lx l' (m + 1)).2] 33)).drewN nq = wq at hq1 hq2 hq3 hq4 ⊢
                have hqB := hq2.size
                have HQ1 := Lib.hid hq1
                have HQ2 := Lib.hid hq2
                clear hq2
                by_cases hzz : 0 < (lx l' (m + 1)).2.size
                · have hz1' : ¬ (lx l' (m + 1)).2.toList = [] := not_empty_of hzz
                  have hz2' : (lx l' (m + 1)).2.toList.isEmpty = false := by simpa using hz1'
                  have HSS := Lib.hid (show keepL (l'.take (m + 1 + 1)) = keepL (l'.take (m + 1)) ++ [lx l' (m + 1)] by rw [HS.out, if_pos hzz])
                  go_wp2_with (at_builtin; refine wpList_append_own _ rfl _ _ 22 rfl w2.heap.size 33 i0 (.agg #[.string ⟨#[]⟩, .string ⟨#[]⟩]) 2 32 Tryd.underlying22 hi hz0 hz1 hz2 rfl (by decide) _ _ _ rfl (hq1.alloc _) ⟨wq.heap.size, 0, none⟩ 1 1 [.string (lx l' (m + 1)).1, .string (lx l' (m + 1)).2] rfl rfl ?c1 ?c2 ?c3 ?c4 ?c5 ?_)
                  case c1 => have := two_new wq (.string (lx l' (m + 1)).1) (.string (lx l' (m + 1)).2) 33; simpa using this
                  case c2 => intro u hu; simp at hu; rcases hu with rfl | rfl <;> rfl
                  case c3 => unfold maxLen; omega
                  case c4 => omega
                  case c5 => simp; omega
                  intro v' w3 hown' hgrow _
                  have HG := Lib.hid hgrow
                  have HO' := Lib.hid hown'
                  clear hq1 hgrow hown'
                  go_wp2_with fail
                  go_roundw
                  case rel =>
                    refine ⟨m + 1 + 1, by omega, by go_num, ?_, (HQ2.out.alloc hqB _).grown HG.out (by simp; omega) (fun j hj => (HQ1.out.lt j hj).1), HVN⟩
                    rw [HSS.out]
                    simp only [List.length_append, List.flatMap_append]
                    exact HO'.out
                  case measure => simp [intOf]; omega
                · have hz1' : (lx l' (m + 1)).2.toList = [] := empty_of (by omega)
                  have hz2' : (lx l' (m + 1)).2.toList.isEmpty = true := by simpa using hz1'
                  have HSS := Lib.hid (show keepL (l'.take (m + 1 + 1)) = keepL (l'.take (m + 1)) by rw [HS.out, if_neg hzz, List.append_nil])
                  clear hq1
                  go_wp2_with fail
                  go_roundw
                  case rel => exact ⟨m + 1 + 1, by omega, by go_num, by rw [HSS.out]; exact HQ1.out, HQ2.out, HVN⟩
                  case measure => simp [intOf]; omega
        · have hn2 : nameB (lx l' k).1 = false := by simpa using hn
          have HF := Lib.hid (show setOk l' = false by rw [setOk, ← HV.out, HD.out, okFrom, hn2]; rfl)
          clear hown
          go_wp2_with fail
          go_quiet ((go_at_call 18; first | refine qs (name_qs _ _) | refine quiet_same (name_qs _ _)))
          go_wp2_with fail
          go_ret2
          exact ⟨l', HP.out, HSO.out, below_drewN ((HB2.out.trans (HB.out.mono hB0)).alloc (by omega) _) _, .inr ⟨HF.out, rfl⟩⟩
      · have hltz : ¬ (k : Int) < (l'.length : Int) := by omega
        obtain rfl : k = l'.length := by omega
        have hok : okFrom none l' = true := by rw [← HV.out, List.drop_length]; cases l' <;> rfl
        rw [List.take_of_length_le (Nat.le_refl _)] at hown
        have hsl5 : Sl lenc wr u5 (keepL l') := Sl.own lenc_len (by decide) hown
        have HSL := Lib.hid hsl5
        obtain ⟨a5, cap5, e5, -, -, -⟩ := hsl5.split lenc_len
        subst e5
        clear hsl5
        have HBB := Lib.hid (HB2.out.trans (HB.out.mono hB0))
        by_cases hbig : 32 < (keepL l').length
        · have hbz : (32 : Int) < ((keepL l').length : Int) := by omega
          have HF := Lib.hid (show setOk l' = false by rw [setOk, hok, show decide ((keepL l').length ≤ 32) = false from decide_eq_false (by omega)]; rfl)
          clear hown
          go_wp2_with fail
          go_ret2
          exact ⟨l', HP.out, HSO.out, HBB.out, .inr ⟨HF.out, rfl⟩⟩
        · have hbz : ¬ (32 : Int) < ((keepL l').length : Int) := by omega
          have HF := Lib.hid (show setOk l' = true by rw [setOk, hok, show decide ((keepL l').length ≤ 32) = true from decide_eq_true (by omega)]; rfl)
          clear hown
          go_wp2_with fail
          go_ret2
          exact ⟨l', HP.out, HSO.out, HBB.out, .inl ⟨HF.out, _, rfl, HSL.out⟩⟩
end Go.Proofs.YtdpigfcnphklgaaDoor
