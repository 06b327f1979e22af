/- The document's quotes. -/
import Derived.Test.YtdpigfcnphklgaaDoorLq1
namespace Go.Proofs.YtdpigfcnphklgaaDoor
open Go Go.RowKit
set_option linter.unusedVariables false
set_option linter.unusedSimpArgs false
set_option maxRecDepth 100000
set_option maxHeartbeats 4000000 in
theorem rquote_any (s : ByteArray) (w : World) (hs : s.size ≤ 1000000) :
    Calls Tryd.prog 23 #[.string s] w fun e w' => e = .returned (.string (quoteS s)) ∧ Below w.heap.size w w' := by
  obtain ⟨i0, hi, hz0, hz1, hz2⟩ := info_parts Tryd.infoU8'
  go_enter Tryd.func23, Tryd.ntmps23
  go_wp2_with fail
  go_loopw [4, 5] (fun v i wr => ∃ k : Nat, k ≤ s.size ∧ i = .int .i64 k ∧ wr.ownsRow w.heap.size 5 1 v (quoteB (s.data.toList.take k)).length (Lib.byteCells (quoteB (s.data.toList.take k))) ∧ Hid (Below w.heap.size w wr)) (fun _ i _ => s.size - (intOf i).toNat)
  case atStart => exact ⟨0, Nat.zero_le _, rfl, World.ownsRow_lit w #[.int .u8 34] 1 (Nat.le_refl _) (by unfold maxLen; omega) rfl, (Below.refl _ _).alloc (Nat.le_refl _) _⟩
  case round =>
    obtain ⟨k, hk, rfl, hown, HB⟩ := hrel
    have hBz := HB.out.size
    by_cases hlt : k < s.size
    · have hltz : (k : Int) < (s.size : Int) := by omega
      have h00 : (0 : Int) ≤ (k : Int) := by omega
      obtain ⟨c, hc⟩ : ∃ c, c = s[k] := ⟨_, rfl⟩
      have HQ := Lib.hid (quoteB_snoc s k hlt)
      rw [← hc] at HQ
      have hqb := quoteB_len (s.data.toList.take k)
      rw [List.length_take] at hqb
      have hql : (quoteB (s.data.toList.take k)).length ≤ 4 * s.size + 1 := by omega
      clear hqb
      have hci : (s[k].toNat : Int) = (c.toNat : Int) := by rw [hc]
      clear hc
      obtain ⟨ci, hci2⟩ : ∃ ci : Int, ci = (c.toNat : Int) := ⟨_, rfl⟩
      have hc0 : 0 ≤ ci := by omega
      have hc1 : ci ≤ 255 := by have := c.toNat_lt; omega
      rw [← hci2] at hci
      have HCI := Lib.hid hci2
      clear hci2
      have HO := Lib.hid hown
      generalize hLe : quoteB (s.data.toList.take k) = L at hown HO hql
      rw [hLe] at HQ
      have HLe := Lib.hid hLe
      clear hLe
      by_cases h34 : ci = 34 ∨ ci = 92
      · have HN := Lib.hid (show quoteC c = [92, c] by
          rw [quoteC, if_pos]
          have := HCI.out
          rcases h34 with h | h
          · exact .inl (UInt8.toNat_inj.1 (by show c.toNat = 34; omega))
          · exact .inr (UInt8.toNat_inj.1 (by show c.toNat = 92; omega)))
        have HNC := Lib.hid (show Lib.byteCells [92, c] = [.int .u8 92, .int .u8 ci] by rw [HCI.out]; rfl)
        by_cases h34c : ci = 34
        case' pos => have h34a : (ci == 34) = true := by simpa using h34c
        case' neg =>
          have h34a : (ci == 34) = false := by simpa using h34c
          have h34b : (ci == 92) = true := by simp; omega
        all_goals
          clear h34 h34c
          go_wp2_with (at_builtin; refine wpList_append_own _ rfl _ _ 80 rfl w.heap.size 5 i0 (.int .u8 0) 1 1 Tryd.underlying80 hi hz0 hz1 hz2 rfl (by decide) _ _ _ rfl (hown.alloc _) ⟨wr.heap.size, 0, none⟩ 2 2 [.int .u8 92, .int .u8 ci] rfl rfl ?c1 ?c2 ?c3 ?c4 ?c5 ?_)
          case c1 => exact World.news_of_block (heap_new _ _)
          case c2 => intro u hu; simp at hu; rcases hu with rfl | rfl <;> rfl
          case c3 => unfold maxLen; omega
          case c4 => omega
          case c5 => simp; omega
          intro v' w1 hown' hgrow _
          have HG := Lib.hid ((HB.out.alloc hBz (.cells #[.int .u8 92, .int .u8 ci] 5)).grown hgrow (by simp; omega) (fun j hj => (HO.out.lt j hj).1))
          have HO' := Lib.hid hown'
          clear hown hgrow hown'
          go_wp2_with fail
          go_roundw
          case rel =>
            refine ⟨k + 1, by omega, by go_num, ?_, HG.out⟩
            rw [HQ.out, HN.out, Lib.byteCells_append, HNC.out, List.length_append]
            exact HO'.out
          case measure => simp [intOf]; omega
      · have h34a : (ci == 34) = false := by simp; omega
        have h34b : (ci == 92) = false := by simp; omega
        have hcn : ¬ (c = 34 ∨ c = 92) := by
          have := HCI.out
          rintro (rfl | rfl)
          · exact h34 (.inl this)
          · exact h34 (.inr this)
        by_cases hp : plainI ci = true
        · have HN := Lib.hid (show quoteC c = [c] by rw [quoteC, if_neg hcn, ← HCI.out, if_pos hp])
          have HNC := Lib.hid (show Lib.byteCells [c] = [.int .u8 ci] by rw [HCI.out]; rfl)
          clear h34 hcn
          have hp1 : 32 ≤ ci ∧ ci < 127 := by simpa [plainI] using hp
          have hp32 : 32 ≤ ci := hp1.1
          have hp127 : ci < 127 := hp1.2
          have hb32 : decide (ci < 32) = false := decide_eq_false (by omega)
          have hb127 : decide (127 ≤ ci) = false := decide_eq_false (by omega)
          clear hp hp1
          obtain ⟨w1, rfl⟩ : ∃ w1 : World, w1 = wr := ⟨_, rfl⟩
          go_wp2_with (at_builtin; refine wpList_append_own _ rfl _ _ 80 rfl w.heap.size 5 i0 (.int .u8 0) 1 1 Tryd.underlying80 hi hz0 hz1 hz2 rfl (by decide) _ _ _ rfl (hown.alloc _) ⟨w1.heap.size, 0, none⟩ 1 1 [.int .u8 ci] rfl rfl ?c1 ?c2 ?c3 ?c4 ?c5 ?_)
          case c1 => exact World.news_of_block (heap_new _ _)
          case c2 => intro u hu; simp at hu; rcases hu with rfl <;> rfl
          case c3 => unfold maxLen; omega
          case c4 => omega
          case c5 => simp; omega
          intro v' w2 hown' hgrow _
          have HG := Lib.hid ((HB.out.alloc hBz (.cells #[.int .u8 ci] 5)).grown hgrow (by simp; omega) (fun j hj => (HO.out.lt j hj).1))
          have HO' := Lib.hid hown'
          clear hown hgrow hown'
          go_wp2_with fail
          go_roundw
          case rel =>
            refine ⟨k + 1, by omega, by go_num, ?_, HG.out⟩
            rw [HQ.out, HN.out, Lib.byteCells_append, HNC.out, List.length_append]
            exact HO'.out
          case measure => simp [intOf]; omega
        · have hp2 : plainI ci = false := by simpa using hp
          have HN := Lib.hid (show quoteC c = [92, 120, hexB (c.toNat / 16), hexB (c.toNat % 16)] by rw [quoteC, if_neg hcn, ← HCI.out, if_neg hp])
          have HNC := Lib.hid (show Lib.byteCells [92, 120, hexB (c.toNat / 16), hexB (c.toNat % 16)] = [.int .u8 92, .int .u8 120, .int .u8 (hexI (ci / 16)), .int .u8 (hexI (ci % 16))] by
            have e1 : (ci / 16).toNat = c.toNat / 16 := by rw [HCI.out]; omega
            have e2 : (ci % 16).toNat = c.toNat % 16 := by rw [HCI.out]; omega
            rw [hexI, hexI, e1, e2]; rfl)
          have R1 : ci.tdiv 16 = ci / 16 := Int.tdiv_eq_ediv_of_nonneg hc0
          have R2 : ci.tmod 16 = ci % 16 := Int.tmod_eq_emod_of_nonneg hc0
          have R5 : IntKind.u8.wrap (ci / 16) = ci / 16 := by unfold IntKind.wrap; simp [IntKind.signed, IntKind.bits]; omega
          have R6 : IntKind.u8.wrap (ci % 16) = ci % 16 := by unfold IntKind.wrap; simp [IntKind.signed, IntKind.bits]; omega
          have R3 := fun w => hex_run (i := ci / 16) (by omega) (by omega) w
          have R4 := fun w => hex_run (i := ci % 16) (by omega) (by omega) w
          have hp1 : ¬ (32 ≤ ci ∧ ci < 127) := by simpa [plainI] using hp
          clear h34 hp hcn
          obtain ⟨w1, rfl⟩ : ∃ w1 : World, w1 = wr := ⟨_, rfl⟩
          by_cases h32 : ci < 32
          case' pos => have hb32 : decide (ci < 32) = true := decide_eq_true h32
          case' neg =>
            have hb32 : decide (ci < 32) = false := decide_eq_false h32
            have h127 : 127 ≤ ci := by omega
            have hb127 : decide (127 ≤ ci) = true := decide_eq_true h127
          all_goals
            clear hp1 hp2
            go_wp2_with fail
            go_region_held3 (fun w' => True) (trivial)
              (first
                | (refine step_append_rd rfl (.tmp 39) (.tmp 48) _ rfl w.heap.size 5 i0 (.int .u8 0) 1 1 Tryd.underlying80 hi hz0 hz1 hz2 rfl (by decide) u4 L.length (Lib.byteCells L) rfl (World.ownsRow.alloc hown _) (some ⟨w1.heap.size, 0, none⟩) 4 4 [.int .u8 92, .int .u8 120, .int .u8 (hexI (ci / 16)), .int .u8 (hexI (ci % 16))] rfl (fun e => by cases e) rfl ?_ ?_ ?_ ?_ ?_ ?_
                   (exact fun ad e j u hu => by injection e with e; subst e; exact World.news_of_block (heap_new w1.drew _) j u hu)
                   (intro u hu; simp at hu; rcases hu with rfl | rfl | rfl | rfl <;> rfl)
                   (unfold maxLen; omega)
                   (omega)
                   (simp <;> omega)
                   intro v' w2 hown' hgrow))
          all_goals
            have HG := Lib.hid ((below_drewN (HB.out.alloc hBz (.cells #[.int .u8 92, .int .u8 120, .int .u8 (hexI (ci / 16)), .int .u8 (hexI (ci % 16))] 5)) 1).grown hgrow (by simp; omega) (fun j hj => (HO.out.lt j hj).1))
            have HO' := Lib.hid hown'
            clear hown hgrow hown'
            go_wp2_with fail
            have HE : ∃ k_1 : Nat, k_1 ≤ s.size ∧ Value.int IntKind.i64 ((k : Int) + 1) = .int .i64 k_1 ∧ w2.ownsRow w.heap.size 5 1 v' (quoteB (s.data.toList.take k_1)).length (Lib.byteCells (quoteB (s.data.toList.take k_1))) ∧ Hid (Below w.heap.size w w2) := by
              refine ⟨k + 1, by omega, by go_num, ?_, HG.out⟩
              rw [HQ.out, HN.out, Lib.byteCells_append, HNC.out, List.length_append]
              exact HO'.out
            go_roundw
            case rel => exact HE
            case measure => simp [intOf]; omega
    · obtain rfl : k = s.size := by omega
      have hltz : ¬ (s.size : Int) < (s.size : Int) := by omega
      have hqb := quoteB_len (s.data.toList.take s.size)
      rw [List.length_take] at hqb
      have HFin := Lib.hid (show quoteL s.data.toList = quoteB (s.data.toList.take s.size) ++ [34] by rw [List.take_of_length_le (by simp)]; rfl)
      have HO := Lib.hid hown
      generalize quoteB (s.data.toList.take s.size) = L at hown HO hqb HFin
      go_wp2_with (at_builtin; refine wpList_append_own _ rfl _ _ 80 rfl w.heap.size 5 i0 (.int .u8 0) 1 1 Tryd.underlying80 hi hz0 hz1 hz2 rfl (by decide) _ _ _ rfl (hown.alloc _) ⟨wr.heap.size, 0, none⟩ 1 1 [.int .u8 34] rfl rfl ?c1 ?c2 ?c3 ?c4 ?c5 ?_)
      try (case c1 => exact World.news_of_block (heap_new _ _))
      case c2 => first | rfl | (intro u hu; simp at hu; rcases hu with rfl <;> rfl)
      case c3 => unfold maxLen; omega
      case c4 => omega
      case c5 => first | omega | (simp; omega)
      intro v' w2 hown' hgrow _
      have HG := Lib.hid ((HB.out.alloc hBz (.cells #[.int .u8 34] 5)).grown hgrow (by simp; omega) (fun j hj => (HO.out.lt j hj).1))
      have RC := conv_own (l := L ++ [34]) (by rw [Lib.byteCells_append]; exact hown')
      clear hown hgrow hown'
      go_wp2_with fail
      go_ret
      exact ⟨by rw [quoteS, HFin.out] <;> rfl, HG.out⟩
end Go.Proofs.YtdpigfcnphklgaaDoor
