/- With: the code's and the document's. -/
import Derived.Test.YtkflhfdpdgnbfaaLi3
namespace Go.Proofs.Ytkflhfdpdgnbfaa
open Go Go.RowKit
set_option linter.unusedVariables false
set_option linter.unusedSimpArgs false
set_option maxRecDepth 100000
theorem ins_any (v : Value) (base i : Nat) (d : List Lb) (t y : ByteArray) (b1 : Nat) (w : World) (hown : w.ownsRow base 49 2 v d.length (d.flatMap lenc)) (hl : d.length ≤ 1000000)
    (hx : w.heap[b1]? = some (.cells #[.string t, .string y] 49 (0, 0))) (hbw : base ≤ w.heap.size) (hne : v.ownBlock ≠ some b1) (hi : i ≤ d.length) :
    Calls Try.prog 73 #[v, .int .i64 i, .slice (some ⟨b1, 0, none⟩) 1 1] w fun e w' => ∃ v', e = .returned v' ∧ Sl lenc w' v' (d.take i ++ (t, y) :: d.drop i) ∧ Below base w w' := by
  by_cases he : i = d.length
  · subst he
    have := ins_end v base d t y b1 w hown hl hx hbw
    rw [List.take_of_length_le (Nat.le_refl _), List.drop_of_length_le (Nat.le_refl _)]
    exact this
  · have hlt : i < d.length := by omega
    obtain ⟨g, cap, rfl⟩ : ∃ g cap, v = .slice (some ⟨g, 0, none⟩) d.length cap := by
      rcases hown.2 with ⟨hv, h0⟩ | ⟨g, cap, cur, hv, _⟩
      · omega
      · exact ⟨g, cap, hv⟩
    by_cases hroom : d.length + 1 ≤ cap
    · exact ins_shift g base cap i d t y b1 w hown hl hx hbw (fun e => hne (by rw [e]; rfl)) hlt hroom
    · exact ins_grow g base cap i d t y b1 w hown hl hx hbw hlt (by omega)
def withD (l : List Lb) (name value : ByteArray) : List Lb := if 0 < value.size then putL (name, value) (pickL [name] false l) else pickL [name] false l
def withL (l : List Lb) (name value : ByteArray) : List Lb := if rightL (withD l name value) then withD l name value else l
theorem sl_one (w : World) (s : ByteArray) : Sl senc1 (w.alloc (.cells #[.string s] 9)) (.slice (some ⟨w.heap.size, 0, none⟩) 1 1) [s] := Sl.lit (heap_new _ _) rfl rfl (by omega)
set_option maxHeartbeats 4000000 in
theorem with_any (v : Value) (l : List Lb) (name value : ByteArray) (w : World) (h : Sl lenc w v l) (hl : l.length ≤ 100000) :
    Calls Try.prog 53 #[v, .string name, .string value] w fun e w' => ∃ v', e = .returned v' ∧ Sl lenc w' v' (withL l name value) ∧ Below w.heap.size w w' := by
  have HSL := Lib.hid h
  have hb0 : Below w.heap.size w (w.alloc (.cells #[.string name] 9)) := (Below.refl _ _).alloc (Nat.le_refl _) _
  have HD := Lib.hid (drop_own v (.slice (some ⟨w.heap.size, 0, none⟩) 1 1) l [name] (w.alloc (.cells #[.string name] 9)) (h.below hb0 (Nat.le_refl _)) (sl_one w name) (by omega))
  have HB0 := Lib.hid hb0
  clear h hb0
  go_enter Try.func53, Try.ntmps53
  go_wp2_with fail
  refine HD.out.mono ?_
  rintro e w1 ⟨v1, rfl, hown, hb1⟩
  have HB1 := Lib.hid (HB0.out.trans (hb1.mono (by simp)))
  have hz1 : w.heap.size + 1 ≤ w1.heap.size := by have := hb1.size; simp at this; omega
  have hsz1 : (w.alloc (.cells #[.string name] 9)).heap.size = w.heap.size + 1 := by simp
  rw [hsz1] at hown
  have HSL1 := Lib.hid (HSL.out.below HB1.out (Nat.le_refl _))
  clear hb1 HD hsz1
  have hdl : (pickL [name] false l).length ≤ l.length := pick_len _ _ _
  by_cases hv : 0 < value.size
  · have hv1 : value.toList.isEmpty = false := by have := not_empty_of hv; simpa using this
    have hv2 : ¬ value.toList = [] := not_empty_of hv
    have HW := Lib.hid (show withD l name value = putL (name, value) (pickL [name] false l) by rw [withD, if_pos hv])
    clear hv
    have hsl1 := Sl.own lenc_len (by decide) hown
    have HO1 := Lib.hid hown
    obtain ⟨d, hd⟩ : ∃ d, d = pickL [name] false l := ⟨_, rfl⟩
    rw [← hd] at hdl HW hsl1 HO1
    clear hd hown
    obtain ⟨a, cap, rfl, hlen, -, hc⟩ := hsl1.split lenc_len
    have HC := Lib.hid hc
    clear hc hsl1
    go_wp2_with fail
    go_loopw [8] (fun i wr => ∃ k : Nat, k ≤ d.length ∧ i = .int .i64 k ∧ Hid (∀ j, j < k → cmpS (lx d j).1 name < 0) ∧ wr = w1) (fun i _ => d.length - (intOf i).toNat)
    case atStart => exact ⟨0, Nat.zero_le _, rfl, fun j hj => absurd hj (Nat.not_lt_zero _), rfl⟩
    case round =>
      obtain ⟨k, hk, rfl, HV, rfl⟩ := hrel
      have h00 : (0 : Int) ≤ (k : Int) := by omega
      by_cases hgo : k < d.length ∧ cmpS (lx d k).1 name < 0
      · obtain ⟨hlt, hcs⟩ := hgo
        have hltz : (k : Int) < (d.length : Int) := by omega
        have hltb : decide ((k : Int) < (d.length : Int)) = true := decide_eq_true hltz
        obtain ⟨b, off, rfl, hk0, hk1⟩ := lab_cells HC.out (Below.refl _ _) (Nat.le_refl _) hlt
        have hbl : Op.bytesLess (lx d k).1.toList name.toList = true := by
          rw [less_cmp]
          rcases cmpS_cases (lx d k).1 name with h | h | h
          · exact decide_eq_true h
          · omega
          · omega
        have HCS := Lib.hid hcs
        clear hcs
        go_wp2_with fail
        go_roundw
        case rel => exact ⟨k + 1, by omega, by go_num, put_loop_snoc (x := (name, value)) HV.out HCS.out, by trivial⟩
        case measure => simp [intOf]; omega
      · have HP := Lib.hid (put_at (name, value) d k hk HV.out (fun h h2 => hgo ⟨h, h2⟩))
        have HI := Lib.hid (ins_any (.slice a d.length cap) (w.heap.size + 1) k d name value wr.heap.size (wr.alloc (.cells #[.string name, .string value] 49)) (HO1.out.alloc _) (by omega) (heap_new _ _) (by simp; omega) (fun e => by have := (HO1.out.lt _ e).2; omega) hk)
        have hcl := clone_any v l
        have HCL := Lib.hid hcl
        clear hcl
        by_cases hlt : k < d.length
        case' pos =>
          have hltz : (k : Int) < (d.length : Int) := by omega
          have hltb : decide ((k : Int) < (d.length : Int)) = true := decide_eq_true hltz
          obtain ⟨b, off, rfl, hk0, hk1⟩ := lab_cells HC.out (Below.refl _ _) (Nat.le_refl _) hlt
          have hbl : Op.bytesLess (lx d k).1.toList name.toList = false := by
            rw [less_cmp]
            exact decide_eq_false (fun h => hgo ⟨hlt, by omega⟩)
          clear hgo
          go_wp2_with fail
        case' neg =>
          have hltz : ¬ (k : Int) < (d.length : Int) := by omega
          have hltb : decide ((k : Int) < (d.length : Int)) = false := decide_eq_false hltz
          clear hgo
          go_wp2_with fail
        all_goals
          refine HI.out.mono ?_
          rintro e w3 ⟨v3, rfl, hs3, hb3⟩
          rw [← HP.out, ← HW.out] at hs3
          have HS3 := Lib.hid hs3
          have HB3 := Lib.hid ((HB1.out.alloc (by omega) (.cells #[.string name, .string value] 49)).trans (hb3.mono (by omega)))
          clear hs3 hb3
          have HR := Lib.hid (right_any v3 _ w3 HS3.out)
          go_wp2_with fail
          refine HR.out.mono ?_
          by_cases hr : rightL (withD l name value) = true
          · rw [hr]
            have HF := Lib.hid (show withL l name value = withD l name value by rw [withL, if_pos hr])
            clear hr
            rintro e w4 ⟨rfl, hg4⟩
            have HB4 := Lib.hid (HB3.out.trans (hg4.below.mono HB3.out.size))
            have HS4 := Lib.hid (HS3.out.below hg4.below (Nat.le_refl _))
            clear hg4
            go_wp2_with fail
            go_ret
            exact ⟨_, rfl, by rw [HF.out]; exact HS4.out, HB4.out⟩
          · have hr2 : rightL (withD l name value) = false := by simpa using hr
            rw [hr2]
            have HF := Lib.hid (show withL l name value = l by rw [withL, if_neg hr])
            clear hr hr2
            rintro e w4 ⟨rfl, hg4⟩
            have HB4 := Lib.hid (HB3.out.trans (hg4.below.mono HB3.out.size))
            clear hg4
            have HC4 := Lib.hid (HCL.out w4 (HSL.out.below HB4.out (Nat.le_refl _)) (by omega))
            go_wp2_with fail
            refine HC4.out.mono ?_
            rintro e w5 ⟨v5, rfl, hown5, hb5⟩
            have HB5 := Lib.hid (HB4.out.trans (hb5.mono HB4.out.size))
            have HS5 := Lib.hid (Sl.own lenc_len (by decide) hown5)
            clear hown5 hb5
            go_wp2_with fail
            go_ret
            exact ⟨_, rfl, by rw [HF.out]; exact HS5.out, HB5.out⟩
  · have hv1 : value.toList.isEmpty = true := by have := empty_of (s := value) (by omega); simpa using this
    have hv2 : value.toList = [] := empty_of (by omega)
    have HW := Lib.hid (show withD l name value = pickL [name] false l by rw [withD, if_neg hv])
    have HS3 := Lib.hid (Sl.own lenc_len (by decide) hown)
    rw [← HW.out] at HS3
    have HR := Lib.hid (right_any v1 _ w1 HS3.out)
    have HCL := Lib.hid (clone_any v l)
    clear hv hown hdl
    go_wp2_with fail
    refine HR.out.mono ?_
    by_cases hr : rightL (withD l name value) = true
    · rw [hr]
      have HF := Lib.hid (show withL l name value = withD l name value by rw [withL, if_pos hr])
      clear hr
      rintro e w4 ⟨rfl, hg4⟩
      have HB4 := Lib.hid (HB1.out.trans (hg4.below.mono HB1.out.size))
      have HS4 := Lib.hid (HS3.out.below hg4.below (Nat.le_refl _))
      clear hg4
      go_wp2_with fail
      go_ret
      exact ⟨_, rfl, by rw [HF.out]; exact HS4.out, HB4.out⟩
    · have hr2 : rightL (withD l name value) = false := by simpa using hr
      rw [hr2]
      have HF := Lib.hid (show withL l name value = l by rw [withL, if_neg hr])
      clear hr hr2
      rintro e w4 ⟨rfl, hg4⟩
      have HB4 := Lib.hid (HB1.out.trans (hg4.below.mono HB1.out.size))
      clear hg4
      have HC4 := Lib.hid (HCL.out w4 (HSL.out.below HB4.out (Nat.le_refl _)) (by omega))
      go_wp2_with fail
      refine HC4.out.mono ?_
      rintro e w5 ⟨v5, rfl, hown5, hb5⟩
      have HB5 := Lib.hid (HB4.out.trans (hb5.mono HB4.out.size))
      have HS5 := Lib.hid (Sl.own lenc_len (by decide) hown5)
      clear hown5 hb5
      go_wp2_with fail
      go_ret
      exact ⟨_, rfl, by rw [HF.out]; exact HS5.out, HB5.out⟩
set_option maxHeartbeats 4000000 in
theorem rwith_any (v : Value) (l : List Lb) (name value : ByteArray) (w : World) (h : Sl lenc w v l) (hl : l.length ≤ 100000) :
    Calls Try.prog 55 #[v, .string name, .string value] w fun e w' => ∃ v', e = .returned v' ∧ Sl lenc w' v' (withL l name value) ∧ Below w.heap.size w w' := by
  have HSL := Lib.hid h
  have hb0 : Below w.heap.size w (w.alloc (.cells #[.string name] 9)) := (Below.refl _ _).alloc (Nat.le_refl _) _
  have HD := Lib.hid (rdrop_any v (.slice (some ⟨w.heap.size, 0, none⟩) 1 1) l [name] (w.alloc (.cells #[.string name] 9)) (h.below hb0 (Nat.le_refl _)) (sl_one w name) (by omega))
  have HB0 := Lib.hid hb0
  clear h hb0
  go_enter Try.func55, Try.ntmps55
  go_wp2_with fail
  refine HD.out.mono ?_
  rintro e w1 ⟨v1, rfl, hs1, hb1⟩
  have HB1 := Lib.hid (HB0.out.trans (hb1.mono (by simp)))
  have HS1 := Lib.hid hs1
  clear hb1 HD hs1
  have hdl : (pickL [name] false l).length ≤ 1000000 := by have := pick_len [name] false l; omega
  by_cases hv : 0 < value.size
  · have hv1 : value.toList.isEmpty = false := by have := not_empty_of hv; simpa using this
    have hv2 : ¬ value.toList = [] := not_empty_of hv
    have HW := Lib.hid (show withD l name value = putL (name, value) (pickL [name] false l) by rw [withD, if_pos hv])
    clear hv
    have HP := Lib.hid (rput_any v1 _ name value w1 HS1.out hdl)
    clear hdl
    go_wp2_with fail
    refine HP.out.mono ?_
    rintro e w3 ⟨v3, rfl, hs3, hb3⟩
    rw [← HW.out] at hs3
    have HS3 := Lib.hid hs3
    have HB3 := Lib.hid (HB1.out.trans (hb3.mono HB1.out.size))
    clear hs3 hb3
    have HR := Lib.hid (rright_any v3 _ w3 HS3.out)
    go_wp2_with fail
    refine HR.out.mono ?_
    by_cases hr : rightL (withD l name value) = true
    · rw [hr]
      have HF := Lib.hid (show withL l name value = withD l name value by rw [withL, if_pos hr])
      clear hr
      rintro e w4 ⟨rfl, n4, rfl⟩
      go_wp2_with fail
      go_ret
      exact ⟨_, rfl, by rw [HF.out]; exact HS3.out.drewN _, below_drewN HB3.out _⟩
    · have hr2 : rightL (withD l name value) = false := by simpa using hr
      rw [hr2]
      have HF := Lib.hid (show withL l name value = l by rw [withL, if_neg hr])
      clear hr hr2
      rintro e w4 ⟨rfl, n4, rfl⟩
      go_wp2_with fail
      go_ret
      exact ⟨_, rfl, by rw [HF.out]; exact HSL.out.below (below_drewN HB3.out _) (Nat.le_refl _), below_drewN HB3.out _⟩
  · have hv1 : value.toList.isEmpty = true := by have := empty_of (s := value) (by omega); simpa using this
    have hv2 : value.toList = [] := empty_of (by omega)
    have HW := Lib.hid (show withD l name value = pickL [name] false l by rw [withD, if_neg hv])
    clear hv hdl
    rw [← HW.out] at HS1
    have HR := Lib.hid (rright_any v1 _ w1 HS1.out)
    go_wp2_with fail
    refine HR.out.mono ?_
    by_cases hr : rightL (withD l name value) = true
    · rw [hr]
      have HF := Lib.hid (show withL l name value = withD l name value by rw [withL, if_pos hr])
      clear hr
      rintro e w4 ⟨rfl, n4, rfl⟩
      go_wp2_with fail
      go_ret
      exact ⟨_, rfl, by rw [HF.out]; exact HS1.out.drewN _, below_drewN HB1.out _⟩
    · have hr2 : rightL (withD l name value) = false := by simpa using hr
      rw [hr2]
      have HF := Lib.hid (show withL l name value = l by rw [withL, if_neg hr])
      clear hr hr2
      rintro e w4 ⟨rfl, n4, rfl⟩
      go_wp2_with fail
      go_ret
      exact ⟨_, rfl, by rw [HF.out]; exact HSL.out.below (below_drewN HB1.out _) (Nat.le_refl _), below_drewN HB1.out _⟩
end Go.Proofs.Ytkflhfdpdgnbfaa
