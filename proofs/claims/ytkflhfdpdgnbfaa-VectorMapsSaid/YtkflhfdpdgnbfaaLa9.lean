/- Labels whose names are among some, or are not: pick. -/
import Derived.Test.YtkflhfdpdgnbfaaLa8
import Derived.OwnWalk
namespace Go.Proofs.Ytkflhfdpdgnbfaa
open Go.RowKit
set_option linter.unusedVariables false
set_option linter.unusedSimpArgs false
set_option maxRecDepth 100000
theorem Try.infoLb : (Try.prog.info? 49).map (fun i => (i.zero, i.size, i.bytes)) = some (some (.agg #[.string ⟨#[]⟩, .string ⟨#[]⟩]), 2, 32) := by kernel_rfl
def pickL (names : List ByteArray) (among : Bool) (l : List Lb) : List Lb := l.filter fun x => hasL names x.1 == among
theorem pick_snoc (names : List ByteArray) (among : Bool) (l : List Lb) (k : Nat) (h : k < l.length) : pickL names among (l.take (k + 1)) = pickL names among (l.take k) ++ if hasL names (lx l k).1 == among then [lx l k] else [] := by
  unfold pickL
  rw [lx_at h, List.take_succ_eq_append_getElem h, List.filter_append]
  congr 1
  by_cases h : (hasL names l[k].1 == among) = true <;> simp [h]
theorem pick_len (names : List ByteArray) (among : Bool) (l : List Lb) : (pickL names among l).length ≤ l.length := List.length_filter_le _ _
theorem pick_take_len (names : List ByteArray) (among : Bool) (l : List Lb) (k : Nat) : (pickL names among (l.take k)).length ≤ l.length := Nat.le_trans (pick_len _ _ _) (by simp; omega)
set_option maxHeartbeats 2000000 in
theorem pick_own (v vn : Value) (l : List Lb) (names : List ByteArray) (among : Bool) (w : World) (h : Sl lenc w v l) (hn : Sl senc1 w vn names) (hl : l.length ≤ 1000000) :
    Calls Try.prog 81 #[v, vn, .bool among] w fun e w' => ∃ v', e = .returned v' ∧ w'.ownsRow w.heap.size 49 2 v' (pickL names among l).length ((pickL names among l).flatMap lenc) ∧ Below w.heap.size w w' := by
  obtain ⟨a, cap, rfl, hlen, -, hc⟩ := h.split lenc_len
  have HC := Lib.hid hc
  have HN := Lib.hid hn
  clear hc h hn
  obtain ⟨i0, hi, hz0, hz1, hz2⟩ := info_parts Try.infoLb
  go_enter Try.func81, Try.ntmps81
  go_wp2_with fail
  go_step3
  go_wp2_with fail
  go_step3
  go_wp2_with fail
  go_loopw [7, 12] (fun v i wr => ∃ (k : Nat), k ≤ l.length ∧ i = .int .i64 k ∧ wr.ownsRow w.heap.size 49 2 v (pickL names among (l.take k)).length ((pickL names among (l.take k)).flatMap lenc) ∧ Below w.heap.size w wr) (fun _ i _ => l.length - (intOf i).toNat)
  case atStart => exact ⟨0, Nat.zero_le _, rfl, by simpa [pickL] using World.ownsRow_nil _ _ _ _, Below.refl _ _⟩
  case round =>
    obtain ⟨k, hk, rfl, hown, hb⟩ := hrel
    have hB := hb.size
    have HO := Lib.hid hown
    have HB := Lib.hid hb
    by_cases hlt : k < l.length
    · obtain ⟨b, off, rfl, k0, k1⟩ := lab_cells HC.out hb (Nat.le_refl _) hlt
      have HS := Lib.hid (pick_snoc names among l k hlt)
      have hct := pick_take_len names among l k
      generalize lx l k = x at k0 k1 HS
      clear hb
      obtain ⟨t, y⟩ := x
      simp only at k0 k1
      have hk0 : (0 : Int) ≤ (k : Int) := Int.natCast_nonneg _
      have hk1 : (k : Int) < (l.length : Int) := by omega
      have HCT := Lib.hid (contains_any vn names t (wr.alloc (.cells #[.string t, .string y] 49)) (HN.out.below (HB.out.alloc hB _) (Nat.le_refl _)))
      go_wp2_with fail
      refine HCT.out.mono ?_
      rintro e w1 ⟨rfl, rfl⟩
      by_cases he : (hasL names t == among) = true
      · have he2 : hasL names t = among := by simpa using he
        rw [he2]
        have HE := Lib.hid he
        clear he
        have hbe : (among == among) = true := by simp
        go_wp2_with (at_builtin; refine wpList_append_own _ rfl _ _ 33 rfl w.heap.size 49 i0 (.agg #[.string ⟨#[]⟩, .string ⟨#[]⟩]) 2 32 Try.underlying33 hi hz0 hz1 hz2 rfl (by decide) _ _ _ rfl ((hown.alloc _).alloc _) ⟨wr.heap.size + 1, 0, none⟩ 1 1 [.string t, .string y] rfl rfl ?c1 ?c2 ?c3 ?c4 ?c5 ?_)
        case c1 => have := two_new (wr.alloc (.cells #[.string t, .string y] 49)) (.string t) (.string y) 49; simpa using this
        case c2 => intro u hu; simp at hu; rcases hu with rfl | rfl <;> rfl
        case c3 => unfold maxLen; omega
        case c4 => omega
        case c5 => simp; omega
        intro v' w1 hown' hgrow _
        have HG := Lib.hid hgrow
        have HO' := Lib.hid hown'
        clear hown hgrow hown'
        go_wp2_with fail
        go_roundw
        case rel =>
          refine ⟨k + 1, by omega, by go_num, ?_, ((HB.out.alloc hB _).alloc (by simp; omega) _).grown HG.out (by simp; omega) (fun j hj => (HO.out.lt j hj).1)⟩
          rw [HS.out, HE.out]
          simp only [if_true, List.length_append, List.flatMap_append]
          exact HO'.out
        case measure => simp [intOf]; omega
      · have he1 : (hasL names t == among) = false := by simpa using he
        have he2 : hasL names t = !among := by cases h1 : hasL names t <;> cases among <;> simp_all
        have HE := Lib.hid he1
        rw [he2]
        clear he he1
        have hbe : ((!among) == among) = false := by cases among <;> rfl
        go_wp2_with fail
        go_roundw
        case rel =>
          refine ⟨k + 1, by omega, by go_num, ?_, HB.out.alloc hB _⟩
          rw [HS.out, HE.out]
          simpa using HO.out.alloc _
        case measure => simp [intOf]; omega
    · obtain rfl : k = l.length := by omega
      rw [List.take_of_length_le (Nat.le_refl _)] at hown
      have HOW := Lib.hid hown
      clear hown
      go_wp2_with fail
      try rw [Exit.noGoto_ret]
      go_ret
      exact ⟨_, rfl, HOW.out, HB.out⟩
theorem pick_any (v vn : Value) (l : List Lb) (names : List ByteArray) (among : Bool) (w : World) (h : Sl lenc w v l) (hn : Sl senc1 w vn names) (hl : l.length ≤ 1000000) :
    Calls Try.prog 81 #[v, vn, .bool among] w fun e w' => ∃ v', e = .returned v' ∧ Sl lenc w' v' (pickL names among l) ∧ Below w.heap.size w w' := by
  refine (pick_own v vn l names among w h hn hl).mono ?_
  rintro e w' ⟨v', rfl, ho, hb⟩
  exact ⟨v', rfl, Sl.own lenc_len (by decide) ho, hb⟩
theorem drop_any (v vn : Value) (l : List Lb) (names : List ByteArray) (w : World) (h : Sl lenc w v l) (hn : Sl senc1 w vn names) (hl : l.length ≤ 1000000) :
    Calls Try.prog 65 #[v, vn] w fun e w' => ∃ v', e = .returned v' ∧ Sl lenc w' v' (pickL names false l) ∧ Below w.heap.size w w' := by
  have HF := Lib.hid (pick_any v vn l names false w h hn hl)
  clear h hn
  go_enter Try.func65, Try.ntmps65
  go_wp2_with fail
  refine HF.out.mono ?_
  rintro e w1 ⟨v', rfl, hs, hb⟩
  go_wp2_with fail
  go_ret
  exact ⟨_, rfl, hs, hb⟩
theorem drop_own (v vn : Value) (l : List Lb) (names : List ByteArray) (w : World) (h : Sl lenc w v l) (hn : Sl senc1 w vn names) (hl : l.length ≤ 1000000) :
    Calls Try.prog 65 #[v, vn] w fun e w' => ∃ v', e = .returned v' ∧ w'.ownsRow w.heap.size 49 2 v' (pickL names false l).length ((pickL names false l).flatMap lenc) ∧ Below w.heap.size w w' := by
  have HF := Lib.hid (pick_own v vn l names false w h hn hl)
  clear h hn
  go_enter Try.func65, Try.ntmps65
  go_wp2_with fail
  refine HF.out.mono ?_
  rintro e w1 ⟨v', rfl, hs, hb⟩
  go_wp2_with fail
  go_ret
  exact ⟨_, rfl, hs, hb⟩
set_option maxHeartbeats 2000000 in
theorem rdrop_any (v vn : Value) (l : List Lb) (names : List ByteArray) (w : World) (h : Sl lenc w v l) (hn : Sl senc1 w vn names) (hl : l.length ≤ 1000000) :
    Calls Try.prog 70 #[v, vn] w fun e w' => ∃ v', e = .returned v' ∧ Sl lenc w' v' (pickL names false l) ∧ Below w.heap.size w w' := by
  obtain ⟨a, cap, rfl, hlen, -, hc⟩ := h.split lenc_len
  have HC := Lib.hid hc
  have HN := Lib.hid hn
  clear hc h hn
  obtain ⟨i0, hi, hz0, hz1, hz2⟩ := info_parts Try.infoLb
  go_enter Try.func70, Try.ntmps70
  go_wp2_with fail
  go_loopw [5, 6] (fun v i wr => ∃ (k : Nat), k ≤ l.length ∧ i = .int .i64 k ∧ wr.ownsRow w.heap.size 49 2 v (pickL names false (l.take k)).length ((pickL names false (l.take k)).flatMap lenc) ∧ Below w.heap.size w wr) (fun _ i _ => l.length - (intOf i).toNat)
  case atStart => exact ⟨0, Nat.zero_le _, rfl, by simpa [pickL] using World.ownsRow_nil _ _ _ _, Below.refl _ _⟩
  case round =>
    obtain ⟨k, hk, rfl, hown, hb⟩ := hrel
    have hB := hb.size
    have HO := Lib.hid hown
    have HB := Lib.hid hb
    by_cases hlt : k < l.length
    · obtain ⟨b, off, rfl, k0, k1⟩ := lab_cells HC.out hb (Nat.le_refl _) hlt
      have HS := Lib.hid (pick_snoc names false l k hlt)
      have hct := pick_take_len names false l k
      generalize lx l k = x at k0 k1 HS
      clear hb
      obtain ⟨t, y⟩ := x
      simp only at k0 k1
      have hk0 : (0 : Int) ≤ (k : Int) := Int.natCast_nonneg _
      have hk1 : (k : Int) < (l.length : Int) := by omega
      have HCT := Lib.hid (rhas_any vn names t wr (HN.out.below HB.out (Nat.le_refl _)))
      go_wp2_with fail
      refine HCT.out.mono ?_
      rintro e w1 ⟨rfl, rfl⟩
      by_cases he : (hasL names t == false) = true
      · have he2 : hasL names t = false := by simpa using he
        rw [he2]
        have HE := Lib.hid he
        clear he
        go_wp2_with (at_builtin; refine wpList_append_own _ rfl _ _ 33 rfl w.heap.size 49 i0 (.agg #[.string ⟨#[]⟩, .string ⟨#[]⟩]) 2 32 Try.underlying33 hi hz0 hz1 hz2 rfl (by decide) _ _ _ rfl (hown.alloc _) ⟨w1.heap.size, 0, none⟩ 1 1 [.string t, .string y] rfl rfl ?c1 ?c2 ?c3 ?c4 ?c5 ?_)
        case c1 => have := two_new w1 (.string t) (.string y) 49; simpa using this
        case c2 => intro u hu; simp at hu; rcases hu with rfl | rfl <;> rfl
        case c3 => unfold maxLen; omega
        case c4 => omega
        case c5 => simp; omega
        intro v' w2 hown' hgrow _
        have HG := Lib.hid hgrow
        have HO' := Lib.hid hown'
        clear hown hgrow hown'
        go_wp2_with fail
        go_roundw
        case rel =>
          refine ⟨k + 1, by omega, by go_num, ?_, (HB.out.alloc hB _).grown HG.out (by simp; omega) (fun j hj => (HO.out.lt j hj).1)⟩
          rw [HS.out, HE.out]
          simp only [if_true, List.length_append, List.flatMap_append]
          exact HO'.out
        case measure => simp [intOf]; omega
      · have he1 : (hasL names t == false) = false := by simpa using he
        have he2 : hasL names t = !false := by cases h1 : hasL names t <;> simp_all
        have HE := Lib.hid he1
        rw [he2]
        clear he he1
        go_wp2_with fail
        go_roundw
        case rel =>
          refine ⟨k + 1, by omega, by go_num, ?_, HB.out⟩
          rw [HS.out, HE.out]
          simpa using HO.out
        case measure => simp [intOf]; omega
    · obtain rfl : k = l.length := by omega
      have hsl : Sl lenc wr u5 (pickL names false l) := Sl.own lenc_len (by decide) (by rw [List.take_of_length_le (Nat.le_refl _)] at hown; exact hown)
      go_wp2_with fail
      go_ret
      exact ⟨_, rfl, hsl, HB.out⟩
end Go.Proofs.Ytkflhfdpdgnbfaa
