/- Labels whose names are among some, or are not: pick. A list's copy: slices.Clone. The library's stable sort, in plain words: what exchanges of ranges, rotations and merges make of a row. A row of one's own, sorted in its place: how it is met and how it is read behind. Labels, sorted by their names. labels.Set. Sets of labels, in plain words: what a sorted list without its empty ones is; the document's insertion. The document's put: a label into a list that rises. (Several texts in one file, by merge.py.) -/
import Derived.Test.YtogjcaakfnfapaaGreatDoorZC2
import Derived.OwnWalk
import Derived.Test.YtogjcaakfnfapaaGreatDoorZC1
import Derived.Shelf.SlSortCmp.KitK
import Derived.Sort.LotA
import Derived.Sort.LotD2
import Derived.Laws.OwnMore
import Derived.Deep.RegionHeld3
import Derived.Deep.AppendLies
import Derived.Deep.DrawnRows
import Derived.Outline
namespace Go.Proofs.YtogjcaakfnfapaaGreatDoor
open Go.RowKit
set_option linter.unusedVariables false
set_option linter.unusedSimpArgs false
set_option maxRecDepth 100000
theorem Tryz.infoLb : (Tryz.prog.info? 46).map (fun i => (i.zero, i.size, i.bytes)) = some (some (.agg #[.string ⟨#[]⟩, .string ⟨#[]⟩]), 2, 32) := by kernel_rfl
def pickL (names : List ByteArray) (among : Bool) (l : List Lb) : List Lb := l.filter fun x => hasL names x.1 == among
theorem pick_snoc (names : List ByteArray) (among : Bool) (l : List Lb) (k : Nat) (h : k < l.length) : pickL names among (l.take (k + 1)) = pickL names among (l.take k) ++ if hasL names (lx l k).1 == among then [lx l k] else [] := by
  unfold pickL
  rw [lx_at h, List.take_succ_eq_append_getElem h, List.filter_append]
  congr 1
  by_cases h : (hasL names l[k].1 == among) = true <;> simp [h]
theorem pick_len (names : List ByteArray) (among : Bool) (l : List Lb) : (pickL names among l).length ≤ l.length := List.length_filter_le _ _
theorem pick_take_len (names : List ByteArray) (among : Bool) (l : List Lb) (k : Nat) : (pickL names among (l.take k)).length ≤ l.length := Nat.le_trans (pick_len _ _ _) (by simp; omega)
set_option maxHeartbeats 2000000 in
theorem pick_own (v vn : Value) (l : List Lb) (names : List ByteArray) (among : Bool) (w : World) (h : Sl lenc w v l) (hn : Sl senc1 w vn names) (hl : l.length ≤ 1000000) :
    Calls Tryz.prog 93 #[v, vn, .bool among] w fun e w' => ∃ v', e = .returned v' ∧ w'.ownsRow w.heap.size 46 2 v' (pickL names among l).length ((pickL names among l).flatMap lenc) ∧ Below w.heap.size w w' := by
  obtain ⟨a, cap, rfl, hlen, -, hc⟩ := h.split lenc_len
  have HC := Lib.hid hc
  have HN := Lib.hid hn
  clear hc h hn
  obtain ⟨i0, hi, hz0, hz1, hz2⟩ := info_parts Tryz.infoLb
  go_enter Tryz.func93, Tryz.ntmps93
  go_wp2_with fail
  go_step3
  go_wp2_with fail
  go_step3
  go_wp2_with fail
  go_loopw [7, 12] (fun v i wr => ∃ (k : Nat), k ≤ l.length ∧ i = .int .i64 k ∧ wr.ownsRow w.heap.size 46 2 v (pickL names among (l.take k)).length ((pickL names among (l.take k)).flatMap lenc) ∧ Below w.heap.size w wr) (fun _ i _ => l.length - (intOf i).toNat)
  case atStart => exact ⟨0, Nat.zero_le _, rfl, by simpa [pickL] using World.ownsRow_nil _ _ _ _, Below.refl _ _⟩
  case round =>
    obtain ⟨k, hk, rfl, hown, hb⟩ := hrel
    have hB := hb.size
    have HO := Lib.hid hown
    have HB := Lib.hid hb
    by_cases hlt : k < l.length
    · obtain ⟨b, off, rfl, k0, k1⟩ := lab_cells HC.out hb (Nat.le_refl _) hlt
      have HS := Lib.hid (pick_snoc names among l k hlt)
      have hct := pick_take_len names among l k
      generalize lx l k = x at k0 k1 HS
      clear hb
      obtain ⟨t, y⟩ := x
      simp only at k0 k1
      have hk0 : (0 : Int) ≤ (k : Int) := Int.natCast_nonneg _
      have hk1 : (k : Int) < (l.length : Int) := by omega
      have HCT := Lib.hid (contains_any vn names t (wr.alloc (.cells #[.string t, .string y] 46)) (HN.out.below (HB.out.alloc hB _) (Nat.le_refl _)))
      go_wp2_with fail
      refine HCT.out.mono ?_
      rintro e w1 ⟨rfl, rfl⟩
      by_cases he : (hasL names t == among) = true
      · have he2 : hasL names t = among := by simpa using he
        rw [he2]
        have HE := Lib.hid he
        clear he
        have hbe : (among == among) = true := by simp
        go_wp2_with (at_builtin; refine wpList_append_own _ rfl _ _ 47 rfl w.heap.size 46 i0 (.agg #[.string ⟨#[]⟩, .string ⟨#[]⟩]) 2 32 Tryz.underlying47 hi hz0 hz1 hz2 rfl (by decide) _ _ _ rfl ((hown.alloc _).alloc _) ⟨wr.heap.size + 1, 0, none⟩ 1 1 [.string t, .string y] rfl rfl ?c1 ?c2 ?c3 ?c4 ?c5 ?_)
        case c1 => have := two_new (wr.alloc (.cells #[.string t, .string y] 46)) (.string t) (.string y) 46; simpa using this
        case c2 => intro u hu; simp at hu; rcases hu with rfl | rfl <;> rfl
        case c3 => unfold maxLen; omega
        case c4 => omega
        case c5 => simp; omega
        intro v' w1 hown' hgrow _
        have HG := Lib.hid hgrow
        have HO' := Lib.hid hown'
        clear hown hgrow hown'
        go_wp2_with fail
        go_roundw
        case rel =>
          refine ⟨k + 1, by omega, by go_num, ?_, ((HB.out.alloc hB _).alloc (by simp; omega) _).grown HG.out (by simp; omega) (fun j hj => (HO.out.lt j hj).1)⟩
          rw [HS.out, HE.out]
          simp only [if_true, List.length_append, List.flatMap_append]
          exact HO'.out
        case measure => simp [intOf]; omega
      · have he1 : (hasL names t == among) = false := by simpa using he
        have he2 : hasL names t = !among := by cases h1 : hasL names t <;> cases among <;> simp_all
        have HE := Lib.hid he1
        rw [he2]
        clear he he1
        have hbe : ((!among) == among) = false := by cases among <;> rfl
        go_wp2_with fail
        go_roundw
        case rel =>
          refine ⟨k + 1, by omega, by go_num, ?_, HB.out.alloc hB _⟩
          rw [HS.out, HE.out]
          simpa using HO.out.alloc _
        case measure => simp [intOf]; omega
    · obtain rfl : k = l.length := by omega
      rw [List.take_of_length_le (Nat.le_refl _)] at hown
      have HOW := Lib.hid hown
      clear hown
      go_wp2_with fail
      try rw [Exit.noGoto_ret]
      go_ret
      exact ⟨_, rfl, HOW.out, HB.out⟩
theorem pick_any (v vn : Value) (l : List Lb) (names : List ByteArray) (among : Bool) (w : World) (h : Sl lenc w v l) (hn : Sl senc1 w vn names) (hl : l.length ≤ 1000000) :
    Calls Tryz.prog 93 #[v, vn, .bool among] w fun e w' => ∃ v', e = .returned v' ∧ Sl lenc w' v' (pickL names among l) ∧ Below w.heap.size w w' := by
  refine (pick_own v vn l names among w h hn hl).mono ?_
  rintro e w' ⟨v', rfl, ho, hb⟩
  exact ⟨v', rfl, Sl.own lenc_len (by decide) ho, hb⟩
theorem keep_any (v vn : Value) (l : List Lb) (names : List ByteArray) (w : World) (h : Sl lenc w v l) (hn : Sl senc1 w vn names) (hl : l.length ≤ 1000000) :
    Calls Tryz.prog 92 #[v, vn] w fun e w' => ∃ v', e = .returned v' ∧ Sl lenc w' v' (pickL names true l) ∧ Below w.heap.size w w' := by
  have HF := Lib.hid (pick_any v vn l names true w h hn hl)
  clear h hn
  go_enter Tryz.func92, Tryz.ntmps92
  go_wp2_with fail
  refine HF.out.mono ?_
  rintro e w1 ⟨v', rfl, hs, hb⟩
  go_wp2_with fail
  go_ret
  exact ⟨_, rfl, hs, hb⟩
theorem drop_any (v vn : Value) (l : List Lb) (names : List ByteArray) (w : World) (h : Sl lenc w v l) (hn : Sl senc1 w vn names) (hl : l.length ≤ 1000000) :
    Calls Tryz.prog 80 #[v, vn] w fun e w' => ∃ v', e = .returned v' ∧ Sl lenc w' v' (pickL names false l) ∧ Below w.heap.size w w' := by
  have HF := Lib.hid (pick_any v vn l names false w h hn hl)
  clear h hn
  go_enter Tryz.func80, Tryz.ntmps80
  go_wp2_with fail
  refine HF.out.mono ?_
  rintro e w1 ⟨v', rfl, hs, hb⟩
  go_wp2_with fail
  go_ret
  exact ⟨_, rfl, hs, hb⟩
theorem drop_own (v vn : Value) (l : List Lb) (names : List ByteArray) (w : World) (h : Sl lenc w v l) (hn : Sl senc1 w vn names) (hl : l.length ≤ 1000000) :
    Calls Tryz.prog 80 #[v, vn] w fun e w' => ∃ v', e = .returned v' ∧ w'.ownsRow w.heap.size 46 2 v' (pickL names false l).length ((pickL names false l).flatMap lenc) ∧ Below w.heap.size w w' := by
  have HF := Lib.hid (pick_own v vn l names false w h hn hl)
  clear h hn
  go_enter Tryz.func80, Tryz.ntmps80
  go_wp2_with fail
  refine HF.out.mono ?_
  rintro e w1 ⟨v', rfl, hs, hb⟩
  go_wp2_with fail
  go_ret
  exact ⟨_, rfl, hs, hb⟩
set_option maxHeartbeats 2000000 in
theorem rkeep_any (v vn : Value) (l : List Lb) (names : List ByteArray) (w : World) (h : Sl lenc w v l) (hn : Sl senc1 w vn names) (hl : l.length ≤ 1000000) :
    Calls Tryz.prog 82 #[v, vn] w fun e w' => ∃ v', e = .returned v' ∧ Sl lenc w' v' (pickL names true l) ∧ Below w.heap.size w w' := by
  obtain ⟨a, cap, rfl, hlen, -, hc⟩ := h.split lenc_len
  have HC := Lib.hid hc
  have HN := Lib.hid hn
  clear hc h hn
  obtain ⟨i0, hi, hz0, hz1, hz2⟩ := info_parts Tryz.infoLb
  go_enter Tryz.func82, Tryz.ntmps82
  go_wp2_with fail
  go_loopw [5, 6] (fun v i wr => ∃ (k : Nat), k ≤ l.length ∧ i = .int .i64 k ∧ wr.ownsRow w.heap.size 46 2 v (pickL names true (l.take k)).length ((pickL names true (l.take k)).flatMap lenc) ∧ Below w.heap.size w wr) (fun _ i _ => l.length - (intOf i).toNat)
  case atStart => exact ⟨0, Nat.zero_le _, rfl, by simpa [pickL] using World.ownsRow_nil _ _ _ _, Below.refl _ _⟩
  case round =>
    obtain ⟨k, hk, rfl, hown, hb⟩ := hrel
    have hB := hb.size
    have HO := Lib.hid hown
    have HB := Lib.hid hb
    by_cases hlt : k < l.length
    · obtain ⟨b, off, rfl, k0, k1⟩ := lab_cells HC.out hb (Nat.le_refl _) hlt
      have HS := Lib.hid (pick_snoc names true l k hlt)
      have hct := pick_take_len names true l k
      generalize lx l k = x at k0 k1 HS
      clear hb
      obtain ⟨t, y⟩ := x
      simp only at k0 k1
      have hk0 : (0 : Int) ≤ (k : Int) := Int.natCast_nonneg _
      have hk1 : (k : Int) < (l.length : Int) := by omega
      have HCT := Lib.hid (rhas_any vn names t wr (HN.out.below HB.out (Nat.le_refl _)))
      go_wp2_with fail
      refine HCT.out.mono ?_
      rintro e w1 ⟨rfl, rfl⟩
      by_cases he : (hasL names t == true) = true
      · have he2 : hasL names t = true := by simpa using he
        rw [he2]
        have HE := Lib.hid he
        clear he
        go_wp2_with (at_builtin; refine wpList_append_own _ rfl _ _ 47 rfl w.heap.size 46 i0 (.agg #[.string ⟨#[]⟩, .string ⟨#[]⟩]) 2 32 Tryz.underlying47 hi hz0 hz1 hz2 rfl (by decide) _ _ _ rfl (hown.alloc _) ⟨w1.heap.size, 0, none⟩ 1 1 [.string t, .string y] rfl rfl ?c1 ?c2 ?c3 ?c4 ?c5 ?_)
        case c1 => have := two_new w1 (.string t) (.string y) 46; simpa using this
        case c2 => intro u hu; simp at hu; rcases hu with rfl | rfl <;> rfl
        case c3 => unfold maxLen; omega
        case c4 => omega
        case c5 => simp; omega
        intro v' w2 hown' hgrow _
        have HG := Lib.hid hgrow
        have HO' := Lib.hid hown'
        clear hown hgrow hown'
        go_wp2_with fail
        go_roundw
        case rel =>
          refine ⟨k + 1, by omega, by go_num, ?_, (HB.out.alloc hB _).grown HG.out (by simp; omega) (fun j hj => (HO.out.lt j hj).1)⟩
          rw [HS.out, HE.out]
          simp only [if_true, List.length_append, List.flatMap_append]
          exact HO'.out
        case measure => simp [intOf]; omega
      · have he1 : (hasL names t == true) = false := by simpa using he
        have he2 : hasL names t = !true := by cases h1 : hasL names t <;> simp_all
        have HE := Lib.hid he1
        rw [he2]
        clear he he1
        go_wp2_with fail
        go_roundw
        case rel =>
          refine ⟨k + 1, by omega, by go_num, ?_, HB.out⟩
          rw [HS.out, HE.out]
          simpa using HO.out
        case measure => simp [intOf]; omega
    · obtain rfl : k = l.length := by omega
      have hsl : Sl lenc wr u5 (pickL names true l) := Sl.own lenc_len (by decide) (by rw [List.take_of_length_le (Nat.le_refl _)] at hown; exact hown)
      go_wp2_with fail
      go_ret
      exact ⟨_, rfl, hsl, HB.out⟩
set_option maxHeartbeats 2000000 in
theorem rdrop_any (v vn : Value) (l : List Lb) (names : List ByteArray) (w : World) (h : Sl lenc w v l) (hn : Sl senc1 w vn names) (hl : l.length ≤ 1000000) :
    Calls Tryz.prog 59 #[v, vn] w fun e w' => ∃ v', e = .returned v' ∧ Sl lenc w' v' (pickL names false l) ∧ Below w.heap.size w w' := by
  obtain ⟨a, cap, rfl, hlen, -, hc⟩ := h.split lenc_len
  have HC := Lib.hid hc
  have HN := Lib.hid hn
  clear hc h hn
  obtain ⟨i0, hi, hz0, hz1, hz2⟩ := info_parts Tryz.infoLb
  go_enter Tryz.func59, Tryz.ntmps59
  go_wp2_with fail
  go_loopw [5, 6] (fun v i wr => ∃ (k : Nat), k ≤ l.length ∧ i = .int .i64 k ∧ wr.ownsRow w.heap.size 46 2 v (pickL names false (l.take k)).length ((pickL names false (l.take k)).flatMap lenc) ∧ Below w.heap.size w wr) (fun _ i _ => l.length - (intOf i).toNat)
  case atStart => exact ⟨0, Nat.zero_le _, rfl, by simpa [pickL] using World.ownsRow_nil _ _ _ _, Below.refl _ _⟩
  case round =>
    obtain ⟨k, hk, rfl, hown, hb⟩ := hrel
    have hB := hb.size
    have HO := Lib.hid hown
    have HB := Lib.hid hb
    by_cases hlt : k < l.length
    · obtain ⟨b, off, rfl, k0, k1⟩ := lab_cells HC.out hb (Nat.le_refl _) hlt
      have HS := Lib.hid (pick_snoc names false l k hlt)
      have hct := pick_take_len names false l k
      generalize lx l k = x at k0 k1 HS
      clear hb
      obtain ⟨t, y⟩ := x
      simp only at k0 k1
      have hk0 : (0 : Int) ≤ (k : Int) := Int.natCast_nonneg _
      have hk1 : (k : Int) < (l.length : Int) := by omega
      have HCT := Lib.hid (rhas_any vn names t wr (HN.out.below HB.out (Nat.le_refl _)))
      go_wp2_with fail
      refine HCT.out.mono ?_
      rintro e w1 ⟨rfl, rfl⟩
      by_cases he : (hasL names t == false) = true
      · have he2 : hasL names t = false := by simpa using he
        rw [he2]
        have HE := Lib.hid he
        clear he
        go_wp2_with (at_builtin; refine wpList_append_own _ rfl _ _ 47 rfl w.heap.size 46 i0 (.agg #[.string ⟨#[]⟩, .string ⟨#[]⟩]) 2 32 Tryz.underlying47 hi hz0 hz1 hz2 rfl (by decide) _ _ _ rfl (hown.alloc _) ⟨w1.heap.size, 0, none⟩ 1 1 [.string t, .string y] rfl rfl ?c1 ?c2 ?c3 ?c4 ?c5 ?_)
        case c1 => have := two_new w1 (.string t) (.string y) 46; simpa using this
        case c2 => intro u hu; simp at hu; rcases hu with rfl | rfl <;> rfl
        case c3 => unfold maxLen; omega
        case c4 => omega
        case c5 => simp; omega
        intro v' w2 hown' hgrow _
        have HG := Lib.hid hgrow
        have HO' := Lib.hid hown'
        clear hown hgrow hown'
        go_wp2_with fail
        go_roundw
        case rel =>
          refine ⟨k + 1, by omega, by go_num, ?_, (HB.out.alloc hB _).grown HG.out (by simp; omega) (fun j hj => (HO.out.lt j hj).1)⟩
          rw [HS.out, HE.out]
          simp only [if_true, List.length_append, List.flatMap_append]
          exact HO'.out
        case measure => simp [intOf]; omega
      · have he1 : (hasL names t == false) = false := by simpa using he
        have he2 : hasL names t = !false := by cases h1 : hasL names t <;> simp_all
        have HE := Lib.hid he1
        rw [he2]
        clear he he1
        go_wp2_with fail
        go_roundw
        case rel =>
          refine ⟨k + 1, by omega, by go_num, ?_, HB.out⟩
          rw [HS.out, HE.out]
          simpa using HO.out
        case measure => simp [intOf]; omega
    · obtain rfl : k = l.length := by omega
      have hsl : Sl lenc wr u5 (pickL names false l) := Sl.own lenc_len (by decide) (by rw [List.take_of_length_le (Nat.le_refl _)] at hown; exact hown)
      go_wp2_with fail
      go_ret
      exact ⟨_, rfl, hsl, HB.out⟩
end Go.Proofs.YtogjcaakfnfapaaGreatDoor
namespace Go.Proofs.YtogjcaakfnfapaaGreatDoor
open Go.RowKit
set_option linter.unusedVariables false
set_option linter.unusedSimpArgs false
set_option maxRecDepth 100000
theorem oneCell_flat (l : List Lb) : ∀ u ∈ l.flatMap lenc, u.oneCell' = true := by
  intro u hu
  rw [List.mem_flatMap] at hu
  obtain ⟨x, _, hx⟩ := hu
  simp [lenc] at hx
  rcases hx with rfl | rfl <;> rfl
set_option maxHeartbeats 2000000 in
theorem clone_any (v : Value) (l : List Lb) (w : World) (h : Sl lenc w v l) (hl : l.length ≤ 1000000) :
    Calls Tryz.prog 45 #[v] w fun e w' => ∃ v', e = .returned v' ∧ w'.ownsRow w.heap.size 46 2 v' l.length (l.flatMap lenc) ∧ Below w.heap.size w w' := by
  obtain ⟨a, cap, rfl, hlen, hnone, hc⟩ := h.len (fun x => by rw [lenc_len]; decide)
  obtain ⟨i0, hi, hz0, hz1, hz2⟩ := info_parts Tryz.infoLb
  cases a with
  | none =>
    obtain ⟨rfl, rfl⟩ := hnone rfl
    have he : ∀ w : World, (binOp .eql 47 (.slice none 0 0) (.slice none 0 0)).run Tryz.prog w = .ok (.bool true) w := fun _ => rfl
    go_enter Tryz.func45, Tryz.ntmps45
    go_wp2_with fail
    go_ret
    exact ⟨_, rfl, by simpa using World.ownsRow_nil _ _ _ _, Below.refl _ _⟩
  | some ad =>
    have HCC := Lib.hid hc
    have he : ∀ (n c : Nat) (w : World), (binOp .eql 47 (.slice (some ad) n c) (.slice none 0 0)).run Tryz.prog w = .ok (.bool false) w := fun _ _ _ => rfl
    have hb0 : Below w.heap.size w (w.alloc (.cells #[] 46)) := (Below.refl _ _).alloc (Nat.le_refl _) _
    have hslb := Sl.below h hb0 (Nat.le_refl _)
    obtain ⟨a2, cap2, e2, -, -, hc2⟩ := hslb.len (fun x => by rw [lenc_len]; decide)
    injection e2 with e2 e3 e4
    subst e2
    have HC2 := Lib.hid hc2
    clear hc hc2 hslb hnone h
    have HF1 := Lib.hid (flat_length lenc_len l)
    have HF2 := Lib.hid (oneCell_flat l)
    generalize l.flatMap lenc = F at HF1 HF2 HC2 ⊢
    go_enter Tryz.func45, Tryz.ntmps45
    go_wp2_with (at_builtin; refine wpList_append_rd rfl (.tmp 5) (.tmp 6) _ rfl w.heap.size 46 i0 (.agg #[.string ⟨#[]⟩, .string ⟨#[]⟩]) 2 32 Tryz.underlying47 hi hz0 hz1 hz2 rfl (by decide) _ 0 [] rfl (owns_lit (heap_new _ _) (Nat.le_refl _)) _ _ _ F rfl ?e1 ?e2 ?e3 ?e4 ?e5 ?e6 ?e7 ?_)
    case e2 => exact HF1.out
    case e3 => exact HC2.out ad rfl
    case e4 => exact HF2.out
    case e5 => unfold maxLen; omega
    case e6 => omega
    intro v' w1 hown hgrow
    have HO := Lib.hid hown
    have HG := Lib.hid hgrow
    clear hown hgrow
    go_wp2_with fail
    go_ret
    exact ⟨_, rfl, by simpa using HO.out, hb0.grown HG.out (by simp) (fun j hj => by simp [Value.ownBlock] at hj; omega)⟩
end Go.Proofs.YtogjcaakfnfapaaGreatDoor
namespace Go.Proofs.YtogjcaakfnfapaaGreatDoor
open Go.Sort
set_option linter.unusedVariables false
set_option linter.unusedSimpArgs false

theorem not_lt_of {β : Type} {lt : β → β → Bool} {x y : β} (hS : SWO lt) (h : lt x y = true) : lt y x = false := by
  cases h2 : lt y x with
  | false => rfl
  | true => have := hS.trans _ _ _ h h2; rw [hS.irrefl] at this; cases this
section
variable {α : Type} [Inhabited α]
def swapFrom (a b n : Nat) : Nat → Array α → Array α
  | i, d => if h : i < n then swapFrom a b n (i + 1) (swp d (a + i) (b + i)) else d
termination_by i => n - i
theorem swapFrom_size (a b n : Nat) : ∀ (i : Nat) (d : Array α), (swapFrom a b n i d).size = d.size := by
  intro i d
  fun_induction swapFrom a b n i d with
  | case1 i d h ih => rw [ih, size_swp]
  | case2 i d h => rfl
theorem swapFrom_perm (a b n lo hi : Nat) (h1 : lo ≤ a) (h2 : a + n ≤ hi) (h3 : lo ≤ b) (h4 : b + n ≤ hi) : ∀ (i : Nat) (d : Array α), hi ≤ d.size → PermIn lo hi d (swapFrom a b n i d) := by
  intro i d
  fun_induction swapFrom a b n i d with
  | case1 i d h ih => exact fun hs => permIn_trans _ _ _ _ _ (swp_permIn d lo hi (a + i) (b + i) (by omega) (by omega) (by omega) (by omega) hs) (ih (by rw [size_swp]; exact hs))
  | case2 i d h => exact fun _ => permIn_refl _ _ _
theorem swapFrom_at (a b n : Nat) (hd : a + n ≤ b ∨ b + n ≤ a) : ∀ (i : Nat) (d : Array α), a + n ≤ d.size → b + n ≤ d.size → ∀ x, (swapFrom a b n i d)[x]! = if a + i ≤ x ∧ x < a + n then d[b + (x - a)]! else if b + i ≤ x ∧ x < b + n then d[a + (x - b)]! else d[x]! := by
  intro i d
  fun_induction swapFrom a b n i d with
  | case1 i d h ih =>
    intro h1 h2 x
    rw [ih (by rw [size_swp]; exact h1) (by rw [size_swp]; exact h2) x]
    by_cases c1 : a + (i + 1) ≤ x ∧ x < a + n
    · rw [if_pos c1, if_pos (by omega), swp_other _ _ _ _ (by omega) (by omega)]
    · rw [if_neg c1]
      by_cases c2 : b + (i + 1) ≤ x ∧ x < b + n
      · rw [if_pos c2, if_neg (by omega), if_pos (by omega), swp_other _ _ _ _ (by omega) (by omega)]
      · rw [if_neg c2]
        by_cases c3 : x = a + i
        · subst c3
          rw [if_pos (by omega), swp_left _ _ _ (by omega) (by omega)]
          congr 1; omega
        · by_cases c4 : x = b + i
          · subst c4
            rw [if_neg (by omega), if_pos (by omega), swp_right _ _ _ (by omega)]
            congr 1; omega
          · rw [swp_other _ _ _ _ c3 c4, if_neg (by omega), if_neg (by omega)]
  | case2 i d h =>
    intro h1 h2 x
    rw [if_neg (by omega), if_neg (by omega)]

/-- The row, its part from lo to hi turned at m. -/
def rot (lo m hi : Nat) (d : Array α) (x : Nat) : α := if lo ≤ x ∧ x < lo + (hi - m) then d[x - lo + m]! else if lo + (hi - m) ≤ x ∧ x < hi then d[x - (hi - m)]! else d[x]!
theorem rot_more (m i j : Nat) (d : Array α) (hi : i ≤ m) (hij : j < i) (hj : 0 < j) (hs : m + j ≤ d.size) (x : Nat) :
    rot (m - i) m (m + j) d x = rot (m - (i - j)) m (m + j) (swapFrom (m - i) m j 0 d) x := by
  have hat := swapFrom_at (m - i) m j (.inl (by omega)) 0 d (by omega) (by omega)
  simp only [rot, hat]
  repeat' split
  all_goals first | (exfalso; omega) | rfl | (congr 1; omega)
theorem rot_less (m i j : Nat) (d : Array α) (hi : i ≤ m) (hij : i < j) (h0 : 0 < i) (hs : m + j ≤ d.size) (x : Nat) :
    rot (m - i) m (m + j) d x = rot (m - i) m (m + (j - i)) (swapFrom (m - i) (m + j - i) i 0 d) x := by
  have hat := swapFrom_at (m - i) (m + j - i) i (.inl (by omega)) 0 d (by omega) (by omega)
  simp only [rot, hat]
  repeat' split
  all_goals first | (exfalso; omega) | rfl | (congr 1; omega)
theorem rot_end (m i : Nat) (d : Array α) (hi : i ≤ m) (hs : m + i ≤ d.size) (x : Nat) :
    (swapFrom (m - i) m i 0 d)[x]! = rot (m - i) m (m + i) d x := by
  have hat := swapFrom_at (m - i) m i (.inl (by omega)) 0 d (by omega) (by omega)
  rw [hat]
  simp only [rot]
  repeat' split
  all_goals first | (exfalso; omega) | rfl | (congr 1; omega)

variable {lt : α → α → Bool}
/-- Two sorted parts, each of the first before each of the second. -/
theorem sorted_join {a m b : Nat} {d : Array α} (h1 : SortedIn lt a m d) (h2 : SortedIn lt m b d) (h3 : ∀ i j, a ≤ i → i < m → m ≤ j → j < b → lt d[j]! d[i]! = false) : SortedIn lt a b d := by
  intro i j hi hij hj
  by_cases c1 : j < m
  · exact h1 i j hi hij c1
  · by_cases c2 : m ≤ i
    · exact h2 i j c2 hij hj
    · exact h3 i j hi (by omega) (by omega) hj
/-- A sorted part's later one, and an equal place: never less. -/
theorem sorted_le {a b : Nat} {d : Array α} (hS : SWO lt) (h : SortedIn lt a b d) {i j : Nat} (hi : a ≤ i) (hij : i ≤ j) (hj : j < b) : lt d[j]! d[i]! = false := by
  rcases Nat.lt_or_ge i j with c | c
  · exact h i j hi c hj
  · obtain rfl : i = j := by omega
    exact hS.irrefl _
/-- What the merge's one turn brings about: of two sorted parts, parted at 'start' and 'end', turned in the middle. -/
theorem merge_turn {a m b s e : Nat} {d d1 : Array α} (hS : SWO lt) (ham : a ≤ s) (hsm : s ≤ m) (hme : m ≤ e) (heb : e ≤ b) (h1 : SortedIn lt a m d) (h2 : SortedIn lt m b d)
    (hlo : s = a ∨ e = b ∨ lt d[e]! d[s - 1]! = false) (hhi : s = m ∨ e = m ∨ lt d[e - 1]! d[s]! = true) (hr : ∀ x, d1[x]! = rot s m e d x) :
    (∀ x, a ≤ x → x < s → d1[x]! = d[x]!) ∧ (∀ x, e ≤ x → x < b → d1[x]! = d[x]!) ∧ (∀ x, s ≤ x → x < s + (e - m) → d1[x]! = d[x - s + m]!) ∧ (∀ x, s + (e - m) ≤ x → x < e → d1[x]! = d[x - (e - m)]!) ∧
    SortedIn lt a s d1 ∧ SortedIn lt s (s + (e - m)) d1 ∧ SortedIn lt (s + (e - m)) e d1 ∧ SortedIn lt e b d1 ∧
    (∀ i j, a ≤ i → i < s + (e - m) → s + (e - m) ≤ j → j < b → lt d1[j]! d1[i]! = false) := by
  have e1 : ∀ x, x < s → d1[x]! = d[x]! := fun x hx => by rw [hr, rot, if_neg (by omega), if_neg (by omega)]
  have e2 : ∀ x, e ≤ x → d1[x]! = d[x]! := fun x hx => by rw [hr, rot, if_neg (by omega), if_neg (by omega)]
  have e3 : ∀ x, s ≤ x → x < s + (e - m) → d1[x]! = d[x - s + m]! := fun x h h' => by rw [hr, rot, if_pos ⟨h, h'⟩]
  have e4 : ∀ x, s + (e - m) ≤ x → x < e → d1[x]! = d[x - (e - m)]! := fun x h h' => by rw [hr, rot, if_neg (by omega), if_pos ⟨h, h'⟩]
  refine ⟨fun x _ h => e1 x h, fun x h _ => e2 x h, e3, e4, ?_, ?_, ?_, ?_, ?_⟩
  · intro i j hi hij hj
    rw [e1 i (by omega), e1 j hj]
    exact h1 i j hi hij (by omega)
  · intro i j hi hij hj
    rw [e3 i (by omega) (by omega), e3 j (by omega) hj]
    exact h2 _ _ (by omega) (by omega) (by omega)
  · intro i j hi hij hj
    rw [e4 i (by omega) (by omega), e4 j (by omega) hj]
    exact h1 _ _ (by omega) (by omega) (by omega)
  · intro i j hi hij hj
    rw [e2 i (by omega), e2 j (by omega)]
    exact h2 _ _ (by omega) hij hj
  · intro i j hi hij hj1 hj2
    by_cases ci : i < s
    · rw [e1 i ci]
      by_cases cj : j < e
      · rw [e4 j hj1 cj]
        exact sorted_le hS h1 hi (by omega) (by omega)
      · rw [e2 j (by omega)]
        rcases hlo with h | h | h
        · omega
        · omega
        · have a1 : lt d[s - 1]! d[i]! = false := sorted_le hS h1 hi (by omega) (by omega)
          have a2 : lt d[j]! d[e]! = false := sorted_le hS h2 hme (by omega) hj2
          exact hS.ntrans _ _ _ a2 (hS.ntrans _ _ _ h a1)
    · rw [e3 i (by omega) hij]
      by_cases cj : j < e
      · rw [e4 j hj1 cj]
        rcases hhi with h | h | h
        · omega
        · omega
        · have a1 : lt d[e - 1]! d[i - s + m]! = false := sorted_le hS h2 (by omega) (by omega) (by omega)
          have a2 : lt d[j - (e - m)]! d[s]! = false := sorted_le hS h1 ham (by omega) (by omega)
          have a3 : lt d[s]! d[e - 1]! = false := not_lt_of hS h
          exact hS.ntrans _ _ _ a2 (hS.ntrans _ _ _ a3 a1)
      · rw [e2 j (by omega)]
        exact sorted_le hS h2 (by omega) (by omega) hj2
/-- Each half sorted behind the turn: the whole. -/
theorem merge_halves {a mid b : Nat} {d1 d2 d3 : Array α} (hb : b ≤ d1.size) (ham : a ≤ mid) (hmb : mid ≤ b) (hx : ∀ i j, a ≤ i → i < mid → mid ≤ j → j < b → lt d1[j]! d1[i]! = false)
    (p1 : PermIn a mid d1 d2) (s1 : SortedIn lt a mid d2) (p2 : PermIn mid b d2 d3) (s2 : SortedIn lt mid b d3) : PermIn a b d1 d3 ∧ SortedIn lt a b d3 := by
  have hsz2 : d2.size = d1.size := p1.1
  refine ⟨permIn_trans _ _ _ _ _ (permIn_mono _ _ a mid a b (Nat.le_refl _) hmb hb p1) (permIn_mono _ _ mid b a b ham (Nat.le_refl _) (by omega) p2), ?_⟩
  have q1 : ∀ i j, a ≤ i → i < mid → mid ≤ j → j < b → lt d2[j]! d2[i]! = false := by
    intro i j hi hi2 hj hj2
    rw [p1.2.1 j (.inr hj)]
    exact permIn_all d1 d2 a mid (fun z => lt d1[j]! z = false) (by omega) p1 (fun i h h' => hx i j h h' hj hj2) i hi hi2
  have q2 : ∀ i j, a ≤ i → i < mid → mid ≤ j → j < b → lt d3[j]! d3[i]! = false := by
    intro i j hi hi2 hj hj2
    rw [p2.2.1 i (.inl hi2)]
    exact permIn_all d2 d3 mid b (fun z => lt z d2[i]! = false) (by omega) p2 (fun j h h' => q1 i j hi hi2 h h') j hj hj2
  refine sorted_join (m := mid) ?_ s2 q2
  intro i j hi hij hj
  rw [p2.2.1 i (.inl (by omega)), p2.2.1 j (.inl hj)]
  exact s1 i j hi hij hj
end
end Go.Proofs.YtogjcaakfnfapaaGreatDoor
namespace Go.Proofs.YtogjcaakfnfapaaGreatDoor
open Go.Shelf Go.RowKit Go.Lib Go.Sort
set_option linter.unusedVariables false
set_option linter.unusedSimpArgs false
section
variable {α : Type} [Inhabited α] {enc : α → List Value} {k : Nat}
theorem holdsK_own {w : World} {base g n cap : Nat} {e : TypeId} {l : List α} (hk : ∀ x, (enc x).length = k) (h0 : 0 < k) (h : w.ownsRow base e k (.slice (some ⟨g, 0, none⟩) n cap) n (l.flatMap enc)) : HoldsK enc k w g 0 l.toArray := by
  intro j hj
  rw [size_flatK] at hj
  have hj2 : j < l.length * k := by simpa using hj
  refine ⟨?_, h.frozenAt _⟩
  have hq : j / k < l.length := Nat.div_lt_of_lt_mul (by rw [Nat.mul_comm]; exact hj2)
  have hr : j % k < k := Nat.mod_lt _ h0
  have e1 := flat_get hk l (j / k) (j % k) hr hq
  rw [show j / k * k + j % k = j by rw [Nat.mul_comm]; exact Nat.div_add_mod j k] at e1
  rw [get_flatK enc k _ j hj]
  have e2 : l.toArray[j / k]! = l[j / k] := by simp [hq]
  rw [e2]
  have hr2 : j % k < (enc l[j / k]).length := by rw [hk]; exact hr
  rw [List.getElem?_eq_getElem hr2] at e1
  have e3 := h.cells (g := g) rfl j _ e1
  rw [Addr.add_lit, Nat.zero_add] at e3
  rw [Nat.zero_add]
  show w.cell? _ = some ((enc l[j / k])[j % k]!)
  rw [getElem!_pos (enc l[j / k]) (j % k) hr2]
  exact e3
theorem SWK.slice {w0 W : World} {g cap : Nat} {d0 d : Array α} (h : SWK enc k w0 g 0 d W) (hk : ∀ x, (enc x).length = k) (h0 : 0 < k) (hH : HoldsK enc k w0 g 0 d0) (hg : g < w0.heap.size) (hs : d.size = d0.size) (hc : d.size ≤ cap ∧ cap ≤ 9223372036854775807) : Sl enc W (.slice (some ⟨g, 0, none⟩) d.size cap) d.toList := by
  have hh := h.holds hg hH hs
  refine ⟨_, cap, by simp, by simpa using hc, (fun e => by cases e), fun _ => ⟨g, 0, rfl, fun j u hu => ?_⟩⟩
  have hj : j < d.size * k := by
    have := (List.getElem?_eq_some_iff.1 hu).1
    rw [flat_length hk] at this
    simpa using this
  have hq : j / k < d.size := Nat.div_lt_of_lt_mul (by rw [Nat.mul_comm]; exact hj)
  have hr : j % k < k := Nat.mod_lt _ h0
  have e1 := flat_get hk d.toList (j / k) (j % k) hr (by simpa using hq)
  rw [show j / k * k + j % k = j by rw [Nat.mul_comm]; exact Nat.div_add_mod j k, hu] at e1
  have hx : d[j / k]! = d.toList[j / k]'(by simpa using hq) := by simp [hq]
  have := HoldsK.cells hh hk hq (j % k) u (by rw [hx]; exact e1.symm)
  rw [Addr.add_lit, Nat.zero_add, show j / k * k + j % k = j by rw [Nat.mul_comm]; exact Nat.div_add_mod j k] at this
  rw [Nat.zero_add]; exact this
theorem SWK.grownBy {w0 W : World} {g : Nat} {d : Array α} (h : SWK enc k w0 g 0 d W) : w0.grownBy W (some g) := by
  obtain ⟨n, os, rfl⟩ := h
  unfold sortWorldK putRowK
  refine ⟨rfl, rfl, rfl, by simp, fun b hk hne => ?_⟩
  rw [heap_grow_old _ _ (by simpa using hk)]
  have : g ≠ b := fun e => hne (by rw [e])
  simp [putRow, mapBlock, Sort.ahead, Array.getElem?_modify, this]
end
end Go.Proofs.YtogjcaakfnfapaaGreatDoor
namespace Go.Proofs.YtogjcaakfnfapaaGreatDoor
open Go.RowKit
set_option linter.unusedVariables false
set_option linter.unusedSimpArgs false
set_option maxRecDepth 100000
def cmpN (x y : Lb) : Int := cmpS x.1 y.1
theorem swo_of {α : Type} {cf : α → α → Int} (neg : ∀ x y, cf y x = - cf x y) (tr : ∀ x y z, cf x y ≤ 0 → cf y z ≤ 0 → cf x z ≤ 0 ∧ (cf x y < 0 ∨ cf y z < 0 → cf x z < 0)) : Sort.SWO (ltOf cf) where
  irrefl x := by have := neg x x; exact decide_eq_false (by omega)
  trans x y z h1 h2 := by
    have h1 : cf x y < 0 := of_decide_eq_true h1
    have h2 : cf y z < 0 := of_decide_eq_true h2
    exact decide_eq_true ((tr x y z (by omega) (by omega)).2 (.inl h1))
  ntrans x y z h1 h2 := by
    have h1 : ¬ cf x y < 0 := of_decide_eq_false h1
    have h2 : ¬ cf y z < 0 := of_decide_eq_false h2
    have n1 := neg x y
    have n2 := neg y z
    have n3 := neg x z
    have := (tr z y x (by omega) (by omega)).1
    exact decide_eq_false (by omega)
theorem cmpN_swo : Sort.SWO (ltOf cmpN) := swo_of (fun x y => cmpS_neg x.1 y.1) (fun x y z h1 h2 => cmpS_trans h1 h2)
theorem cmpLays_of {g : Nat} {α : Type} [Inhabited α] {enc : α → List Value} {k : Nat} {cf : α → α → Int} {blk off size : Nat} {w0 : World} (h : ∀ x y w, Calls Tryz.prog g #[.agg (enc x).toArray, .agg (enc y).toArray] w fun e w' => e = .returned (.int .i64 (cf x y)) ∧ Grew w w') : CmpLays Tryz.prog g #[] enc k cf blk off size w0 := by
  intro m os dk hs x y
  refine (h x y _).mono ?_
  rintro e w' ⟨rfl, q, os', rfl⟩
  exact ⟨rfl, q, os', rfl⟩
end Go.Proofs.YtogjcaakfnfapaaGreatDoor
namespace Go.Proofs.YtogjcaakfnfapaaGreatDoor
open Go.RowKit
set_option linter.unusedVariables false
set_option linter.unusedSimpArgs false
set_option maxRecDepth 100000
theorem name_qs (s : ByteArray) (w : World) : Calls Tryz.prog 65 #[.string s] w fun e w' => e = .returned (.bool (nameB s)) ∧ w = w' := (name_any s w).mono fun _ _ h => ⟨h.1, h.2.symm⟩
def okFrom : Option ByteArray → List Lb → Bool
  | _, [] => true
  | p, x :: r => nameB x.1 && decide (x.2.size ≤ 256) && !(decide (p = some x.1)) && okFrom (some x.1) r
def keepL (l : List Lb) : List Lb := l.filter fun x => decide (0 < x.2.size)
def setOk (l : List Lb) : Bool := okFrom none l && decide ((keepL l).length ≤ 32)
def prevO (cs : List Lb) : Nat → Option ByteArray
  | 0 => none
  | k + 1 => some (lx cs k).1
theorem keep_snoc (l : List Lb) (k : Nat) (h : k < l.length) : keepL (l.take (k + 1)) = keepL (l.take k) ++ if 0 < (lx l k).2.size then [lx l k] else [] := by
  unfold keepL
  rw [lx_at h, List.take_succ_eq_append_getElem h, List.filter_append]
  congr 1
  by_cases h : 0 < l[k].2.size <;> simp [h]
theorem keep_take_len (l : List Lb) (k : Nat) : (keepL (l.take k)).length ≤ l.length := Nat.le_trans (List.length_filter_le _ _) (by simp; omega)
end Go.Proofs.YtogjcaakfnfapaaGreatDoor
namespace Go.Proofs.YtogjcaakfnfapaaGreatDoor
open Go.RowKit
set_option linter.unusedVariables false
set_option linter.unusedSimpArgs false
def okX (x : Lb) : Prop := nameB x.1 = true ∧ x.2.size ≤ 256
def OkP (l : List Lb) : Prop := (∀ x ∈ l, okX x) ∧ l.Pairwise fun x y => x.1 ≠ y.1
def StrictL (l : List Lb) : Prop := l.Pairwise fun x y => cmpN x y < 0
theorem okP_perm {l l' : List Lb} (h : l'.Perm l) : OkP l' ↔ OkP l := by
  unfold OkP
  rw [h.pairwise_iff (fun hxy e => hxy e.symm)]
  constructor
  · rintro ⟨h1, h2⟩; exact ⟨fun x hx => h1 x (h.mem_iff.2 hx), h2⟩
  · rintro ⟨h1, h2⟩; exact ⟨fun x hx => h1 x (h.mem_iff.1 hx), h2⟩
theorem cmpN_ne {x y : Lb} (h : x.1 ≠ y.1) : cmpN x y ≠ 0 := fun e => h ((cmpS_eq _ _).1 e)
theorem cmpN_self (x : Lb) : cmpN x x = 0 := (cmpS_eq _ _).2 rfl
theorem okFrom_iff (l : List Lb) : ∀ (p : Option ByteArray), l.Pairwise (fun x y => cmpN x y ≤ 0) → (okFrom p l = true ↔ (∀ x ∈ l, okX x) ∧ (∀ x r, l = x :: r → p ≠ some x.1) ∧ l.Pairwise fun x y => x.1 ≠ y.1) := by
  induction l with
  | nil => intro p _; simp [okFrom]
  | cons x r ih =>
    intro p hs
    rw [List.pairwise_cons] at hs
    obtain ⟨hs1, hs2⟩ := hs
    rw [okFrom]
    simp only [Bool.and_eq_true, Bool.not_eq_true', decide_eq_true_eq, decide_eq_false_iff_not]
    rw [ih (some x.1) hs2, List.pairwise_cons]
    constructor
    · rintro ⟨⟨⟨h1, h2⟩, h3⟩, h4, h5, h6⟩
      refine ⟨?_, ?_, ?_, h6⟩
      · intro y hy
        rcases List.mem_cons.1 hy with rfl | hy
        · exact ⟨h1, h2⟩
        · exact h4 y hy
      · intro y t e; injection e with e1 e2; subst e1; exact h3
      · intro y hy e
        cases r with
        | nil => cases hy
        | cons z t =>
          have hne : x.1 ≠ z.1 := fun h => h5 z t rfl (by rw [h])
          have hxz : cmpN x z < 0 := by
            have h1 := hs1 z (by simp)
            have h2 := cmpN_ne hne
            omega
          rcases List.mem_cons.1 hy with rfl | hy
          · exact hne e
          · have hzy := (List.pairwise_cons.1 hs2).1 y hy
            unfold cmpN at hxz hzy
            have h3 := (cmpS_trans (a := x.1) (b := z.1) (c := y.1) (by omega) hzy).2 (.inl hxz)
            rw [e] at h3
            have := (cmpS_eq y.1 y.1).2 rfl
            omega
    · rintro ⟨h1, h2, h3, h4⟩
      exact ⟨⟨⟨(h1 x (by simp)).1, (h1 x (by simp)).2⟩, h2 x r rfl⟩, fun y hy => h1 y (by simp [hy]), fun y t e => by subst e; exact fun he => h3 y (by simp) (by injection he), h4⟩
theorem strict_of {l : List Lb} (h1 : l.Pairwise (fun x y => cmpN x y ≤ 0)) (h2 : l.Pairwise fun x y => x.1 ≠ y.1) : StrictL l := by
  unfold StrictL
  refine (h1.and h2).imp ?_
  rintro x y ⟨h3, h4⟩
  have := cmpN_ne h4
  omega
theorem strict_ne {l : List Lb} (h : StrictL l) : l.Pairwise fun x y => x.1 ≠ y.1 := by
  refine List.Pairwise.imp ?_ h
  intro x y h3 e
  have := (cmpS_eq x.1 y.1).2 e
  unfold cmpN at h3
  omega
theorem strict_unique : ∀ (a b : List Lb), StrictL a → StrictL b → a.Perm b → a = b := by
  intro a
  induction a with
  | nil => intro b _ _ h; exact (List.nil_perm.1 h).symm
  | cons x r ih =>
    intro b ha hb h
    cases b with
    | nil => exact absurd h.length_eq (by simp)
    | cons y t =>
      have hxy : x = y := by
        have h1 : x ∈ y :: t := h.mem_iff.1 (by simp)
        have h2 : y ∈ x :: r := h.mem_iff.2 (by simp)
        rcases List.mem_cons.1 h1 with h1 | h1
        · exact h1
        · rcases List.mem_cons.1 h2 with h2 | h2
          · exact h2.symm
          · have k1 := (List.pairwise_cons.1 hb).1 x h1
            have k2 := (List.pairwise_cons.1 ha).1 y h2
            have := cmpS_neg x.1 y.1
            unfold cmpN at k1 k2; omega
      subst hxy
      rw [ih t (List.pairwise_cons.1 ha).2 (List.pairwise_cons.1 hb).2 ((List.perm_cons _).1 h)]
/-- A label put into a list that rises. -/
def putL (x : Lb) : List Lb → List Lb
  | [] => [x]
  | y :: r => if cmpS y.1 x.1 < 0 then y :: putL x r else x :: y :: r
def insFrom (acc : List Lb) : List Lb → List Lb
  | [] => acc
  | x :: r => insFrom (putL x acc) r
def insL (l : List Lb) : List Lb := insFrom [] l
theorem put_perm (x : Lb) (l : List Lb) : (putL x l).Perm (x :: l) := by
  induction l with
  | nil => exact List.Perm.refl _
  | cons y r ih =>
    rw [putL]
    by_cases h : cmpS y.1 x.1 < 0
    · rw [if_pos h]; exact (ih.cons y).trans (List.Perm.swap x y r)
    · rw [if_neg h]
theorem put_length (x : Lb) (l : List Lb) : (putL x l).length = l.length + 1 := by rw [(put_perm x l).length_eq]; rfl
theorem put_strict {x : Lb} {l : List Lb} (hl : StrictL l) (hx : ∀ y ∈ l, y.1 ≠ x.1) : StrictL (putL x l) := by
  induction l with
  | nil => exact List.pairwise_singleton _ _
  | cons y r ih =>
    obtain ⟨h1, h2⟩ := List.pairwise_cons.1 hl
    rw [putL]
    by_cases h : cmpS y.1 x.1 < 0
    · rw [if_pos h]
      refine List.pairwise_cons.2 ⟨fun z hz => ?_, ih h2 (fun z hz => hx z (by simp [hz]))⟩
      rcases List.mem_cons.1 ((put_perm x r).mem_iff.1 hz) with rfl | hz
      · exact h
      · exact h1 z hz
    · rw [if_neg h]
      have hxy : cmpN x y < 0 := by
        have := cmpS_neg x.1 y.1
        have h3 : cmpS y.1 x.1 ≠ 0 := fun e => hx y (by simp) ((cmpS_eq _ _).1 e)
        unfold cmpN; omega
      refine List.pairwise_cons.2 ⟨fun z hz => ?_, hl⟩
      rcases List.mem_cons.1 hz with rfl | hz
      · exact hxy
      · have := h1 z hz
        unfold cmpN at *
        exact (cmpS_trans (a := x.1) (b := y.1) (c := z.1) (by omega) (by omega)).2 (.inl hxy)
theorem put_at (x : Lb) (l : List Lb) : ∀ i, i ≤ l.length → (∀ j, j < i → cmpS (lx l j).1 x.1 < 0) → (i < l.length → ¬ cmpS (lx l i).1 x.1 < 0) → putL x l = l.take i ++ x :: l.drop i := by
  induction l with
  | nil => intro i hi _ _; simp at hi; subst hi; rfl
  | cons y r ih =>
    intro i hi h1 h2
    cases i with
    | zero =>
      rw [putL, if_neg (by simpa [lx] using h2 (by simp))]; rfl
    | succ i =>
      rw [putL, if_pos (by simpa [lx] using h1 0 (by omega)), ih i (by simpa using hi) (fun j hj => by simpa [lx] using h1 (j + 1) (by omega)) (fun h => by simpa [lx] using h2 (by simpa using h))]
      rfl
theorem insFrom_perm (l : List Lb) : ∀ acc, (insFrom acc l).Perm (acc ++ l) := by
  induction l with
  | nil => intro acc; simp [insFrom]
  | cons x r ih =>
    intro acc
    rw [insFrom]
    refine (ih _).trans ?_
    refine ((put_perm x acc).append_right r).trans ?_
    exact (List.perm_middle).symm
theorem ins_perm (l : List Lb) : (insL l).Perm l := by
  have := insFrom_perm l []
  rw [List.nil_append] at this
  exact this
theorem ins_length (l : List Lb) : (insL l).length = l.length := (ins_perm l).length_eq
theorem insFrom_snoc (l : List Lb) : ∀ acc x, insFrom acc (l ++ [x]) = putL x (insFrom acc l) := by
  induction l with
  | nil => intro acc x; rfl
  | cons y r ih => intro acc x; exact ih _ x
theorem ins_snoc (l : List Lb) (x : Lb) : insL (l ++ [x]) = putL x (insL l) := insFrom_snoc l [] x
theorem insFrom_strict (l : List Lb) : ∀ acc, StrictL acc → (acc ++ l).Pairwise (fun x y => x.1 ≠ y.1) → StrictL (insFrom acc l) := by
  induction l with
  | nil => intro acc h _; exact h
  | cons x r ih =>
    intro acc h hp
    have hp1 := List.pairwise_append.1 hp
    refine ih _ (put_strict h fun y hy => hp1.2.2 y hy x (by simp)) ?_
    refine List.Perm.pairwise (R := fun x y : Lb => x.1 ≠ y.1) (l := acc ++ x :: r) ?_ hp (fun hxy e => hxy e.symm)
    exact List.perm_middle.trans ((put_perm x acc).symm.append_right r)
theorem ins_strict {l : List Lb} (h : l.Pairwise fun x y => x.1 ≠ y.1) : StrictL (insL l) := insFrom_strict l [] List.Pairwise.nil (by simpa using h)
theorem keep_perm {l l' : List Lb} (h : l'.Perm l) : (keepL l').Perm (keepL l) := h.filter _
theorem keep_pair {R : Lb → Lb → Prop} {l : List Lb} (h : l.Pairwise R) : (keepL l).Pairwise R := h.sublist List.filter_sublist
/-- What the code's Set makes is what the document's makes. -/
theorem set_same {l l' : List Lb} (hp : l'.Perm l) (hs : l'.Pairwise fun x y => cmpN x y ≤ 0) : (setOk l' = true ↔ OkP l ∧ (keepL l).length ≤ 32) ∧ (setOk l' = true → keepL l' = insL (keepL l)) := by
  have h1 : setOk l' = true ↔ OkP l ∧ (keepL l).length ≤ 32 := by
    unfold setOk
    rw [Bool.and_eq_true, decide_eq_true_eq, (keep_perm hp).length_eq, okFrom_iff l' none hs, ← okP_perm hp]
    unfold OkP
    constructor
    · rintro ⟨⟨a, _, b⟩, c⟩; exact ⟨⟨a, b⟩, c⟩
    · rintro ⟨⟨a, b⟩, c⟩; exact ⟨⟨a, (fun _ _ _ h => nomatch h), b⟩, c⟩
  refine ⟨h1, fun h => ?_⟩
  obtain ⟨ho, _⟩ := h1.1 h
  have ho' := (okP_perm hp).2 ho
  exact strict_unique _ _ (strict_of (keep_pair hs) (keep_pair ho'.2)) (ins_strict (keep_pair ho.2)) ((keep_perm hp).trans (ins_perm _).symm)
/-- What right is. -/
theorem rightFrom_iff (l : List Lb) : ∀ last, (rightFrom last l = true ↔ (∀ x ∈ l, labOk x = true) ∧ StrictL l ∧ ∀ x r, l = x :: r → cmpS last x.1 < 0) := by
  induction l with
  | nil => intro last; simp [rightFrom, StrictL]
  | cons x r ih =>
    intro last
    rw [rightFrom]
    simp only [Bool.and_eq_true, decide_eq_true_eq]
    rw [ih x.1]
    unfold StrictL
    rw [List.pairwise_cons]
    constructor
    · rintro ⟨⟨h1, h2⟩, h3, h4, h5⟩
      refine ⟨fun y hy => ?_, ⟨fun y hy => ?_, h4⟩, fun y t e => by injection e with e1 e2; subst e1; exact h1⟩
      · rcases List.mem_cons.1 hy with rfl | hy
        · exact h2
        · exact h3 y hy
      · cases r with
        | nil => cases hy
        | cons z t =>
          have hxz := h5 z t rfl
          rcases List.mem_cons.1 hy with rfl | hy
          · exact hxz
          · have := (List.pairwise_cons.1 h4).1 y hy
            unfold cmpN at *
            exact (cmpS_trans (a := x.1) (b := z.1) (c := y.1) (by omega) (by omega)).2 (.inl hxz)
    · rintro ⟨h1, ⟨h2, h3⟩, h4⟩
      exact ⟨⟨h4 x r rfl, h1 x (by simp)⟩, fun y hy => h1 y (by simp [hy]), h3, fun y t e => by subst e; exact h2 y (by simp)⟩
theorem right_iff (l : List Lb) : rightL l = true ↔ (∀ x ∈ l, labOk x = true) ∧ StrictL l ∧ l.length ≤ 32 := by
  unfold rightL
  rw [Bool.and_eq_true, decide_eq_true_eq, rightFrom_iff]
  constructor
  · rintro ⟨⟨h1, h2, _⟩, h3⟩; exact ⟨h1, h2, h3⟩
  · rintro ⟨h1, h2, h3⟩
    refine ⟨⟨h1, h2, fun x r e => ?_⟩, h3⟩
    have := h1 x (by rw [e]; simp)
    unfold labOk at this
    simp only [Bool.and_eq_true, decide_eq_true_eq] at this
    exact empty_less (name_size this.1.1)
theorem labOk_iff (x : Lb) : labOk x = true ↔ okX x ∧ 0 < x.2.size := by
  unfold labOk okX
  simp only [Bool.and_eq_true, decide_eq_true_eq]
  exact ⟨fun ⟨⟨a, b⟩, c⟩ => ⟨⟨a, c⟩, b⟩, fun ⟨⟨a, c⟩, b⟩ => ⟨⟨a, b⟩, c⟩⟩
theorem right_of_set {l : List Lb} (h : OkP l ∧ (keepL l).length ≤ 32) : rightL (insL (keepL l)) = true := by
  rw [right_iff]
  refine ⟨fun x hx => ?_, ins_strict (keep_pair h.1.2), by rw [ins_length]; exact h.2⟩
  have hx := (ins_perm _).mem_iff.1 hx
  unfold keepL at hx
  rw [List.mem_filter, decide_eq_true_eq] at hx
  exact (labOk_iff x).2 ⟨h.1.1 x hx.1, hx.2⟩
theorem okP_right {l : List Lb} (h : rightL l = true) : OkP l ∧ (keepL l).length ≤ 32 ∧ keepL l = l ∧ insL l = l := by
  obtain ⟨h1, h2, h3⟩ := (right_iff l).1 h
  have hk : keepL l = l := List.filter_eq_self.2 fun x hx => decide_eq_true ((labOk_iff x).1 (h1 x hx)).2
  exact ⟨⟨fun x hx => ((labOk_iff x).1 (h1 x hx)).1, strict_ne h2⟩, by rw [hk]; exact h3, hk, strict_unique _ _ (ins_strict (strict_ne h2)) h2 (ins_perm l)⟩
end Go.Proofs.YtogjcaakfnfapaaGreatDoor
namespace Go.Proofs.YtogjcaakfnfapaaGreatDoor
open Go.RowKit
set_option linter.unusedVariables false
set_option linter.unusedSimpArgs false
set_option maxRecDepth 100000
section
variable {α : Type} {enc : α → List Value} {sz : Nat}
theorem flatMap_take (hsz : ∀ x, (enc x).length = sz) (xs : List α) : ∀ k, (xs.take k).flatMap enc = (xs.flatMap enc).take (k * sz) := by
  induction xs with
  | nil => intro k; simp
  | cons x xs ih =>
    intro k
    cases k with
    | zero => simp
    | succ k =>
      have h1 : (enc x).take ((k + 1) * sz) = enc x := List.take_of_length_le (by rw [hsz, Nat.succ_mul]; omega)
      have h2 : (k + 1) * sz - (enc x).length = k * sz := by rw [hsz, Nat.succ_mul]; omega
      rw [List.take_succ_cons, List.flatMap_cons, List.flatMap_cons, List.take_append, h1, h2, ih k]
theorem flatMap_drop (hsz : ∀ x, (enc x).length = sz) (xs : List α) : ∀ k, (xs.drop k).flatMap enc = (xs.flatMap enc).drop (k * sz) := by
  induction xs with
  | nil => intro k; simp
  | cons x xs ih =>
    intro k
    cases k with
    | zero => simp
    | succ k =>
      rw [List.drop_succ_cons, List.flatMap_cons, ih k, Nat.succ_mul, Nat.add_comm, ← List.drop_drop]
      congr 1
      rw [← hsz x, List.drop_left]
/-- A slice's head. -/
theorem Sl.head {P : Program} {T : TypeId} (hT : P.underlying T = some (.slice (P.elem T))) (hS : ∀ w : World, (sizeOf (P.elem T)).run P w = .ok sz w) (hsz : ∀ x, (enc x).length = sz)
    {w : World} {a : Option Addr} {n cap : Nat} {xs : List α} (h : Sl enc w (.slice a n cap) xs) {k : Nat} (hk : k ≤ xs.length) :
    ∃ a1 c1, (∀ w : World, (Instr.slice T (.slice a n cap) none (some (.int .i64 (k : Int))) none).run P w = .ok (.slice a1 k c1) w) ∧ Sl enc w (.slice a1 k c1) (xs.take k) := by
  obtain ⟨a0, cap0, e, hm, hn, hc⟩ := h
  injection e with e1 e2 e3
  subst e1 e2 e3
  refine ⟨if cap = 0 then a else a.map (·.add (0 * sz)), cap, fun w => ?_, ?_⟩
  · rw [run_slice_h w T a xs.length cap hT .i64 k (by omega) (by omega), hS]
    simp only [Result.andThen, sliced, Int.toNat_natCast, Nat.sub_zero]
  · refine ⟨_, cap, by rw [List.length_take, Nat.min_eq_left hk], by rw [List.length_take, Nat.min_eq_left hk]; omega, fun e => ?_, fun hx => ?_⟩
    · have ha : a = none := by
        split at e
        · exact e
        · simpa using e
      obtain ⟨h1, h2⟩ := hn ha
      exact ⟨h1, by rw [h2]; simp⟩
    · have hx2 : xs ≠ [] := fun e => hx (by rw [e]; simp)
      obtain ⟨b, off, rfl, hd⟩ := hc hx2
      refine ⟨b, off, by split <;> simp [Addr.add_lit], fun j u hu => hd j u ?_⟩
      rw [flatMap_take hsz, List.getElem?_take] at hu
      split at hu
      · exact hu
      · cases hu
/-- A slice's tail. -/
theorem Sl.tail {P : Program} {T : TypeId} (hT : P.underlying T = some (.slice (P.elem T))) (hS : ∀ w : World, (sizeOf (P.elem T)).run P w = .ok sz w) (hsz : ∀ x, (enc x).length = sz)
    {w : World} {a : Option Addr} {n cap : Nat} {xs : List α} (h : Sl enc w (.slice a n cap) xs) {k : Nat} (hk : k ≤ xs.length) :
    ∃ a1 c1, (∀ w : World, (Instr.slice T (.slice a n cap) (some (.int .i64 (k : Int))) none none).run P w = .ok (.slice a1 (xs.length - k) c1) w) ∧ Sl enc w (.slice a1 (xs.length - k) c1) (xs.drop k) := by
  obtain ⟨a0, cap0, e, hm, hn, hc⟩ := h
  injection e with e1 e2 e3
  subst e1 e2 e3
  refine ⟨if cap = k then a else a.map (·.add (k * sz)), cap - k, fun w => ?_, ?_⟩
  · rw [run_slice_l w T a xs.length cap hT .i64 k (by omega) (by omega), hS]
    simp only [Result.andThen, sliced, Int.toNat_natCast, Nat.sub_zero]
  · refine ⟨_, cap - k, by rw [List.length_drop], by rw [List.length_drop]; omega, fun e => ?_, fun hx => ?_⟩
    · have ha : a = none := by
        split at e
        · exact e
        · simpa using e
      obtain ⟨h1, h2⟩ := hn ha
      exact ⟨by omega, by rw [h2]; simp⟩
    · have hx2 : xs ≠ [] := fun e => hx (by rw [e]; simp)
      have hk2 : k < xs.length := by
        by_cases h : k < xs.length
        · exact h
        · exact absurd (List.drop_eq_nil_of_le (by omega)) hx
      obtain ⟨b, off, rfl, hd⟩ := hc hx2
      refine ⟨b, off + k * sz, by rw [if_neg (by omega)]; simp [Addr.add_lit], fun j u hu => ?_⟩
      rw [flatMap_drop hsz, List.getElem?_drop] at hu
      have := hd _ u hu
      rw [← Nat.add_assoc] at this
      exact this
theorem Sl.src (h0 : ∀ x, 0 < (enc x).length) {w : World} {a : Option Addr} {n c : Nat} {xs : List α} (h : Sl enc w (.slice a n c) xs) : n = xs.length ∧ (a = none → n = 0 ∧ c = 0 ∧ xs.flatMap enc = []) ∧ (∀ ad, a = some ad → ∀ j u, (xs.flatMap enc)[j]? = some u → w.cell? (ad.add j) = some u) := by
  obtain ⟨a1, c1, e, -, h1, h2⟩ := h.len h0
  injection e with e1 e2 e3
  subst e1 e2 e3
  refine ⟨rfl, fun e => ?_, h2⟩
  obtain ⟨e1, e2⟩ := h1 e
  exact ⟨by rw [e2]; rfl, e1, by rw [e2]; rfl⟩
end
theorem lenc_pos (x : Lb) : 0 < (lenc x).length := Nat.zero_lt_succ _
theorem Tryz.elemLbs : Tryz.prog.underlying 47 = some (.slice (Tryz.prog.elem 47)) := by kernel_rfl
theorem Tryz.sizeLb (w : World) : (sizeOf (Tryz.prog.elem 47)).run Tryz.prog w = .ok 2 w := by rfl
theorem put_loop_snoc {l : List Lb} {x : Lb} {k : Nat} (h : ∀ j, j < k → cmpS (lx l j).1 x.1 < 0) (hk : cmpS (lx l k).1 x.1 < 0) : ∀ j, j < k + 1 → cmpS (lx l j).1 x.1 < 0 := by
  intro j hj
  by_cases e : j = k
  · subst e; exact hk
  · exact h j (by omega)
theorem S_keep2 {w3 w' : World} {a : Nat} {x0 x1 : Value} (p0 : w3.cell? ⟨a, 0, none⟩ = some x0) (p1 : w3.cell? ⟨a, 1, none⟩ = some x1) (h : Below w3.heap.size w3 w') :
    Below w3.heap.size w3 w' ∧ w'.cell? ⟨a, 0, none⟩ = some x0 ∧ w'.cell? ⟨a, 1, none⟩ = some x1 := ⟨h, cell_below h (Nat.le_refl _) p0, cell_below h (Nat.le_refl _) p1⟩
theorem lenc_one (l : List Lb) : ∀ u ∈ l.flatMap lenc, u.oneCell' = true := oneCell_flat l
set_option maxHeartbeats 4000000 in
theorem rput_any (v : Value) (l : List Lb) (t y : ByteArray) (w : World) (h : Sl lenc w v l) (hl : l.length ≤ 1000000) :
    Calls Tryz.prog 83 #[v, .agg #[.string t, .string y]] w fun e w' => ∃ v', e = .returned v' ∧ Sl lenc w' v' (putL (t, y) l) ∧ Below w.heap.size w w' := by
  have HSL := Lib.hid h
  obtain ⟨a, cap, rfl, hlen, -, hc⟩ := h.split lenc_len
  have HC := Lib.hid hc
  clear hc h
  obtain ⟨i0, hi, hz0, hz1, hz2⟩ := info_parts Tryz.infoLb
  go_enter Tryz.func83, Tryz.ntmps83
  go_wp2_with fail
  go_loopw [5] (fun i wr => ∃ k : Nat, k ≤ l.length ∧ i = .int .i64 k ∧ Hid (∀ j, j < k → cmpS (lx l j).1 t < 0) ∧ ∃ n, wr = (w.alloc (.cells #[.string t, .string y] 46)).drewN n) (fun i _ => l.length - (intOf i).toNat)
  case atStart => exact ⟨0, Nat.zero_le _, rfl, fun j hj => absurd hj (Nat.not_lt_zero _), 0, rfl⟩
  case round =>
    obtain ⟨k, hk, rfl, HV, n, rfl⟩ := hrel
    have h00 : (0 : Int) ≤ (k : Int) := by omega
    by_cases hgo : k < l.length ∧ cmpS (lx l k).1 t < 0
    · obtain ⟨hlt, hcs⟩ := hgo
      have hltz : (k : Int) < (l.length : Int) := by omega
      have hltb : decide ((k : Int) < (l.length : Int)) = true := decide_eq_true hltz
      obtain ⟨b, off, rfl, hk0, hk1⟩ := lab_cells HC.out (Below.refl _ _) (Nat.le_refl _) hlt
      have hlt3 : b < w.heap.size := World.block_lt_of_cell? w _ hk0
      have hne : b ≠ w.heap.size := by omega
      have hbl : Op.bytesLess (lx l k).1.toList t.toList = true := by
        rw [less_cmp]
        rcases cmpS_cases (lx l k).1 t with h | h | h
        · exact decide_eq_true h
        · omega
        · omega
      have HCS := Lib.hid hcs
      clear hcs
      go_wp2_with fail
      go_quiet (fail)
      go_wp2_with fail
      go_roundw
      case rel => exact ⟨k + 1, by omega, by go_num, put_loop_snoc (x := (t, y)) HV.out HCS.out, _, by first | rfl | (simp only [World.drewN_drewN])⟩
      case measure => simp [intOf]; omega
    · have HP := Lib.hid (put_at (t, y) l k hk HV.out (fun h h2 => hgo ⟨h, h2⟩))
      obtain ⟨a1, c1, E1, hs1⟩ := Sl.head Tryz.elemLbs Tryz.sizeLb lenc_len HSL.out hk
      obtain ⟨a2, c2, E2, hs2⟩ := Sl.tail Tryz.elemLbs Tryz.sizeLb lenc_len HSL.out hk
      obtain ⟨-, n1, s1⟩ := hs1.src lenc_pos
      obtain ⟨-, n2, s2⟩ := hs2.src lenc_pos
      have N1 := Lib.hid n1
      have N2 := Lib.hid n2
      have S1 := Lib.hid s1
      have S2 := Lib.hid s2
      clear hs1 hs2 n1 n2 s1 s2
      have h01 : (k : Int) ≤ (l.length : Int) := by omega
      have h02 : (k : Int) ≤ (cap : Int) := by omega
      by_cases hlt : k < l.length
      case' pos =>
        have hltz : (k : Int) < (l.length : Int) := by omega
        have hltb : decide ((k : Int) < (l.length : Int)) = true := decide_eq_true hltz
        obtain ⟨b, off, rfl, hk0, hk1⟩ := lab_cells HC.out (Below.refl _ _) (Nat.le_refl _) hlt
        have hlt3 : b < w.heap.size := World.block_lt_of_cell? w _ hk0
        have hne : b ≠ w.heap.size := by omega
        have hbl : Op.bytesLess (lx l k).1.toList t.toList = false := by
          rw [less_cmp]
          exact decide_eq_false (fun h => hgo ⟨hlt, by omega⟩)
        clear hgo
        go_wp2_with fail
        go_quiet (fail)
        go_wp2_with fail
      case' neg =>
        have hltz : ¬ (k : Int) < (l.length : Int) := by omega
        have hltb : decide ((k : Int) < (l.length : Int)) = false := decide_eq_false hltz
        clear hgo
        go_wp2_with fail
        go_quiet (fail)
        go_wp2_with fail
      all_goals
        have q0 : (((w.alloc (.cells #[.string t, .string y] 46)).drewN n).drewN nq).cell? ⟨w.heap.size, 0, none⟩ = some (.string t) := by simp
        have q1 : (((w.alloc (.cells #[.string t, .string y] 46)).drewN n).drewN nq).cell? ⟨w.heap.size, 1, none⟩ = some (.string y) := by simp
        have hb03 : Below w.heap.size w (((w.alloc (.cells #[.string t, .string y] 46)).drewN n).drewN nq) := below_drewN (below_drewN ((Below.refl _ _).alloc (Nat.le_refl _) _) _) _
        generalize ((w.alloc (.cells #[.string t, .string y] 46)).drewN n).drewN nq = w3 at q0 q1 hb03 ⊢
        have hz3 : w.heap.size + 1 ≤ w3.heap.size := by have h : w.heap.size < w3.heap.size := World.block_lt_of_cell? _ _ q0; omega
        have HB03 := Lib.hid hb03
        clear hb03
        go_region_held3 (fun w' => Below w3.heap.size w3 w' ∧ w'.cell? ⟨w.heap.size, 0, none⟩ = some (.string t) ∧ w'.cell? ⟨w.heap.size, 1, none⟩ = some (.string y))
          (exact S_keep2 q0 q1 (by go_grown))
          (first
            | (refine step_append_rd rfl (.tmp 23) (.tmp 26) _ rfl w3.heap.size 46 i0 _ 2 32 Tryz.underlying47 hi hz0 hz1 hz2 rfl (by decide) (.slice (some ⟨_, 0, none⟩) 0 0) 0 [] rfl
                 ?_ a1 k c1 ((l.take k).flatMap lenc) rfl N1.out (by rw [flat_length lenc_len, List.length_take, Nat.min_eq_left hk]) ?_ ?_ ?_ ?_ ?_ ?_
               (refine owns_lit ?_ ?_; (first | exact lit1 _ _ | exact lit2 _ _ _ | exact lit3 _ _ _); (simp <;> omega))
               (exact fun ad e j u hu => cell_below (B := w3.heap.size) (by go_grown) (Nat.le_refl _) (cell_below HB03.out (Nat.le_refl _) (S1.out ad e j u hu)))
               (exact oneCell_flat _)
               (unfold maxLen; omega)
               (omega)
               (simp <;> omega)
               intro v1 wA hown1 hg1
               have hbA : Below w3.heap.size w3 wA := Below.grown (by go_grown) hg1 (by simp <;> omega) (fun j hj => by simp [Value.ownBlock] at hj; omega)
               have hsA := hbA.size)
            | (refine step_append_rd rfl (.tmp 27) (.tmp 29) _ rfl w3.heap.size 46 i0 _ 2 32 Tryz.underlying47 hi hz0 hz1 hz2 rfl (by decide) v1 k ((l.take k).flatMap lenc) rfl
                 ?_ (some _) 1 1 (lenc (t, y)) rfl (fun e => by cases e) rfl ?_ ?_ ?_ ?_ ?_ ?_
               (first | exact (by simpa using hown1) | exact World.ownsRow.alloc (by simpa using hown1) _)
               (first
                 | exact fun ad e j u hu => by injection e with e; subst e; exact World.news_of_block (cs := #[.string t, .string y]) (lit1 wA _) j u hu
                 | exact fun ad e j u hu => by injection e with e; subst e; exact World.news_of_block (cs := #[.string t, .string y]) (heap_new wA _) j u hu
                 | exact fun ad e j u hu => by injection e with e; subst e; exact World.news_of_block (cs := #[.string t, .string y]) ((hg1.block _ (by simp) (by simp [Value.ownBlock])).trans (lit3 w3 _ _)) j u hu
                 | exact fun ad e j u hu => by injection e with e; subst e; exact World.news_of_block (cs := #[.string t, .string y]) ((hg1.block _ (by simp <;> omega) (by simp [Value.ownBlock])).trans (lit2 w3 _ _)) j u hu)
               (intro u hu; simp [lenc] at hu; rcases hu with rfl | rfl <;> rfl)
               (unfold maxLen; omega)
               (omega)
               (first | exact hsA | (simp; omega))
               intro v2 wB hown2 hg2
               have hbB : Below w3.heap.size w3 wB := Below.grown (by go_grown) hg2 (by first | exact hsA | (simp; omega)) (fun j hj => (hown1.lt j hj).1)
               have hsB := hbB.size))
      all_goals
        have HBB := Lib.hid hbB
        clear hown1 hg1 hg2 hbA hbB hsA
        go_wp2_with (at_builtin; refine wpList_append_rd rfl _ _ 47 rfl w3.heap.size 46 i0 _ 2 32 Tryz.underlying47 hi hz0 hz1 hz2 rfl (by decide) v2 (k + 1) ((l.take k).flatMap lenc ++ lenc (t, y)) rfl hown2 a2 (l.length - k) c2 ((l.drop k).flatMap lenc) rfl N2.out (by rw [flat_length lenc_len, List.length_drop]) (fun ad e j u hu => cell_below HBB.out (Nat.le_refl _) (cell_below HB03.out (Nat.le_refl _) (S2.out ad e j u hu))) (oneCell_flat _) (by unfold maxLen; omega) (by omega) hsB ?_)
        intro v3 w9 hown3 hg3
        have hbC : Below w3.heap.size w3 w9 := Below.grown HBB.out hg3 hsB (fun j hj => (hown2.lt j hj).1)
        have hsl : Sl lenc w9 v3 (putL (t, y) l) := Sl.own lenc_len (by decide) (e := 46) (n := k + 1 + (l.length - k)) (base := w3.heap.size) (by
          rw [HP.out, List.flatMap_append, List.flatMap_cons]; exact hown3)
        have HC9 := Lib.hid (HB03.out.trans (hbC.mono (by omega)))
        have HSL9 := Lib.hid hsl
        clear hown2 hown3 hg3 hbC hsl hsB
        go_wp2_with fail
        go_ret
        exact ⟨_, rfl, HSL9.out, HC9.out⟩
end Go.Proofs.YtogjcaakfnfapaaGreatDoor
