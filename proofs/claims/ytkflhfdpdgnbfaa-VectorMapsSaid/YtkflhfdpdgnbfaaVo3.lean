/- Labels without the metric's name: both sides. -/
import Derived.Test.YtkflhfdpdgnbfaaVn7
namespace Go.Proofs.Ytkflhfdpdgnbfaa
open Go Go.RowKit
set_option linter.unusedVariables false
set_option linter.unusedSimpArgs false
set_option maxRecDepth 100000
set_option maxHeartbeats 2000000 in
theorem rdrop_own (v vn : Value) (l : List Lb) (names : List ByteArray) (w : World) (h : Sl lenc w v l) (hn : Sl senc1 w vn names) (hl : l.length ≤ 1000000) :
    Calls Try.prog 70 #[v, vn] w fun e w' => ∃ v', e = .returned v' ∧ w'.ownsRow w.heap.size 49 2 v' (pickL names false l).length ((pickL names false l).flatMap lenc) ∧ Below w.heap.size w w' := by
  obtain ⟨a, cap, rfl, hlen, -, hc⟩ := h.split lenc_len
  have HC := Lib.hid hc
  have HN := Lib.hid hn
  clear hc h hn
  obtain ⟨i0, hi, hz0, hz1, hz2⟩ := info_parts Try.infoLb
  go_enter Try.func70, Try.ntmps70
  go_wp2_with fail
  go_loopw [5, 6] (fun v i wr => ∃ (k : Nat), k ≤ l.length ∧ i = .int .i64 k ∧ wr.ownsRow w.heap.size 49 2 v (pickL names false (l.take k)).length ((pickL names false (l.take k)).flatMap lenc) ∧ Below w.heap.size w wr) (fun _ i _ => l.length - (intOf i).toNat)
  case atStart => exact ⟨0, Nat.zero_le _, rfl, by simpa [pickL] using World.ownsRow_nil _ _ _ _, Below.refl _ _⟩
  case round =>
    obtain ⟨k, hk, rfl, hown, hb⟩ := hrel
    have hB := hb.size
    have HO := Lib.hid hown
    have HB := Lib.hid hb
    by_cases hlt : k < l.length
    · obtain ⟨b, off, rfl, k0, k1⟩ := lab_cells HC.out hb (Nat.le_refl _) hlt
      have HS := Lib.hid (pick_snoc names false l k hlt)
      have hct := pick_take_len names false l k
      generalize lx l k = x at k0 k1 HS
      clear hb
      obtain ⟨t, y⟩ := x
      simp only at k0 k1
      have hk0 : (0 : Int) ≤ (k : Int) := Int.natCast_nonneg _
      have hk1 : (k : Int) < (l.length : Int) := by omega
      have HCT := Lib.hid (rhas_any vn names t wr (HN.out.below HB.out (Nat.le_refl _)))
      go_wp2_with fail
      refine HCT.out.mono ?_
      rintro e w1 ⟨rfl, rfl⟩
      by_cases he : (hasL names t == false) = true
      · have he2 : hasL names t = false := by simpa using he
        rw [he2]
        have HE := Lib.hid he
        clear he
        go_wp2_with (at_builtin; refine wpList_append_own _ rfl _ _ 33 rfl w.heap.size 49 i0 (.agg #[.string ⟨#[]⟩, .string ⟨#[]⟩]) 2 32 Try.underlying33 hi hz0 hz1 hz2 rfl (by decide) _ _ _ rfl (hown.alloc _) ⟨w1.heap.size, 0, none⟩ 1 1 [.string t, .string y] rfl rfl ?c1 ?c2 ?c3 ?c4 ?c5 ?_)
        case c1 => have := two_new w1 (.string t) (.string y) 49; simpa using this
        case c2 => intro u hu; simp at hu; rcases hu with rfl | rfl <;> rfl
        case c3 => unfold maxLen; omega
        case c4 => omega
        case c5 => simp; omega
        intro v' w2 hown' hgrow _
        have HG := Lib.hid hgrow
        have HO' := Lib.hid hown'
        clear hown hgrow hown'
        go_wp2_with fail
        go_roundw
        case rel =>
          refine ⟨k + 1, by omega, by go_num, ?_, (HB.out.alloc hB _).grown HG.out (by simp; omega) (fun j hj => (HO.out.lt j hj).1)⟩
          rw [HS.out, HE.out]
          simp only [if_true, List.length_append, List.flatMap_append]
          exact HO'.out
        case measure => simp [intOf]; omega
      · have he1 : (hasL names t == false) = false := by simpa using he
        have he2 : hasL names t = !false := by cases h1 : hasL names t <;> simp_all
        have HE := Lib.hid he1
        rw [he2]
        clear he he1
        go_wp2_with fail
        go_roundw
        case rel =>
          refine ⟨k + 1, by omega, by go_num, ?_, HB.out⟩
          rw [HS.out, HE.out]
          simpa using HO.out
        case measure => simp [intOf]; omega
    · obtain rfl : k = l.length := by omega
      rw [List.take_of_length_le (Nat.le_refl _)] at HO
      go_wp2_with fail
      go_ret
      exact ⟨_, rfl, HO.out, HB.out⟩
theorem sl_one' (w : World) (s : ByteArray) : Sl senc1 (w.alloc (.cells #[.string s] 9)) (.slice (some ⟨w.heap.size, 0, none⟩) 1 1) [s] := Sl.lit (heap_new _ _) rfl rfl (by omega)
def nmS : ByteArray := ⟨#[95, 95, 110, 97, 109, 101, 95, 95]⟩
/-- Labels without the metric's name. -/
def namelessL (l : List Lb) : List Lb := pickL [nmS] false l
theorem namelessL_len (l : List Lb) : (namelessL l).length ≤ l.length := pick_len _ _ _
set_option maxHeartbeats 2000000 in
theorem nameless_any (v : Value) (l : List Lb) (w : World) (h : Sl lenc w v l) (hl : l.length ≤ 1000000) :
    Calls Try.prog 41 #[v] w fun e w' => ∃ a n c, e = .returned (.slice a n c) ∧ Sl lenc w' (.slice a n c) (namelessL l) ∧ (∀ k, (Value.slice a n c).ownBlock = some k → w.heap.size ≤ k) ∧ Below w.heap.size w w' := by
  have hb0 : Below w.heap.size w (w.alloc (.cells #[.string nmS] 9)) := (Below.refl _ _).alloc (Nat.le_refl _) _
  have HD := Lib.hid (drop_own v (.slice (some ⟨w.heap.size, 0, none⟩) 1 1) l [nmS] (w.alloc (.cells #[.string nmS] 9)) (h.below hb0 (Nat.le_refl _)) (sl_one' w nmS) hl)
  have HB0 := Lib.hid hb0
  clear h hb0
  unfold nmS at HD
  go_enter Try.func41, Try.ntmps41
  go_wp2_with fail
  refine HD.out.mono ?_
  rintro e w1 ⟨v', rfl, ho, hb⟩
  have hs : Sl lenc w1 v' (namelessL l) := Sl.own lenc_len (by decide) ho
  obtain ⟨a, c, rfl, h1⟩ := id hs
  have HS := Lib.hid hs
  have HB := Lib.hid (HB0.out.trans (hb.mono (by simp)))
  have HO := Lib.hid (fun k hk => Nat.le_trans (Nat.le_succ _) (by have := (ho.lt k hk).1; simpa using this) : ∀ k, (Value.slice a (namelessL l).length c).ownBlock = some k → w.heap.size ≤ k)
  generalize (namelessL l).length = n at HS HO ⊢
  clear h1 hs ho hb
  go_wp2_with fail
  go_ret
  exact ⟨a, n, c, rfl, HS.out, HO.out, HB.out⟩
set_option maxHeartbeats 2000000 in
theorem rnameless_any (v : Value) (l : List Lb) (w : World) (h : Sl lenc w v l) (hl : l.length ≤ 1000000) :
    Calls Try.prog 48 #[v] w fun e w' => ∃ a n c, e = .returned (.slice a n c) ∧ Sl lenc w' (.slice a n c) (namelessL l) ∧ (∀ k, (Value.slice a n c).ownBlock = some k → w.heap.size ≤ k) ∧ Below w.heap.size w w' := by
  have hb0 : Below w.heap.size w (w.alloc (.cells #[.string nmS] 9)) := (Below.refl _ _).alloc (Nat.le_refl _) _
  have HD := Lib.hid (rdrop_own v (.slice (some ⟨w.heap.size, 0, none⟩) 1 1) l [nmS] (w.alloc (.cells #[.string nmS] 9)) (h.below hb0 (Nat.le_refl _)) (sl_one' w nmS) hl)
  have HB0 := Lib.hid hb0
  clear h hb0
  unfold nmS at HD
  go_enter Try.func48, Try.ntmps48
  go_wp2_with fail
  refine HD.out.mono ?_
  rintro e w1 ⟨v', rfl, ho, hb⟩
  have hs : Sl lenc w1 v' (namelessL l) := Sl.own lenc_len (by decide) ho
  obtain ⟨a, c, rfl, h1⟩ := id hs
  have HS := Lib.hid hs
  have HB := Lib.hid (HB0.out.trans (hb.mono (by simp)))
  have HO := Lib.hid (fun k hk => Nat.le_trans (Nat.le_succ _) (by have := (ho.lt k hk).1; simpa using this) : ∀ k, (Value.slice a (namelessL l).length c).ownBlock = some k → w.heap.size ≤ k)
  generalize (namelessL l).length = n at HS HO ⊢
  clear h1 hs ho hb
  go_wp2_with fail
  go_ret
  exact ⟨a, n, c, rfl, HS.out, HO.out, HB.out⟩
end Go.Proofs.Ytkflhfdpdgnbfaa
