/- Group: the code's and the document's. -/
import Derived.Test.YtdpigfcnphklgaaDoorLa15
import Derived.Deep.AppendLies
namespace Go.Proofs.YtdpigfcnphklgaaDoor
open Go Go.RowKit
set_option linter.unusedVariables false
set_option linter.unusedSimpArgs false
set_option maxRecDepth 100000
def gnameS : ByteArray := ⟨#[95, 95, 110, 97, 109, 101, 95, 95]⟩
def groupL (how : Int) (names : List ByteArray) (l : List Lb) : List Lb := if how = 1 then pickL names true l else if how = 2 then pickL [gnameS] false (pickL names false l) else []
theorem pick_two (a : ByteArray) (names : List ByteArray) (l : List Lb) : pickL (a :: names) false l = pickL [a] false (pickL names false l) := by
  unfold pickL
  rw [List.filter_filter]
  congr 1
  funext x
  unfold hasL
  simp only [List.any_cons, List.any_nil, Bool.or_false]
  cases (a.toList == x.1.toList) <;> cases (names.any fun n => n.toList == x.1.toList) <;> rfl
theorem one_strs (l : List ByteArray) : ∀ u ∈ l.flatMap senc1, u.oneCell' = true := by
  intro u hu
  obtain ⟨m, _, hu⟩ := List.mem_flatMap.1 hu
  simp [senc1] at hu
  subst hu; rfl
theorem senc1_pos (x : ByteArray) : 0 < (senc1 x).length := Nat.zero_lt_succ _
theorem gsl_one (w : World) (s : ByteArray) : Sl senc1 (w.alloc (.cells #[.string s] 9)) (.slice (some ⟨w.heap.size, 0, none⟩) 1 1) [s] := Sl.lit (heap_new _ _) rfl rfl (by omega)
theorem Tryd.infoStr' : (Tryd.prog.info? 9).map (fun i => (i.zero, i.size, i.bytes)) = some (some (.string ⟨#[]⟩), 1, 16) := by kernel_rfl
set_option maxHeartbeats 4000000 in
theorem group_any (v vn : Value) (how : Int) (l : List Lb) (names : List ByteArray) (w : World) (h : Sl lenc w v l) (hn : Sl senc1 w vn names) (hl : l.length ≤ 100000) :
    Calls Tryd.prog 35 #[v, .agg #[.int .i64 how, vn]] w fun e w' => ∃ v', e = .returned v' ∧ Sl lenc w' v' (groupL how names l) ∧ Below w.heap.size w w' := by
  obtain ⟨a, cap, rfl, hlen, -⟩ := hn.strings
  have hb0 : Below w.heap.size w (w.alloc (.cells #[.int .i64 how, .slice a names.length cap] 48)) := (Below.refl _ _).alloc (Nat.le_refl _) _
  have HSL := Lib.hid (h.below hb0 (Nat.le_refl _))
  have HN := Lib.hid (hn.below hb0 (Nat.le_refl _))
  have HB0 := Lib.hid hb0
  clear h hn hb0
  by_cases h1 : how = 1
  · have h1b : (how == 1) = true := by simpa using h1
    have HF := Lib.hid (show groupL how names l = pickL names true l by rw [groupL, if_pos h1])
    have HK := Lib.hid (keep_any v (.slice a names.length cap) l names _ HSL.out HN.out (by omega))
    clear h1
    go_enter Tryd.func35, Tryd.ntmps35
    go_wp2_with fail
    refine HK.out.mono ?_
    rintro e w1 ⟨v1, rfl, hs1, hb1⟩
    have HS1 := Lib.hid hs1
    have HB1 := Lib.hid (HB0.out.trans (hb1.mono (by simp)))
    clear hs1 hb1
    go_wp2_with fail
    go_ret
    exact ⟨_, rfl, by rw [HF.out]; exact HS1.out, HB1.out⟩
  · have h1b : (how == 1) = false := by simpa using h1
    by_cases h2 : how = 2
    · have h2b : (how == 2) = true := by simpa using h2
      have HF := Lib.hid (show groupL how names l = pickL [gnameS] false (pickL names false l) by rw [groupL, if_neg h1, if_pos h2])
      have HK := Lib.hid (drop_any v (.slice a names.length cap) l names _ HSL.out HN.out (by omega))
      clear h1 h2
      go_enter Tryd.func35, Tryd.ntmps35
      go_wp2_with fail
      refine HK.out.mono ?_
      rintro e w1 ⟨v1, rfl, hs1, hb1⟩
      have HB1 := Lib.hid (HB0.out.trans (hb1.mono (by simp)))
      have hb2 : Below w1.heap.size w1 (w1.alloc (.cells #[.string gnameS] 9)) := (Below.refl _ _).alloc (Nat.le_refl _) _
      have HK2 := Lib.hid (drop_any v1 (.slice (some ⟨w1.heap.size, 0, none⟩) 1 1) (pickL names false l) [gnameS] _ (hs1.below hb2 (Nat.le_refl _)) (gsl_one w1 gnameS) (by have := pick_len names false l; omega))
      have HB2 := Lib.hid (HB1.out.trans (hb2.mono HB1.out.size))
      clear hs1 hb1 hb2
      go_wp2_with fail
      refine HK2.out.mono ?_
      rintro e w2 ⟨v2, rfl, hs2, hb2⟩
      have HS2 := Lib.hid hs2
      have HB3 := Lib.hid (HB2.out.trans (hb2.mono HB2.out.size))
      clear hs2 hb2
      go_wp2_with fail
      go_ret
      exact ⟨_, rfl, by rw [HF.out]; exact HS2.out, HB3.out⟩
    · have h2b : (how == 2) = false := by simpa using h2
      have HF := Lib.hid (show groupL how names l = [] by rw [groupL, if_neg h1, if_neg h2])
      clear h1 h2
      go_enter Tryd.func35, Tryd.ntmps35
      go_wp2_with fail
      go_ret
      exact ⟨_, rfl, by rw [HF.out]; exact Sl.nil _, HB0.out⟩
set_option maxHeartbeats 4000000 in
theorem rgroup_any (v vn : Value) (how : Int) (l : List Lb) (names : List ByteArray) (w : World) (h : Sl lenc w v l) (hn : Sl senc1 w vn names) (hl : l.length ≤ 100000) (hnl : names.length ≤ 100000) :
    Calls Tryd.prog 36 #[v, .agg #[.int .i64 how, vn]] w fun e w' => ∃ v', e = .returned v' ∧ Sl lenc w' v' (groupL how names l) ∧ Below w.heap.size w w' := by
  obtain ⟨i0, hi, hz0, hz1, hz2⟩ := info_parts Tryd.infoStr'
  obtain ⟨a, cap, rfl, hlen, -⟩ := hn.strings
  obtain ⟨-, n1, s1⟩ := hn.src senc1_pos
  have N1 := Lib.hid n1
  have S1 := Lib.hid s1
  have hb0 : Below w.heap.size w (w.alloc (.cells #[.int .i64 how, .slice a names.length cap] 48)) := (Below.refl _ _).alloc (Nat.le_refl _) _
  have HSL := Lib.hid (h.below hb0 (Nat.le_refl _))
  have HSW := Lib.hid h
  have HN := Lib.hid (hn.below hb0 (Nat.le_refl _))
  have HB0 := Lib.hid hb0
  clear h hn hb0 n1 s1
  by_cases h1 : how = 1
  · have h1b : (how == 1) = true := by simpa using h1
    have HF := Lib.hid (show groupL how names l = pickL names true l by rw [groupL, if_pos h1])
    have HK := Lib.hid (rkeep_any v (.slice a names.length cap) l names _ HSL.out HN.out (by omega))
    clear h1
    go_enter Tryd.func36, Tryd.ntmps36
    go_wp2_with fail
    refine HK.out.mono ?_
    rintro e w1 ⟨v1, rfl, hs1, hb1⟩
    have HS1 := Lib.hid hs1
    have HB1 := Lib.hid (HB0.out.trans (hb1.mono (by simp)))
    clear hs1 hb1
    go_wp2_with fail
    go_ret
    exact ⟨_, rfl, by rw [HF.out]; exact HS1.out, HB1.out⟩
  · have h1b : (how == 1) = false := by simpa using h1
    by_cases h2 : how = 2
    · have h2b : (how == 2) = true := by simpa using h2
      have HF := Lib.hid (show groupL how names l = pickL (gnameS :: names) false l by rw [groupL, if_neg h1, if_pos h2]; exact (pick_two gnameS names l).symm)
      clear h1 h2
      have hown0 : ((w.alloc (.cells #[.int .i64 how, .slice a names.length cap] 48)).alloc (.cells #[.string gnameS] 9)).ownsRow (w.heap.size + 1) 9 1 (.slice (some ⟨w.heap.size + 1, 0, none⟩) 1 1) 1 [.string gnameS] := by
        have := World.ownsRow_lit (base := w.heap.size + 1) (e := 9) (size := 1) (w.alloc (.cells #[.int .i64 how, .slice a names.length cap] 48)) #[.string gnameS] 1 (by simp) (by unfold maxLen; omega) rfl
        simpa using this
      have hbA : Below w.heap.size w ((w.alloc (.cells #[.int .i64 how, .slice a names.length cap] 48)).alloc (.cells #[.string gnameS] 9)) := HB0.out.alloc (by simp) _
      have HBA := Lib.hid hbA
      have HOA := Lib.hid hown0
      clear hbA
      unfold gnameS at hown0
      go_enter Tryd.func36, Tryd.ntmps36
      go_wp2_with (at_builtin; refine wpList_append_rd rfl _ _ 41 rfl (w.heap.size + 1) 9 i0 (.string ⟨#[]⟩) 1 16 Tryd.underlying41 hi hz0 hz1 hz2 rfl (by decide) _ 1 _ rfl hown0 a names.length cap (names.flatMap senc1) rfl N1.out (flat_length senc1_len names) (fun ad e j u hu => cell_below HBA.out (Nat.le_refl _) (S1.out ad e j u hu)) (one_strs names) (by unfold maxLen; omega) (by omega) (by simp) ?_)
      intro v1 w1 hown1 hg1
      have hb1 := HBA.out.grown hg1 (by simp; omega) (fun j hj => by have := (HOA.out.lt j hj).1; omega)
      have hs1 : Sl senc1 w1 v1 (gnameS :: names) := Sl.own senc1_len (by decide) (e := 9) (n := 1 + names.length) (base := w.heap.size + 1) hown1
      have HK := Lib.hid (rdrop_any v v1 l (gnameS :: names) w1 (HSW.out.below hb1 (Nat.le_refl _)) hs1 (by omega))
      have HB1 := Lib.hid hb1
      clear hown0 hown1 hg1 hb1 hs1
      go_wp2_with fail
      refine HK.out.mono ?_
      rintro e w2 ⟨v2, rfl, hs2, hb2⟩
      have HS2 := Lib.hid hs2
      have HB3 := Lib.hid (HB1.out.trans (hb2.mono HB1.out.size))
      clear hs2 hb2
      go_wp2_with fail
      go_ret
      exact ⟨_, rfl, by rw [HF.out]; exact HS2.out, HB3.out⟩
    · have h2b : (how == 2) = false := by simpa using h2
      have HF := Lib.hid (show groupL how names l = [] by rw [groupL, if_neg h1, if_neg h2])
      clear h1 h2
      go_enter Tryd.func36, Tryd.ntmps36
      go_wp2_with fail
      go_ret
      exact ⟨_, rfl, by rw [HF.out]; exact Sl.nil _, HB0.out⟩
end Go.Proofs.YtdpigfcnphklgaaDoor
