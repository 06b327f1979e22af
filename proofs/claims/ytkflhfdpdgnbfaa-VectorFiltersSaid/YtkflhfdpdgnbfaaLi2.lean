/- slices.Insert at labels: the walk. -/
import Derived.Test.YtkflhfdpdgnbfaaLi1
import Derived.Laws.CopyOwn
import Derived.Deep.RegionLaw
namespace Go.Proofs.Ytkflhfdpdgnbfaa
open Go Go.RowKit
set_option linter.unusedVariables false
set_option linter.unusedSimpArgs false
set_option maxRecDepth 100000
theorem lenc_two (t y : ByteArray) : ∀ u ∈ [Value.string t, .string y], u.oneCell' = true := by
  intro u hu
  simp at hu
  rcases hu with rfl | rfl <;> rfl
theorem ins_end (v : Value) (base : Nat) (d : List Lb) (t y : ByteArray) (b1 : Nat) (w : World) (hown : w.ownsRow base 49 2 v d.length (d.flatMap lenc)) (hl : d.length ≤ 1000000)
    (hx : w.heap[b1]? = some (.cells #[.string t, .string y] 49 (0, 0))) (hbw : base ≤ w.heap.size) :
    Calls Try.prog 73 #[v, .int .i64 d.length, .slice (some ⟨b1, 0, none⟩) 1 1] w fun e w' => ∃ v', e = .returned v' ∧ Sl lenc w' v' (d ++ [(t, y)]) ∧ Below base w w' := by
  obtain ⟨i0, hi, hz0, hz1, hz2⟩ := info_parts Try.infoLb
  have HO := Lib.hid hown
  have HN := Lib.hid (World.news_of_block hx)
  clear hx
  obtain ⟨ao, cap, rfl, hcap⟩ : ∃ ao cap, v = .slice ao d.length cap ∧ d.length ≤ cap := by
    rcases hown.2 with ⟨hv, h0⟩ | ⟨g, cap, cur, hv, _, _, hle, _⟩
    · exact ⟨none, 0, by rw [hv, h0], by omega⟩
    · exact ⟨_, _, hv, hle⟩
  have h00 : (0 : Int) ≤ (d.length : Int) := by omega
  go_enter Try.func73, Try.ntmps73
  go_wp2_with (at_builtin; refine wpList_append_own _ rfl _ _ 33 rfl base 49 i0 (.agg #[.string ⟨#[]⟩, .string ⟨#[]⟩]) 2 32 Try.underlying33 hi hz0 hz1 hz2 rfl (by decide) _ _ _ rfl hown ⟨b1, 0, none⟩ 1 1 [.string t, .string y] rfl rfl HN.out (lenc_two t y) (by unfold maxLen; omega) (by omega) hbw ?_)
  all_goals
    intro v' w1 hown' hgrow _
    have hsl : Sl lenc w1 v' (d ++ [(t, y)]) := Sl.own lenc_len (by decide) (by rw [flat_snoc]; exact hown')
    have HSL := Lib.hid hsl
    have HB := Lib.hid ((Below.refl base w).grown hgrow hbw (fun j hj => (HO.out.lt j (by cases ao with | none => simp [Value.ownBlock] at hj | some x => exact hj)).1))
    clear hown hown' hgrow hsl
    go_wp2_with fail
    go_ret
    exact ⟨_, rfl, HSL.out, HB.out⟩
set_option maxHeartbeats 4000000 in
theorem ins_shift (g base cap i : Nat) (d : List Lb) (t y : ByteArray) (b1 : Nat) (w : World) (hown : w.ownsRow base 49 2 (.slice (some ⟨g, 0, none⟩) d.length cap) d.length (d.flatMap lenc)) (hl : d.length ≤ 1000000)
    (hx : w.heap[b1]? = some (.cells #[.string t, .string y] 49 (0, 0))) (hbw : base ≤ w.heap.size) (hne : b1 ≠ g) (hi1 : i < d.length) (hroom : d.length + 1 ≤ cap) :
    Calls Try.prog 73 #[.slice (some ⟨g, 0, none⟩) d.length cap, .int .i64 i, .slice (some ⟨b1, 0, none⟩) 1 1] w fun e w' => ∃ v', e = .returned v' ∧ Sl lenc w' v' (d.take i ++ (t, y) :: d.drop i) ∧ Below base w w' := by
  obtain ⟨i0, hi, hz0, hz1, hz2⟩ := info_parts Try.infoLb
  obtain ⟨cur, hbg, hg, hcap, hcur, hpre⟩ : ∃ cur : Array Value, base ≤ g ∧ w.heap[g]? = some (.cells cur 49 (0, 0)) ∧ cap ≤ maxLen ∧ cur.size = cap * 2 ∧ cur.toList.take (d.length * 2) = d.flatMap lenc := by
    rcases hown.2 with ⟨hv, h0⟩ | ⟨g', cap', cur, hv, h1, h2, h3, h4, h5, h6⟩
    · cases hv
    · injection hv with e1 e2 e3
      injection e1 with e1
      injection e1 with e1
      subst e1 e3
      exact ⟨cur, h1, h2, h4, h5, h6⟩
  unfold maxLen at hcap
  have h00 : (0 : Int) ≤ (i : Int) := by omega
  have hz2' : ¬ ((i : Int) = (d.length : Int)) := by omega
  have hz3 : ((i : Int) == (d.length : Int)) = false := by simpa using hz2'
  have hov : ∀ lb cb, (callFunc 83 #[.slice (some ⟨b1, 0, none⟩) 1 1, .slice (some ⟨g, (i + 1) * 2, none⟩) lb cb]).run Try.prog w = .ok (.value (.bool false)) w := fun lb cb => by
    rw [run_callFunc_extern Try.func83 (by kernel_rfl) (by kernel_rfl) (by kernel_rfl) (e := Extern.SlicesOverlaps.overlaps #[33, 33] #[4]) (by kernel_rfl),
      Lib.run_overlaps_apart w 33 4 49 Try.underlying33 2 Try.sizeLb' ⟨b1, 0, none⟩ ⟨g, (i + 1) * 2, none⟩ 1 1 lb cb hne 49 49 2 cur.size (by simp [World.shape?, hx]) (by simp [World.shape?, hg]) (by rw [hcur]; omega) (by simp [World.frozen?, hx]) (by simp [World.frozen?, hx])]
    rfl
  have hw1 : IntKind.i64.wrap ((i : Int) + 1) = (i : Int) + 1 := by rw [IntKind.wrap_i64]; omega
  have hb1 : (0 : Int) ≤ (i : Int) + 1 := by omega
  have htn : ((i : Int) + 1).toNat = i + 1 := by omega
  have hb2 : ¬ (cap = i + 1) := by omega
  have hb4 : ¬ (cap = i) := by omega
  have hb3 : (i : Int) ≤ (d.length : Int) + 1 := by omega
  have hb5 : (i : Int) + 1 ≤ (d.length : Int) + 1 := by omega
  have hb6 : (i : Int) ≤ (d.length : Int) := by omega
  have hb7 : (i : Int) + 1 ≤ ((d.length + 1 : Nat) : Int) := by omega
  obtain ⟨T, hT⟩ : ∃ T, T = (d.take i).flatMap lenc := ⟨_, rfl⟩
  obtain ⟨D, hD⟩ : ∃ D, D = (d.drop i).flatMap lenc := ⟨_, rfl⟩
  obtain ⟨R, hR⟩ : ∃ R, R = cur.toList.drop (d.length * 2) := ⟨_, rfl⟩
  have hcl : cur.toList = T ++ D ++ R := by
    rw [hT, hD, hR, ← List.flatMap_append, List.take_append_drop, ← hpre, List.take_append_drop]
  have hTl : T.length = i * 2 := by rw [hT, flat_length lenc_len, List.length_take, Nat.min_eq_left (by omega)]
  have hDl : D.length = (d.length - i) * 2 := by rw [hD, flat_length lenc_len, List.length_drop]
  have hRl : 2 ≤ R.length := by rw [hR, List.length_drop]; simp only [Array.length_toList]; omega
  have hcz : cur.size = i * 2 + (d.length - i) * 2 + R.length := by rw [← Array.length_toList, hcl, List.length_append, List.length_append, hTl, hDl]
  have hD1 : ∀ v ∈ D, v.oneCell' = true := by rw [hD]; exact oneCell_flat _
  have hmin : Nat.min (d.length + 1 - i) (d.length - i) = d.length - i := Nat.min_eq_right (by omega)
  have hmin1 : Nat.min 1 (d.length + 1 - i) = 1 := Nat.min_eq_left (by omega)
  have hcp1 : ∀ ty dc sc, (Builtin.copy_ #[33, 33] ty #[.slice (some ⟨g, (i + 1) * 2, none⟩) (d.length - i) dc, .slice (some ⟨g, i * 2, none⟩) (d.length + 1 - i) sc]).run Try.prog w.drew = .ok (goInt ((d.length - i : Nat) : Int)) (w.drew.setRow g ((T ++ D ++ R).take (i * 2 + 2) ++ D ++ (T ++ D ++ R).drop (i * 2 + 2 + D.length)).toArray) := fun ty dc sc => by
    have h := run_copy_rowK (P := Try.prog) w.drew 33 33 ty 49 2 g ((i + 1) * 2) (d.length - i) dc ⟨g, i * 2, none⟩ (d.length + 1 - i) sc cur 49 D Try.underlying33 (by rw [hi]; simp [hz1]) hg (by rw [hDl, hmin])
      (fun j v hj => by
        rw [Addr.add_lit, cell_of_row w.drew g (i * 2 + j) cur _ _ hg, ← Array.getElem?_toList, hcl, List.append_assoc, List.getElem?_append_right (by omega), hTl, List.getElem?_append_left (by have := (List.getElem?_eq_some_iff.1 hj).1; omega), Nat.add_sub_cancel_left]
        exact hj) (by omega) hD1
    rw [h, hcl, hmin, show (i + 1) * 2 = i * 2 + 2 by omega]
  obtain ⟨C1, hC1⟩ : ∃ C1, C1 = ((T ++ D ++ R).take (i * 2 + 2) ++ D ++ (T ++ D ++ R).drop (i * 2 + 2 + D.length)).toArray := ⟨_, rfl⟩
  rw [← hC1] at hcp1
  have hgd : w.drew.heap[g]? = some (.cells cur 49 (0, 0)) := hg
  have hg1 : (w.drew.setRow g C1).heap[g]? = some (.cells C1 49 (0, 0)) := setRow_heap w.drew g cur C1 _ _ hgd
  have hx1 : (w.drew.setRow g C1).heap[b1]? = some (.cells #[.string t, .string y] 49 (0, 0)) := by rw [setRow_other w.drew g b1 C1 (fun e => hne e)]; exact hx
  have hC1z : C1.size = cur.size := by
    rw [hC1, List.size_toArray, List.length_append, List.length_append, List.length_take, List.length_drop, List.length_append, List.length_append, hTl, hDl]
    omega
  have hcp2 : ∀ ty dc, (Builtin.copy_ #[33, 33] ty #[.slice (some ⟨g, i * 2, none⟩) (d.length + 1 - i) dc, .slice (some ⟨b1, 0, none⟩) 1 1]).run Try.prog (w.drew.setRow g C1) = .ok (goInt 1) ((w.drew.setRow g C1).setRow g (C1.toList.take (i * 2) ++ [Value.string t, Value.string y] ++ C1.toList.drop (i * 2 + 2)).toArray) := fun ty dc => by
    have h := run_copy_rowK (P := Try.prog) (w.drew.setRow g C1) 33 33 ty 49 2 g (i * 2) (d.length + 1 - i) dc ⟨b1, 0, none⟩ 1 1 C1 49 [.string t, .string y] Try.underlying33 (by rw [hi]; simp [hz1]) hg1 (by rw [hmin1]; rfl) (World.news_of_block hx1) (by rw [hC1z]; simp; omega) (lenc_two t y)
    rw [h, hmin1]
    rfl
  have hfin : C1.toList.take (i * 2) ++ [Value.string t, Value.string y] ++ C1.toList.drop (i * 2 + 2) = T ++ [Value.string t, Value.string y] ++ D ++ R.drop 2 := by
    rw [hC1]
    exact two_copies T D R [.string t, .string y] 0 (i * 2) hTl.symm rfl hRl
  obtain ⟨W1, hW1⟩ : ∃ W1, W1 = w.drew.setRow g C1 := ⟨_, rfl⟩
  obtain ⟨C2, hC2⟩ : ∃ C2, C2 = C1.toList.take (i * 2) ++ [Value.string t, Value.string y] ++ C1.toList.drop (i * 2 + 2) := ⟨_, rfl⟩
  rw [← hW1, ← hC2] at hcp2
  rw [← hW1] at hcp1
  rw [← hC2] at hfin
  have HSL := Lib.hid (show Sl lenc (W1.setRow g C2.toArray) (.slice (some ⟨g, 0, none⟩) (d.length + 1) cap) (d.take i ++ (t, y) :: d.drop i) from
    Sl.row (g := g) (t := 49) (fr := (0, 0)) (R := R.drop 2) (setRow_heap W1 g C1 C2.toArray _ _ (by rw [hW1]; exact hg1)) (by rw [List.toList_toArray, hfin, List.flatMap_append, List.flatMap_cons, ← hT, ← hD]; simp [lenc]) (by simp; omega) (by omega))
  have HBB := Lib.hid (show Below base w (W1.setRow g C2.toArray) by
    rw [hW1]
    exact below_setRow (below_setRow (below_drewN (Below.refl base w) 1) hbg C1) hbg C2.toArray)
  clear hcl hTl hDl hRl hcz hD1 hC1 hgd hg1 hx1 hC1z hfin hW1 hC2 hT hD hR hpre hcur hg hx hown
  go_enter Try.func73, Try.ntmps73
  go_wp2_with (simp only [hov])
  go_region_law (refine step_copy_run' rfl _ _ 33 33 rfl _ _ (by simp [Act.eval, Act.put]) (by simp [Act.eval, Act.put]) (hcp1 _ _ _) ?_)
  go_wp2_with (at_builtin; refine wpList_copy_run' _ rfl _ _ 33 33 rfl _ _ rfl rfl (hcp2 _ _) ?_)
  go_ret
  exact ⟨_, rfl, HSL.out, HBB.out⟩
end Go.Proofs.Ytkflhfdpdgnbfaa
