/- With of both sides: what it answers, and where that lies (printed by gen_vw1.py). The labels of a pair (printed by gen_jn7.py). (Several texts in one file, by merge.py.) -/
import Derived.Test.YtogjcaakfnfapaaGreatDoorZC10
import Derived.Test.YtogjcaakfnfapaaGreatDoorZC3
import Derived.Test.YtogjcaakfnfapaaGreatDoorZC9
import Derived.Laws.CopyOwn
import Derived.Deep.RegionLaw
namespace Go.Proofs.YtogjcaakfnfapaaGreatDoor
open Go Go.RowKit
namespace Fr
set_option linter.unusedVariables false
set_option linter.unusedSimpArgs false
set_option maxRecDepth 100000
theorem lenc_two (t y : ByteArray) : ∀ u ∈ [Value.string t, .string y], u.oneCell' = true := by
  intro u hu
  simp at hu
  rcases hu with rfl | rfl <;> rfl
theorem ins_end (v : Value) (base : Nat) (d : List Lb) (t y : ByteArray) (b1 : Nat) (w : World) (hown : w.ownsRow base 46 2 v d.length (d.flatMap lenc)) (hl : d.length ≤ 1000000)
    (hx : w.heap[b1]? = some (.cells #[.string t, .string y] 46 (0, 0))) (hbw : base ≤ w.heap.size) :
    Calls Tryz.prog 81 #[v, .int .i64 d.length, .slice (some ⟨b1, 0, none⟩) 1 1] w fun e w' => ∃ v', e = .returned v' ∧ Sl lenc w' v' (d ++ [(t, y)]) ∧ Below base w w' ∧ ∀ j, v'.ownBlock = some j → base ≤ j := by
  obtain ⟨i0, hi, hz0, hz1, hz2⟩ := info_parts Tryz.infoLb
  have HO := Lib.hid hown
  have HN := Lib.hid (World.news_of_block hx)
  clear hx
  obtain ⟨ao, cap, rfl, hcap⟩ : ∃ ao cap, v = .slice ao d.length cap ∧ d.length ≤ cap := by
    rcases hown.2 with ⟨hv, h0⟩ | ⟨g, cap, cur, hv, _, _, hle, _⟩
    · exact ⟨none, 0, by rw [hv, h0], by omega⟩
    · exact ⟨_, _, hv, hle⟩
  have h00 : (0 : Int) ≤ (d.length : Int) := by omega
  go_enter Tryz.func81, Tryz.ntmps81
  go_wp2_with (at_builtin; refine wpList_append_own _ rfl _ _ 47 rfl base 46 i0 (.agg #[.string ⟨#[]⟩, .string ⟨#[]⟩]) 2 32 Tryz.underlying47 hi hz0 hz1 hz2 rfl (by decide) _ _ _ rfl hown ⟨b1, 0, none⟩ 1 1 [.string t, .string y] rfl rfl HN.out (lenc_two t y) (by unfold maxLen; omega) (by omega) hbw ?_)
  all_goals
    intro v' w1 hown' hgrow _
    have hsl : Sl lenc w1 v' (d ++ [(t, y)]) := Sl.own lenc_len (by decide) (by rw [flat_snoc]; exact hown')
    have HSL := Lib.hid hsl
    have HB := Lib.hid ((Below.refl base w).grown hgrow hbw (fun j hj => (HO.out.lt j (by cases ao with | none => simp [Value.ownBlock] at hj | some x => exact hj)).1))
    have HFR := Lib.hid (show ∀ j, v'.ownBlock = some j → base ≤ j from fun j hj => (hown'.lt j hj).1)
    clear hown hown' hgrow hsl
    go_wp2_with fail
    go_ret
    exact ⟨_, rfl, HSL.out, HB.out, HFR.out⟩
set_option maxHeartbeats 4000000 in
theorem ins_shift (g base cap i : Nat) (d : List Lb) (t y : ByteArray) (b1 : Nat) (w : World) (hown : w.ownsRow base 46 2 (.slice (some ⟨g, 0, none⟩) d.length cap) d.length (d.flatMap lenc)) (hl : d.length ≤ 1000000)
    (hx : w.heap[b1]? = some (.cells #[.string t, .string y] 46 (0, 0))) (hbw : base ≤ w.heap.size) (hne : b1 ≠ g) (hi1 : i < d.length) (hroom : d.length + 1 ≤ cap) :
    Calls Tryz.prog 81 #[.slice (some ⟨g, 0, none⟩) d.length cap, .int .i64 i, .slice (some ⟨b1, 0, none⟩) 1 1] w fun e w' => ∃ v', e = .returned v' ∧ Sl lenc w' v' (d.take i ++ (t, y) :: d.drop i) ∧ Below base w w' ∧ ∀ j, v'.ownBlock = some j → base ≤ j := by
  obtain ⟨i0, hi, hz0, hz1, hz2⟩ := info_parts Tryz.infoLb
  obtain ⟨cur, hbg, hg, hcap, hcur, hpre⟩ : ∃ cur : Array Value, base ≤ g ∧ w.heap[g]? = some (.cells cur 46 (0, 0)) ∧ cap ≤ maxLen ∧ cur.size = cap * 2 ∧ cur.toList.take (d.length * 2) = d.flatMap lenc := by
    rcases hown.2 with ⟨hv, h0⟩ | ⟨g', cap', cur, hv, h1, h2, h3, h4, h5, h6⟩
    · cases hv
    · injection hv with e1 e2 e3
      injection e1 with e1
      injection e1 with e1
      subst e1 e3
      exact ⟨cur, h1, h2, h4, h5, h6⟩
  unfold maxLen at hcap
  have h00 : (0 : Int) ≤ (i : Int) := by omega
  have hz2' : ¬ ((i : Int) = (d.length : Int)) := by omega
  have hz3 : ((i : Int) == (d.length : Int)) = false := by simpa using hz2'
  have hov : ∀ lb cb, (callFunc 94 #[.slice (some ⟨b1, 0, none⟩) 1 1, .slice (some ⟨g, (i + 1) * 2, none⟩) lb cb]).run Tryz.prog w = .ok (.value (.bool false)) w := fun lb cb => by
    rw [run_callFunc_extern Tryz.func94 (by kernel_rfl) (by kernel_rfl) (by kernel_rfl) (e := Extern.SlicesOverlaps.overlaps #[47, 47] #[4]) (by kernel_rfl),
      Lib.run_overlaps_apart w 47 4 46 Tryz.underlying47 2 Tryz.sizeLb' ⟨b1, 0, none⟩ ⟨g, (i + 1) * 2, none⟩ 1 1 lb cb hne 46 46 2 cur.size (by simp [World.shape?, hx]) (by simp [World.shape?, hg]) (by rw [hcur]; omega) (by simp [World.frozen?, hx]) (by simp [World.frozen?, hx])]
    rfl
  have hw1 : IntKind.i64.wrap ((i : Int) + 1) = (i : Int) + 1 := by rw [IntKind.wrap_i64]; omega
  have hb1 : (0 : Int) ≤ (i : Int) + 1 := by omega
  have htn : ((i : Int) + 1).toNat = i + 1 := by omega
  have hb2 : ¬ (cap = i + 1) := by omega
  have hb4 : ¬ (cap = i) := by omega
  have hb3 : (i : Int) ≤ (d.length : Int) + 1 := by omega
  have hb5 : (i : Int) + 1 ≤ (d.length : Int) + 1 := by omega
  have hb6 : (i : Int) ≤ (d.length : Int) := by omega
  have hb7 : (i : Int) + 1 ≤ ((d.length + 1 : Nat) : Int) := by omega
  obtain ⟨T, hT⟩ : ∃ T, T = (d.take i).flatMap lenc := ⟨_, rfl⟩
  obtain ⟨D, hD⟩ : ∃ D, D = (d.drop i).flatMap lenc := ⟨_, rfl⟩
  obtain ⟨R, hR⟩ : ∃ R, R = cur.toList.drop (d.length * 2) := ⟨_, rfl⟩
  have hcl : cur.toList = T ++ D ++ R := by
    rw [hT, hD, hR, ← List.flatMap_append, List.take_append_drop, ← hpre, List.take_append_drop]
  have hTl : T.length = i * 2 := by rw [hT, flat_length lenc_len, List.length_take, Nat.min_eq_left (by omega)]
  have hDl : D.length = (d.length - i) * 2 := by rw [hD, flat_length lenc_len, List.length_drop]
  have hRl : 2 ≤ R.length := by rw [hR, List.length_drop]; simp only [Array.length_toList]; omega
  have hcz : cur.size = i * 2 + (d.length - i) * 2 + R.length := by rw [← Array.length_toList, hcl, List.length_append, List.length_append, hTl, hDl]
  have hD1 : ∀ v ∈ D, v.oneCell' = true := by rw [hD]; exact oneCell_flat _
  have hmin : Nat.min (d.length + 1 - i) (d.length - i) = d.length - i := Nat.min_eq_right (by omega)
  have hmin1 : Nat.min 1 (d.length + 1 - i) = 1 := Nat.min_eq_left (by omega)
  have hcp1 : ∀ ty dc sc, (Builtin.copy_ #[47, 47] ty #[.slice (some ⟨g, (i + 1) * 2, none⟩) (d.length - i) dc, .slice (some ⟨g, i * 2, none⟩) (d.length + 1 - i) sc]).run Tryz.prog w.drew = .ok (goInt ((d.length - i : Nat) : Int)) (w.drew.setRow g ((T ++ D ++ R).take (i * 2 + 2) ++ D ++ (T ++ D ++ R).drop (i * 2 + 2 + D.length)).toArray) := fun ty dc sc => by
    have h := run_copy_rowK (P := Tryz.prog) w.drew 47 47 ty 46 2 g ((i + 1) * 2) (d.length - i) dc ⟨g, i * 2, none⟩ (d.length + 1 - i) sc cur 46 D Tryz.underlying47 (by rw [hi]; simp [hz1]) hg (by rw [hDl, hmin])
      (fun j v hj => by
        rw [Addr.add_lit, cell_of_row w.drew g (i * 2 + j) cur _ _ hg, ← Array.getElem?_toList, hcl, List.append_assoc, List.getElem?_append_right (by omega), hTl, List.getElem?_append_left (by have := (List.getElem?_eq_some_iff.1 hj).1; omega), Nat.add_sub_cancel_left]
        exact hj) (by omega) hD1
    rw [h, hcl, hmin, show (i + 1) * 2 = i * 2 + 2 by omega]
  obtain ⟨C1, hC1⟩ : ∃ C1, C1 = ((T ++ D ++ R).take (i * 2 + 2) ++ D ++ (T ++ D ++ R).drop (i * 2 + 2 + D.length)).toArray := ⟨_, rfl⟩
  rw [← hC1] at hcp1
  have hgd : w.drew.heap[g]? = some (.cells cur 46 (0, 0)) := hg
  have hg1 : (w.drew.setRow g C1).heap[g]? = some (.cells C1 46 (0, 0)) := setRow_heap w.drew g cur C1 _ _ hgd
  have hx1 : (w.drew.setRow g C1).heap[b1]? = some (.cells #[.string t, .string y] 46 (0, 0)) := by rw [setRow_other w.drew g b1 C1 (fun e => hne e)]; exact hx
  have hC1z : C1.size = cur.size := by
    rw [hC1, List.size_toArray, List.length_append, List.length_append, List.length_take, List.length_drop, List.length_append, List.length_append, hTl, hDl]
    omega
  have hcp2 : ∀ ty dc, (Builtin.copy_ #[47, 47] ty #[.slice (some ⟨g, i * 2, none⟩) (d.length + 1 - i) dc, .slice (some ⟨b1, 0, none⟩) 1 1]).run Tryz.prog (w.drew.setRow g C1) = .ok (goInt 1) ((w.drew.setRow g C1).setRow g (C1.toList.take (i * 2) ++ [Value.string t, Value.string y] ++ C1.toList.drop (i * 2 + 2)).toArray) := fun ty dc => by
    have h := run_copy_rowK (P := Tryz.prog) (w.drew.setRow g C1) 47 47 ty 46 2 g (i * 2) (d.length + 1 - i) dc ⟨b1, 0, none⟩ 1 1 C1 46 [.string t, .string y] Tryz.underlying47 (by rw [hi]; simp [hz1]) hg1 (by rw [hmin1]; rfl) (World.news_of_block hx1) (by rw [hC1z]; simp; omega) (lenc_two t y)
    rw [h, hmin1]
    rfl
  have hfin : C1.toList.take (i * 2) ++ [Value.string t, Value.string y] ++ C1.toList.drop (i * 2 + 2) = T ++ [Value.string t, Value.string y] ++ D ++ R.drop 2 := by
    rw [hC1]
    exact two_copies T D R [.string t, .string y] 0 (i * 2) hTl.symm rfl hRl
  obtain ⟨W1, hW1⟩ : ∃ W1, W1 = w.drew.setRow g C1 := ⟨_, rfl⟩
  obtain ⟨C2, hC2⟩ : ∃ C2, C2 = C1.toList.take (i * 2) ++ [Value.string t, Value.string y] ++ C1.toList.drop (i * 2 + 2) := ⟨_, rfl⟩
  rw [← hW1, ← hC2] at hcp2
  rw [← hW1] at hcp1
  rw [← hC2] at hfin
  have HSL := Lib.hid (show Sl lenc (W1.setRow g C2.toArray) (.slice (some ⟨g, 0, none⟩) (d.length + 1) cap) (d.take i ++ (t, y) :: d.drop i) from
    Sl.row (g := g) (t := 46) (fr := (0, 0)) (R := R.drop 2) (setRow_heap W1 g C1 C2.toArray _ _ (by rw [hW1]; exact hg1)) (by rw [List.toList_toArray, hfin, List.flatMap_append, List.flatMap_cons, ← hT, ← hD]; simp [lenc]) (by simp; omega) (by omega))
  have HBB := Lib.hid (show Below base w (W1.setRow g C2.toArray) by
    rw [hW1]
    exact below_setRow (below_setRow (below_drewN (Below.refl base w) 1) hbg C1) hbg C2.toArray)
  clear hcl hTl hDl hRl hcz hD1 hC1 hgd hg1 hx1 hC1z hfin hW1 hC2 hT hD hR hpre hcur hg hx hown
  go_enter Tryz.func81, Tryz.ntmps81
  go_wp2_with (simp only [hov])
  go_region_law (refine step_copy_run' rfl _ _ 47 47 rfl _ _ (by simp [Act.eval, Act.put]) (by simp [Act.eval, Act.put]) (hcp1 _ _ _) ?_)
  go_wp2_with (at_builtin; refine wpList_copy_run' _ rfl _ _ 47 47 rfl _ _ rfl rfl (hcp2 _ _) ?_)
  go_ret
  exact ⟨_, rfl, HSL.out, HBB.out, fun j hj => by simp [Value.ownBlock] at hj; omega⟩
theorem two_copies' (T D Z X : List Value) (i2 : Nat) (hi : i2 = T.length) (hX : X.length = 2) (hZ : 2 + D.length ≤ Z.length) :
    (((T ++ Z).take i2 ++ X ++ (T ++ Z).drop (i2 + 2)).take (i2 + 2) ++ D ++ ((T ++ Z).take i2 ++ X ++ (T ++ Z).drop (i2 + 2)).drop (i2 + 2 + D.length)) = T ++ X ++ D ++ (Z.drop 2).drop D.length := by
  subst hi
  have e1 : (T ++ Z).take T.length = T := List.take_left
  have e2 : (T ++ Z).drop (T.length + 2) = Z.drop 2 := by
    rw [List.drop_append, List.drop_of_length_le (by omega), List.nil_append]
    congr 1; omega
  have e3 : (T ++ X).length = T.length + 2 := by rw [List.length_append, hX]
  rw [e1, e2, ← e3, List.take_left, ← List.drop_drop, List.drop_left]
set_option maxHeartbeats 4000000 in
theorem ins_grow (g base cap i : Nat) (d : List Lb) (t y : ByteArray) (b1 : Nat) (w : World) (hown : w.ownsRow base 46 2 (.slice (some ⟨g, 0, none⟩) d.length cap) d.length (d.flatMap lenc)) (hl : d.length ≤ 1000000)
    (hx : w.heap[b1]? = some (.cells #[.string t, .string y] 46 (0, 0))) (hbw : base ≤ w.heap.size) (hi1 : i < d.length) (hroom : cap < d.length + 1) :
    Calls Tryz.prog 81 #[.slice (some ⟨g, 0, none⟩) d.length cap, .int .i64 i, .slice (some ⟨b1, 0, none⟩) 1 1] w fun e w' => ∃ v', e = .returned v' ∧ Sl lenc w' v' (d.take i ++ (t, y) :: d.drop i) ∧ Below base w w' ∧ ∀ j, v'.ownBlock = some j → base ≤ j := by
  obtain ⟨i0, hi, hz0, hz1, hz2⟩ := info_parts Tryz.infoLb
  obtain ⟨cur, hbg, hg, hle, hcur, hpre⟩ : ∃ cur : Array Value, base ≤ g ∧ w.heap[g]? = some (.cells cur 46 (0, 0)) ∧ d.length ≤ cap ∧ cur.size = cap * 2 ∧ cur.toList.take (d.length * 2) = d.flatMap lenc := by
    rcases hown.2 with ⟨hv, h0⟩ | ⟨g', cap', cur, hv, h1, h2, h3, h4, h5, h6⟩
    · cases hv
    · injection hv with e1 e2 e3
      injection e1 with e1
      injection e1 with e1
      subst e1 e3
      exact ⟨cur, h1, h2, h3, h5, h6⟩
  obtain rfl : cap = d.length := by omega
  obtain ⟨k, hk⟩ : ∃ k, d.length + 1 = i + k := ⟨d.length + 1 - i, by omega⟩
  have h00 : (0 : Int) ≤ (i : Int) := by omega
  have hz2' : ¬ ((i : Int) = (d.length : Int)) := by omega
  have hz3 : ((i : Int) == (d.length : Int)) = false := by simpa using hz2'
  have hb4 : ¬ (d.length = i) := by omega
  have hb6 : (i : Int) ≤ (d.length : Int) := by omega
  have hd1 : decide ((d.length : Int) < (d.length : Int) + 1) = true := decide_eq_true (by omega)
  obtain ⟨T, hT⟩ : ∃ T, T = (d.take i).flatMap lenc := ⟨_, rfl⟩
  obtain ⟨D, hD⟩ : ∃ D, D = (d.drop i).flatMap lenc := ⟨_, rfl⟩
  have hcl : cur.toList = T ++ D := by
    rw [hT, hD, ← List.flatMap_append, List.take_append_drop, ← hpre, List.take_of_length_le (by rw [Array.length_toList]; omega)]
  have hTl : T.length = i * 2 := by rw [hT, flat_length lenc_len, List.length_take, Nat.min_eq_left (by omega)]
  have hDl : D.length = (d.length - i) * 2 := by rw [hD, flat_length lenc_len, List.length_drop]
  have hD1 : ∀ v ∈ D, v.oneCell' = true := by rw [hD]; exact oneCell_flat _
  have hTc : ∀ j v, T[j]? = some v → w.drew.cell? ((⟨g, 0, none⟩ : Addr).add j) = some v := fun j v hj => by
    rw [Addr.add_lit, Nat.zero_add, cell_of_row w.drew g j cur _ _ hg, ← Array.getElem?_toList, hcl, List.getElem?_append_left (List.getElem?_eq_some_iff.1 hj).1]
    exact hj
  have hold : (Builtin.firstCells i0.size i (.slice (some ⟨g, 0, none⟩) i d.length)).run Tryz.prog w.drew = .ok T.toArray w.drew := by
    rw [hz1]
    exact run_firstCells_some w.drew 2 i ⟨g, 0, none⟩ i d.length T (by rw [hTl]) hTc
  obtain ⟨gc, hgc⟩ : ∃ gc, gc = grownCap w (i + k) d.length 46 := ⟨_, rfl⟩
  obtain ⟨Z, hZ⟩ : ∃ Z : List Value, Z = (Builtin.zeroCells (Value.agg #[.string ⟨#[]⟩, .string ⟨#[]⟩]).cells k ++ Builtin.zeroCells (Value.agg #[.string ⟨#[]⟩, .string ⟨#[]⟩]).cells (gc - (i + k))).toList := ⟨_, rfl⟩
  have hrun : ∀ ty, (Builtin.append_ #[47, 3] ty #[.slice (some ⟨g, 0, none⟩) i d.length, .int .i64 (k : Int)]).run Tryz.prog w = .ok (.slice (some ⟨w.heap.size, 0, none⟩) (i + k) gc) (w.drew.alloc (.cells (T ++ Z).toArray 46)) := fun ty => by
    rw [Lib.run_append_grow_zeros (P := Tryz.prog) w 47 3 ty 46 i0 _ .i64 .i64 Tryz.underlying47 Tryz.underlying3 hi hz0 (some ⟨g, 0, none⟩) i d.length T hold k (by omega) (by omega) (by omega) (by omega) (by rw [hz2]; omega) (by rw [hz2]; exact growslice_fits (by omega) (by omega))]
    rw [← hgc, hZ]
    congr 2
    simp
  have hgce : d.length + 1 ≤ gc := by rw [hgc, hk]; exact grownCap_ge _ _ _ _
  have hgcl : gc ≤ 9223372036854775807 := by
    rw [hgc]
    have hle' := grownCap_le_maxLen w (i + k) d.length 46 (by unfold maxLen; omega)
    unfold maxLen at hle'
    omega
  have hZl : 2 + D.length ≤ Z.length := by
    have h2 : (Value.agg #[.string ⟨#[]⟩, .string ⟨#[]⟩]).cells.size = 2 := rfl
    have h3 : Z.length = k * 2 + (gc - (i + k)) * 2 := by
      have h4 := size_zeroCells (Value.agg #[.string ⟨#[]⟩, .string ⟨#[]⟩]).cells k
      have h5 := size_zeroCells (Value.agg #[.string ⟨#[]⟩, .string ⟨#[]⟩]).cells (gc - (i + k))
      rw [h2] at h4 h5
      rw [hZ, Array.toList_append, List.length_append, Array.length_toList, Array.length_toList, h4, h5]
    rw [h3, hDl]
    omega
  obtain ⟨w2, hw2⟩ : ∃ w2, w2 = w.drew.alloc (.cells (T ++ Z).toArray 46) := ⟨_, rfl⟩
  rw [← hw2] at hrun
  obtain ⟨H, hH⟩ : ∃ H, H = w.heap.size := ⟨_, rfl⟩
  rw [← hH] at hrun
  have hgl : g < w.heap.size := (Array.getElem?_eq_some_iff.1 hg).1
  have hbl : b1 < w.heap.size := (Array.getElem?_eq_some_iff.1 hx).1
  have hbb2 : Below w.heap.size w w2 := by rw [hw2]; exact (below_drewN (Below.refl _ w) 1).alloc (by simp) _
  have hH2 : w2.heap[H]? = some (.cells (T ++ Z).toArray 46 (0, 0)) := by rw [hw2, hH]; exact heap_new w.drew _
  have hg2 : w2.heap[g]? = some (.cells cur 46 (0, 0)) := by rw [hbb2.block g hgl]; exact hg
  have hx2 : w2.heap[b1]? = some (.cells #[.string t, .string y] 46 (0, 0)) := by rw [hbb2.block b1 hbl]; exact hx
  have hmin : Nat.min (d.length - i) (d.length - i) = d.length - i := Nat.min_self _
  have hmin1 : Nat.min 1 k = 1 := Nat.min_eq_left (by omega)
  obtain ⟨C1, hC1⟩ : ∃ C1 : Array Value, C1 = ((T ++ Z).take (i * 2) ++ [Value.string t, Value.string y] ++ (T ++ Z).drop (i * 2 + 2)).toArray := ⟨_, rfl⟩
  have hcp1 : ∀ ty dc, (Builtin.copy_ #[47, 47] ty #[.slice (some ⟨H, i * 2, none⟩) k dc, .slice (some ⟨b1, 0, none⟩) 1 1]).run Tryz.prog w2 = .ok (goInt 1) (w2.setRow H C1) := fun ty dc => by
    have h := run_copy_rowK (P := Tryz.prog) w2 47 47 ty 46 2 H (i * 2) k dc ⟨b1, 0, none⟩ 1 1 (T ++ Z).toArray 46 [.string t, .string y] Tryz.underlying47 (by rw [hi]; simp [hz1]) hH2 (by rw [hmin1]; rfl) (World.news_of_block hx2) (by simp; omega) (lenc_two t y)
    rw [h, hmin1, hC1]
    rfl
  have hC1z : C1.size = (T ++ Z).length := by
    rw [hC1, List.size_toArray, List.length_append, List.length_append, List.length_take, List.length_drop, List.length_append, hTl]
    simp only [List.length_cons, List.length_nil]
    omega
  have hH3 : (w2.setRow H C1).heap[H]? = some (.cells C1 46 (0, 0)) := setRow_heap w2 H _ C1 _ _ hH2
  have hg3 : (w2.setRow H C1).heap[g]? = some (.cells cur 46 (0, 0)) := by rw [setRow_other w2 H g C1 (by omega)]; exact hg2
  obtain ⟨C2, hC2⟩ : ∃ C2 : List Value, C2 = C1.toList.take (i * 2 + 2) ++ D ++ C1.toList.drop (i * 2 + 2 + D.length) := ⟨_, rfl⟩
  obtain ⟨w3, hw3⟩ : ∃ w3, w3 = w2.setRow H C1 := ⟨_, rfl⟩
  rw [← hw3] at hcp1 hH3 hg3
  have hcp2 : ∀ ty dc sc, (Builtin.copy_ #[47, 47] ty #[.slice (some ⟨H, (i + 1) * 2, none⟩) (d.length - i) dc, .slice (some ⟨g, i * 2, none⟩) (d.length - i) sc]).run Tryz.prog w3.drew = .ok (goInt ((d.length - i : Nat) : Int)) (w3.drew.setRow H C2.toArray) := fun ty dc sc => by
    have h := run_copy_rowK (P := Tryz.prog) w3.drew 47 47 ty 46 2 H ((i + 1) * 2) (d.length - i) dc ⟨g, i * 2, none⟩ (d.length - i) sc C1 46 D Tryz.underlying47 (by rw [hi]; simp [hz1]) hH3 (by rw [hDl, hmin])
      (fun j v hj => by
        rw [Addr.add_lit, cell_of_row w3.drew g (i * 2 + j) cur _ _ hg3, ← Array.getElem?_toList, hcl, List.getElem?_append_right (by omega), hTl, Nat.add_sub_cancel_left]
        exact hj) (by rw [hC1z, List.length_append, hTl]; omega) hD1
    rw [h, hmin, hC2, show (i + 1) * 2 = i * 2 + 2 by omega]
  have hfin : C2 = T ++ [Value.string t, Value.string y] ++ D ++ (Z.drop 2).drop D.length := by
    rw [hC2, hC1]
    exact two_copies' T D Z [Value.string t, Value.string y] (i * 2) hTl.symm rfl hZl
  have HSL := Lib.hid (show Sl lenc (w3.drew.setRow H C2.toArray) (.slice (some ⟨H, 0, none⟩) (i + k) gc) (d.take i ++ (t, y) :: d.drop i) from
    Sl.row (g := H) (t := 46) (fr := (0, 0)) (R := (Z.drop 2).drop D.length) (setRow_heap w3.drew H C1 C2.toArray _ _ hH3) (by rw [List.toList_toArray, hfin, List.flatMap_append, List.flatMap_cons, ← hT, ← hD]; simp [lenc]) (by simp; omega) (by omega))
  have HBB := Lib.hid (show Below base w (w3.drew.setRow H C2.toArray) by
    rw [hw3]
    exact below_setRow (below_drewN (below_setRow (Below.trans (Below.refl base w) (hbb2.mono (by omega))) (by omega) C1) 1) (by omega) C2.toArray)
  have hw1 : IntKind.i64.wrap ((i : Int) + 1) = (i : Int) + 1 := by rw [IntKind.wrap_i64]; omega
  have hb1 : (0 : Int) ≤ (i : Int) + 1 := by omega
  have htn : ((i : Int) + 1).toNat = i + 1 := by omega
  have hb2 : ¬ (gc = i + 1) := by omega
  have hb3 : ¬ (gc = i) := by omega
  have hb5 : (i : Int) + 1 ≤ ((i + k : Nat) : Int) := by omega
  have hb7 : (i : Int) + 1 ≤ (i : Int) + (k : Int) := by omega
  have hb8 : (i : Int) ≤ (i : Int) + (k : Int) := by omega
  have hkk : (d.length : Int) + 1 - (i : Int) = (k : Int) := by omega
  have hk1 : i + k - (i + 1) = d.length - i := by omega
  have hk2 : i + k - i = k := by omega
  have HHB := Lib.hid (show base ≤ H by rw [hH]; exact hbw)
  clear hcl hTl hDl hD1 hTc hold hgc hZ hgce hgcl hZl hw2 hH hgl hbl hbb2 hH2 hg2 hx2 hmin hmin1 hC1 hC1z hH3 hg3 hC2 hw3 hfin hT hD hpre hcur hg hx hown hroom hle
  have HK := Lib.hid hk
  clear hk
  go_enter Tryz.func81, Tryz.ntmps81
  go_wp2_with (at_builtin; refine Lib.wpList_append_run _ rfl _ _ _ _ rfl _ _ rfl rfl _ _ (hrun _) ?_)
  go_region_law (refine step_copy_run' rfl _ _ 47 47 rfl _ _ (by simp [Act.eval, Act.put]) (by simp [Act.eval, Act.put]) (hcp2 _ _ _) ?_)
  go_wp2_with fail
  go_ret
  exact ⟨_, rfl, HSL.out, HBB.out, fun j hj => by have := HHB.out; simp [Value.ownBlock] at hj; omega⟩
theorem ins_any (v : Value) (base i : Nat) (d : List Lb) (t y : ByteArray) (b1 : Nat) (w : World) (hown : w.ownsRow base 46 2 v d.length (d.flatMap lenc)) (hl : d.length ≤ 1000000)
    (hx : w.heap[b1]? = some (.cells #[.string t, .string y] 46 (0, 0))) (hbw : base ≤ w.heap.size) (hne : v.ownBlock ≠ some b1) (hi : i ≤ d.length) :
    Calls Tryz.prog 81 #[v, .int .i64 i, .slice (some ⟨b1, 0, none⟩) 1 1] w fun e w' => ∃ v', e = .returned v' ∧ Sl lenc w' v' (d.take i ++ (t, y) :: d.drop i) ∧ Below base w w' ∧ ∀ j, v'.ownBlock = some j → base ≤ j := by
  by_cases he : i = d.length
  · subst he
    have := ins_end v base d t y b1 w hown hl hx hbw
    rw [List.take_of_length_le (Nat.le_refl _), List.drop_of_length_le (Nat.le_refl _)]
    exact this
  · have hlt : i < d.length := by omega
    obtain ⟨g, cap, rfl⟩ : ∃ g cap, v = .slice (some ⟨g, 0, none⟩) d.length cap := by
      rcases hown.2 with ⟨hv, h0⟩ | ⟨g, cap, cur, hv, _⟩
      · omega
      · exact ⟨g, cap, hv⟩
    by_cases hroom : d.length + 1 ≤ cap
    · exact ins_shift g base cap i d t y b1 w hown hl hx hbw (fun e => hne (by rw [e]; rfl)) hlt hroom
    · exact ins_grow g base cap i d t y b1 w hown hl hx hbw hlt (by omega)
theorem sl_one (w : World) (s : ByteArray) : Sl senc1 (w.alloc (.cells #[.string s] 9)) (.slice (some ⟨w.heap.size, 0, none⟩) 1 1) [s] := Sl.lit (heap_new _ _) rfl rfl (by omega)
set_option maxHeartbeats 4000000 in
theorem with_fresh (v : Value) (l : List Lb) (name value : ByteArray) (w : World) (h : Sl lenc w v l) (hl : l.length ≤ 100000) :
    Calls Tryz.prog 57 #[v, .string name, .string value] w fun e w' => ∃ v', e = .returned v' ∧ Sl lenc w' v' (withL l name value) ∧ Below w.heap.size w w' ∧ ∀ j, v'.ownBlock = some j → w.heap.size ≤ j := by
  have HSL := Lib.hid h
  have hb0 : Below w.heap.size w (w.alloc (.cells #[.string name] 9)) := (Below.refl _ _).alloc (Nat.le_refl _) _
  have HD := Lib.hid (drop_own v (.slice (some ⟨w.heap.size, 0, none⟩) 1 1) l [name] (w.alloc (.cells #[.string name] 9)) (h.below hb0 (Nat.le_refl _)) (sl_one w name) (by omega))
  have HB0 := Lib.hid hb0
  clear h hb0
  go_enter Tryz.func57, Tryz.ntmps57
  go_wp2_with fail
  refine HD.out.mono ?_
  rintro e w1 ⟨v1, rfl, hown, hb1⟩
  have HB1 := Lib.hid (HB0.out.trans (hb1.mono (by simp)))
  have hz1 : w.heap.size + 1 ≤ w1.heap.size := by have := hb1.size; simp at this; omega
  have hsz1 : (w.alloc (.cells #[.string name] 9)).heap.size = w.heap.size + 1 := by simp
  rw [hsz1] at hown
  have HSL1 := Lib.hid (HSL.out.below HB1.out (Nat.le_refl _))
  have HF1 := Lib.hid (show ∀ j, v1.ownBlock = some j → w.heap.size ≤ j from fun j hj => by have := (hown.lt j hj).1; omega)
  clear hb1 HD hsz1
  have hdl : (pickL [name] false l).length ≤ l.length := pick_len _ _ _
  by_cases hv : 0 < value.size
  · have hv1 : value.toList.isEmpty = false := by have := not_empty_of hv; simpa using this
    have hv2 : ¬ value.toList = [] := not_empty_of hv
    have HW := Lib.hid (show withD l name value = putL (name, value) (pickL [name] false l) by rw [withD, if_pos hv])
    clear hv
    have hsl1 := Sl.own lenc_len (by decide) hown
    have HO1 := Lib.hid hown
    obtain ⟨d, hd⟩ : ∃ d, d = pickL [name] false l := ⟨_, rfl⟩
    rw [← hd] at hdl HW hsl1 HO1
    clear hd hown
    obtain ⟨a, cap, rfl, hlen, -, hc⟩ := hsl1.split lenc_len
    have HC := Lib.hid hc
    clear hc hsl1
    go_wp2_with fail
    go_loopw [8] (fun i wr => ∃ k : Nat, k ≤ d.length ∧ i = .int .i64 k ∧ Hid (∀ j, j < k → cmpS (lx d j).1 name < 0) ∧ wr = w1) (fun i _ => d.length - (intOf i).toNat)
    case atStart => exact ⟨0, Nat.zero_le _, rfl, fun j hj => absurd hj (Nat.not_lt_zero _), rfl⟩
    case round =>
      obtain ⟨k, hk, rfl, HV, rfl⟩ := hrel
      have h00 : (0 : Int) ≤ (k : Int) := by omega
      by_cases hgo : k < d.length ∧ cmpS (lx d k).1 name < 0
      · obtain ⟨hlt, hcs⟩ := hgo
        have hltz : (k : Int) < (d.length : Int) := by omega
        have hltb : decide ((k : Int) < (d.length : Int)) = true := decide_eq_true hltz
        obtain ⟨b, off, rfl, hk0, hk1⟩ := lab_cells HC.out (Below.refl _ _) (Nat.le_refl _) hlt
        have hbl : Op.bytesLess (lx d k).1.toList name.toList = true := by
          rw [less_cmp]
          rcases cmpS_cases (lx d k).1 name with h | h | h
          · exact decide_eq_true h
          · omega
          · omega
        have HCS := Lib.hid hcs
        clear hcs
        go_wp2_with fail
        go_roundw
        case rel => exact ⟨k + 1, by omega, by go_num, put_loop_snoc (x := (name, value)) HV.out HCS.out, by trivial⟩
        case measure => simp [intOf]; omega
      · have HP := Lib.hid (put_at (name, value) d k hk HV.out (fun h h2 => hgo ⟨h, h2⟩))
        have HI := Lib.hid (ins_any (.slice a d.length cap) (w.heap.size + 1) k d name value wr.heap.size (wr.alloc (.cells #[.string name, .string value] 46)) (HO1.out.alloc _) (by omega) (heap_new _ _) (by simp; omega) (fun e => by have := (HO1.out.lt _ e).2; omega) hk)
        have hcl := clone_any v l
        have HCL := Lib.hid hcl
        clear hcl
        by_cases hlt : k < d.length
        case' pos =>
          have hltz : (k : Int) < (d.length : Int) := by omega
          have hltb : decide ((k : Int) < (d.length : Int)) = true := decide_eq_true hltz
          obtain ⟨b, off, rfl, hk0, hk1⟩ := lab_cells HC.out (Below.refl _ _) (Nat.le_refl _) hlt
          have hbl : Op.bytesLess (lx d k).1.toList name.toList = false := by
            rw [less_cmp]
            exact decide_eq_false (fun h => hgo ⟨hlt, by omega⟩)
          clear hgo
          go_wp2_with fail
        case' neg =>
          have hltz : ¬ (k : Int) < (d.length : Int) := by omega
          have hltb : decide ((k : Int) < (d.length : Int)) = false := decide_eq_false hltz
          clear hgo
          go_wp2_with fail
        all_goals
          refine HI.out.mono ?_
          rintro e w3 ⟨v3, rfl, hs3, hb3, hf3⟩
          have HF3 := Lib.hid (show ∀ j, v3.ownBlock = some j → w.heap.size ≤ j from fun j hj => by have := hf3 j hj; omega)
          clear hf3
          rw [← HP.out, ← HW.out] at hs3
          have HS3 := Lib.hid hs3
          have HB3 := Lib.hid ((HB1.out.alloc (by omega) (.cells #[.string name, .string value] 46)).trans (hb3.mono (by omega)))
          clear hs3 hb3
          have HR := Lib.hid (right_any v3 _ w3 HS3.out)
          go_wp2_with fail
          refine HR.out.mono ?_
          by_cases hr : rightL (withD l name value) = true
          · rw [hr]
            have HF := Lib.hid (show withL l name value = withD l name value by rw [withL, if_pos hr])
            clear hr
            rintro e w4 ⟨rfl, hg4⟩
            have HB4 := Lib.hid (HB3.out.trans (hg4.below.mono HB3.out.size))
            have HS4 := Lib.hid (HS3.out.below hg4.below (Nat.le_refl _))
            clear hg4
            go_wp2_with fail
            go_ret
            exact ⟨_, rfl, by rw [HF.out]; exact HS4.out, HB4.out, HF3.out⟩
          · have hr2 : rightL (withD l name value) = false := by simpa using hr
            rw [hr2]
            have HF := Lib.hid (show withL l name value = l by rw [withL, if_neg hr])
            clear hr hr2
            rintro e w4 ⟨rfl, hg4⟩
            have HB4 := Lib.hid (HB3.out.trans (hg4.below.mono HB3.out.size))
            clear hg4
            have HC4 := Lib.hid (HCL.out w4 (HSL.out.below HB4.out (Nat.le_refl _)) (by omega))
            go_wp2_with fail
            refine HC4.out.mono ?_
            rintro e w5 ⟨v5, rfl, hown5, hb5⟩
            have HB5 := Lib.hid (HB4.out.trans (hb5.mono HB4.out.size))
            have HS5 := Lib.hid (Sl.own lenc_len (by decide) hown5)
            have HF5 := Lib.hid (show ∀ j, v5.ownBlock = some j → w.heap.size ≤ j from fun j hj => Nat.le_trans HB4.out.size (hown5.lt j hj).1)
            clear hown5 hb5
            go_wp2_with fail
            go_ret
            exact ⟨_, rfl, by rw [HF.out]; exact HS5.out, HB5.out, HF5.out⟩
  · have hv1 : value.toList.isEmpty = true := by have := empty_of (s := value) (by omega); simpa using this
    have hv2 : value.toList = [] := empty_of (by omega)
    have HW := Lib.hid (show withD l name value = pickL [name] false l by rw [withD, if_neg hv])
    have HS3 := Lib.hid (Sl.own lenc_len (by decide) hown)
    rw [← HW.out] at HS3
    have HR := Lib.hid (right_any v1 _ w1 HS3.out)
    have HCL := Lib.hid (clone_any v l)
    clear hv hown hdl
    go_wp2_with fail
    refine HR.out.mono ?_
    by_cases hr : rightL (withD l name value) = true
    · rw [hr]
      have HF := Lib.hid (show withL l name value = withD l name value by rw [withL, if_pos hr])
      clear hr
      rintro e w4 ⟨rfl, hg4⟩
      have HB4 := Lib.hid (HB1.out.trans (hg4.below.mono HB1.out.size))
      have HS4 := Lib.hid (HS3.out.below hg4.below (Nat.le_refl _))
      clear hg4
      go_wp2_with fail
      go_ret
      exact ⟨_, rfl, by rw [HF.out]; exact HS4.out, HB4.out, HF1.out⟩
    · have hr2 : rightL (withD l name value) = false := by simpa using hr
      rw [hr2]
      have HF := Lib.hid (show withL l name value = l by rw [withL, if_neg hr])
      clear hr hr2
      rintro e w4 ⟨rfl, hg4⟩
      have HB4 := Lib.hid (HB1.out.trans (hg4.below.mono HB1.out.size))
      clear hg4
      have HC4 := Lib.hid (HCL.out w4 (HSL.out.below HB4.out (Nat.le_refl _)) (by omega))
      go_wp2_with fail
      refine HC4.out.mono ?_
      rintro e w5 ⟨v5, rfl, hown5, hb5⟩
      have HB5 := Lib.hid (HB4.out.trans (hb5.mono HB4.out.size))
      have HS5 := Lib.hid (Sl.own lenc_len (by decide) hown5)
      have HF5 := Lib.hid (show ∀ j, v5.ownBlock = some j → w.heap.size ≤ j from fun j hj => Nat.le_trans HB4.out.size (hown5.lt j hj).1)
      clear hown5 hb5
      go_wp2_with fail
      go_ret
      exact ⟨_, rfl, by rw [HF.out]; exact HS5.out, HB5.out, HF5.out⟩
end Fr
end Go.Proofs.YtogjcaakfnfapaaGreatDoor
namespace Go.Proofs.YtogjcaakfnfapaaGreatDoor
open Go Go.RowKit
set_option linter.unusedVariables false
set_option linter.unusedSimpArgs false
set_option maxRecDepth 100000
def lbOf (l : Value) : Value := l
set_option maxHeartbeats 16000000 in
theorem pair_any (how card : Int) (vn vi va vb : Value) (names incl : List ByteArray) (la lb : List Lb) (w : World) (ha : Sl lenc w va la) (hb : Sl lenc w vb lb) (hn : Sl senc1 w vn names) (hi : Sl senc1 w vi incl)
    (hc : 0 ≤ card ∧ card ≤ 2) (hla : la.length ≤ 1000) (hlb : lb.length ≤ 1000) :
    Calls Tryz.prog 26 #[.agg #[.int .i64 how, vn, .int .i64 card, vi], va, vb] w fun e w' => ∃ a n c, e = .returned (.slice a n c) ∧ Sl lenc w' (.slice a n c) (pairL card how names incl la lb) ∧ (∀ k, (Value.slice a n c).ownBlock = some k → w.heap.size ≤ k) ∧ Below w.heap.size w w' := by
  have HN := Lib.hid hn
  have HI := Lib.hid hi
  have HA := Lib.hid ha
  have HLB := Lib.hid hb
  obtain ⟨an, cn, rfl, hlen, -⟩ := hn.strings
  obtain ⟨ai, ci, rfl, hleni, hci⟩ := hi.strings
  have hc2 : ∀ k, k < incl.length → ∃ b off, ai = some ⟨b, off, none⟩ ∧ w.cell? ⟨b, off + k, none⟩ = some (.string (nx incl k)) := fun k hk => by
    obtain ⟨b, off, e, hd⟩ := hci k hk
    exact ⟨b, off, e, by rw [hd k hk, nx_at hk]⟩
  have HCI := Lib.hid hc2
  obtain ⟨aa, ca, rfl, -, -⟩ := ha.len lenc_pos
  obtain ⟨ab, cb, rfl, -, -⟩ := hb.len lenc_pos
  have HZA := Lib.hid hla
  have HZB := Lib.hid hlb
  clear hn hi ha hb hci hc2 hla hlb
  obtain ⟨nn, hnn⟩ : ∃ n, n = names.length := ⟨_, rfl⟩
  rw [← hnn] at HN hlen ⊢
  obtain ⟨ni, hni⟩ : ∃ n, n = incl.length := ⟨_, rfl⟩
  rw [← hni] at HI hleni ⊢
  have HNI := Lib.hid hni
  obtain ⟨na, hna⟩ : ∃ n, n = la.length := ⟨_, rfl⟩
  rw [← hna] at HA ⊢
  obtain ⟨nb, hnb⟩ : ∃ n, n = lb.length := ⟨_, rfl⟩
  rw [← hnb] at HLB ⊢
  clear hnn hni hna hnb
  obtain ⟨w1, hw1⟩ : ∃ w1, w1 = w.alloc (.cells #[.int .i64 how, .slice an nn cn, .int .i64 card, .slice ai ni ci] 26) := ⟨_, rfl⟩
  obtain ⟨mb, hmb⟩ : ∃ b, b = w.heap.size := ⟨_, rfl⟩
  have q0 : w1.cell? ⟨mb, 0, none⟩ = some (.int .i64 how) := by rw [hw1, hmb]; simp
  have q1 : w1.cell? ⟨mb, 1, none⟩ = some (.slice an nn cn) := by rw [hw1, hmb]; simp
  have q2 : w1.cell? ⟨mb, 2, none⟩ = some (.int .i64 card) := by rw [hw1, hmb]; simp
  have q3 : w1.cell? ⟨mb, 3, none⟩ = some (.slice ai ni ci) := by rw [hw1, hmb]; simp
  have Q3 := Lib.hid q3
  have HB1 := Lib.hid (show Below w.heap.size w w1 by rw [hw1]; exact (Below.refl _ _).alloc (Nat.le_refl _) _)
  have HW1 := Lib.hid hw1
  have HMB := Lib.hid hmb
  have hz1 := HB1.out.size
  clear hw1 hmb
  obtain ⟨R, hR⟩ : ∃ R, R = pairL card how names incl la lb := ⟨_, rfl⟩
  rw [← hR]
  by_cases h0 : card = 0
  · subst h0
    rw [pairL, if_pos rfl] at hR
    have HSG := Lib.hid (sign_S how _ _ la names w1 (HA.out.below HB1.out (Nat.le_refl _)) (HN.out.below HB1.out (Nat.le_refl _)) (by have := HZA.out; omega))
    rw [← hR] at HSG
    clear hR hc
    go_enter Tryz.func26, Tryz.ntmps26
    go_wp2_with fail
    rw [← HW1.out, ← HMB.out]
    refine HSG.out.mono ?_
    rintro e w2 ⟨a, n, c, rfl, hs, ho, hb2⟩
    have HS := Lib.hid hs
    have HO := Lib.hid ho
    have HB2 := Lib.hid (HB1.out.trans (hb2.mono HB1.out.size))
    clear hs ho hb2
    go_wp2_with fail
    go_ret
    exact ⟨a, n, c, rfl, HS.out, fun k hk => Nat.le_trans hz1 (HO.out k hk), HB2.out⟩
  · rcases (show card = 2 ∨ card = 1 by omega) with hcc | hcc
    · subst hcc
      have HMM := Lib.hid HLB.out
      have HOO := Lib.hid HA.out
      have HZM := Lib.hid HZB.out
      have HNL := Lib.hid (nameless_any _ lb w1 (HMM.out.below HB1.out (Nat.le_refl _)) (by have := HZM.out; omega))
      obtain ⟨base, hbase⟩ : ∃ b, b = namelessL lb := ⟨_, rfl⟩
      have HBL := Lib.hid (show base.length ≤ 1000 by rw [hbase]; exact Nat.le_trans (namelessL_len _) HZM.out)
      rw [← hbase] at HNL
      have HRR := Lib.hid (show R = withsL la incl base by rw [hR, hbase]; rfl)
      clear hR hc hbase
      go_enter Tryz.func26, Tryz.ntmps26
      go_wp2_with fail
      rw [← HW1.out, ← HMB.out]
      refine HNL.out.mono ?_
      rintro e w2 ⟨a2, n2, c2, rfl, hs2, ho2, hb2⟩
      have q3 := cell_below hb2 (Nat.le_refl _) q3
      have HS2 := Lib.hid hs2
      have HO2 := Lib.hid (fun j hj => Nat.le_trans hz1 (ho2 j hj) : ∀ j, (Value.slice a2 n2 c2).ownBlock = some j → w.heap.size ≤ j)
      have HB2 := Lib.hid (HB1.out.trans (hb2.mono HB1.out.size))
      clear hs2 ho2 hb2
      go_wp2_with fail
      go_loopw [9, 31] (fun v i wr => ∃ (k : Nat) (a : Option Addr) (n c : Nat), k ≤ ni ∧ v = .slice a n c ∧ i = .int .i64 k ∧ Hid (Sl lenc wr (.slice a n c) (withsL la (incl.take k) base)) ∧ Hid (∀ j, (Value.slice a n c).ownBlock = some j → w.heap.size ≤ j) ∧ Hid (Below w.heap.size w wr)) (fun _ i _ => ni - (intOf i).toNat)
      case atStart => exact ⟨0, a2, n2, c2, Nat.zero_le _, rfl, rfl, HS2.out, HO2.out, HB2.out⟩
      case round =>
        obtain ⟨k, a, n, c, hk, rfl, rfl, HS, HO, HB⟩ := hrel
        have hBz := HB.out.size
        have h00 : (0 : Int) ≤ (k : Int) := by omega
        by_cases hlt : k < ni
        · have hltz : (k : Int) < (ni : Int) := by omega
          obtain ⟨b, off, rfl, q⟩ := HCI.out k (by have := HNI.out; omega)
          have q0 := cell_below HB.out (Nat.le_refl _) q
          obtain ⟨x, hx⟩ : ∃ x, x = nx incl k := ⟨_, rfl⟩
          rw [← hx] at q0
          have HX := Lib.hid (show withsL la (incl.take (k + 1)) base = withL (withsL la (incl.take k) base) x (getL x la) by
            rw [hx, nx_at (by have := HNI.out; omega)]
            exact withs_take _ _ _ _ _)
          have hLn : (withsL la (incl.take k) base).length ≤ 1000 := withs_len _ (by decide) _ _ HBL.out
          obtain ⟨L, hL⟩ : ∃ L, L = withsL la (incl.take k) base := ⟨_, rfl⟩
          rw [← hL] at HS HX hLn
          have HGET := Lib.hid (get_any _ la x wr (HOO.out.below HB.out (Nat.le_refl _)))
          obtain ⟨y, hy⟩ : ∃ y, y = getL x la := ⟨_, rfl⟩
          rw [← hy] at HGET HX
          clear q hx hL hy
          go_wp2_with fail
          refine HGET.out.mono ?_
          rintro e w3 ⟨rfl, hb3⟩
          have HW := Lib.hid (Fr.with_fresh _ L x y w3 (HS.out.below hb3 (Nat.le_refl _)) (by omega))
          have HB3 := Lib.hid (HB.out.trans (hb3.mono hBz))
          have hz3 := hb3.size
          clear hb3
          go_wp2_with fail
          refine HW.out.mono ?_
          rintro e w4 ⟨v4, rfl, hs4, hb4, ho4⟩
          obtain ⟨a4, c4, rfl, -, -⟩ := hs4.len lenc_pos
          have HS4 := Lib.hid (show Sl lenc w4 (.slice a4 _ c4) (withsL la (incl.take (k + 1)) base) by rw [HX.out]; exact hs4)
          have HO4 := Lib.hid (fun j hj => by have := ho4 j hj; omega : ∀ j, (Value.slice a4 (withL L x y).length c4).ownBlock = some j → w.heap.size ≤ j)
          have HB4 := Lib.hid (HB3.out.trans (hb4.mono HB3.out.size))
          generalize (withL L x y).length = n4 at HS4 HO4 ⊢
          clear hs4 hb4 ho4
          go_wp2_with fail
          go_roundw
          case rel => exact ⟨k + 1, a4, n4, c4, by omega, rfl, by go_num, HS4.out, HO4.out, HB4.out⟩
          case measure => simp [intOf]; omega
        · have hltz : ¬ (k : Int) < (ni : Int) := by omega
          obtain rfl : k = ni := by omega
          have HSE := Lib.hid (show Sl lenc wr (.slice a n c) R by
            have h1 := HS.out
            rw [List.take_of_length_le (by have := HNI.out; omega)] at h1
            rw [HRR.out]; exact h1)
          go_wp2_with fail
          go_ret
          exact ⟨a, n, c, rfl, HSE.out, HO.out, HB.out⟩
    · subst hcc
      have HMM := Lib.hid HA.out
      have HOO := Lib.hid HLB.out
      have HZM := Lib.hid HZA.out
      have HNL := Lib.hid (nameless_any _ la w1 (HMM.out.below HB1.out (Nat.le_refl _)) (by have := HZM.out; omega))
      obtain ⟨base, hbase⟩ : ∃ b, b = namelessL la := ⟨_, rfl⟩
      have HBL := Lib.hid (show base.length ≤ 1000 by rw [hbase]; exact Nat.le_trans (namelessL_len _) HZM.out)
      rw [← hbase] at HNL
      have HRR := Lib.hid (show R = withsL lb incl base by rw [hR, hbase]; rfl)
      clear hR hc hbase
      go_enter Tryz.func26, Tryz.ntmps26
      go_wp2_with fail
      rw [← HW1.out, ← HMB.out]
      refine HNL.out.mono ?_
      rintro e w2 ⟨a2, n2, c2, rfl, hs2, ho2, hb2⟩
      have q3 := cell_below hb2 (Nat.le_refl _) q3
      have HS2 := Lib.hid hs2
      have HO2 := Lib.hid (fun j hj => Nat.le_trans hz1 (ho2 j hj) : ∀ j, (Value.slice a2 n2 c2).ownBlock = some j → w.heap.size ≤ j)
      have HB2 := Lib.hid (HB1.out.trans (hb2.mono HB1.out.size))
      clear hs2 ho2 hb2
      go_wp2_with fail
      go_loopw [9, 31] (fun v i wr => ∃ (k : Nat) (a : Option Addr) (n c : Nat), k ≤ ni ∧ v = .slice a n c ∧ i = .int .i64 k ∧ Hid (Sl lenc wr (.slice a n c) (withsL lb (incl.take k) base)) ∧ Hid (∀ j, (Value.slice a n c).ownBlock = some j → w.heap.size ≤ j) ∧ Hid (Below w.heap.size w wr)) (fun _ i _ => ni - (intOf i).toNat)
      case atStart => exact ⟨0, a2, n2, c2, Nat.zero_le _, rfl, rfl, HS2.out, HO2.out, HB2.out⟩
      case round =>
        obtain ⟨k, a, n, c, hk, rfl, rfl, HS, HO, HB⟩ := hrel
        have hBz := HB.out.size
        have h00 : (0 : Int) ≤ (k : Int) := by omega
        by_cases hlt : k < ni
        · have hltz : (k : Int) < (ni : Int) := by omega
          obtain ⟨b, off, rfl, q⟩ := HCI.out k (by have := HNI.out; omega)
          have q0 := cell_below HB.out (Nat.le_refl _) q
          obtain ⟨x, hx⟩ : ∃ x, x = nx incl k := ⟨_, rfl⟩
          rw [← hx] at q0
          have HX := Lib.hid (show withsL lb (incl.take (k + 1)) base = withL (withsL lb (incl.take k) base) x (getL x lb) by
            rw [hx, nx_at (by have := HNI.out; omega)]
            exact withs_take _ _ _ _ _)
          have hLn : (withsL lb (incl.take k) base).length ≤ 1000 := withs_len _ (by decide) _ _ HBL.out
          obtain ⟨L, hL⟩ : ∃ L, L = withsL lb (incl.take k) base := ⟨_, rfl⟩
          rw [← hL] at HS HX hLn
          have HGET := Lib.hid (get_any _ lb x wr (HOO.out.below HB.out (Nat.le_refl _)))
          obtain ⟨y, hy⟩ : ∃ y, y = getL x lb := ⟨_, rfl⟩
          rw [← hy] at HGET HX
          clear q hx hL hy
          go_wp2_with fail
          refine HGET.out.mono ?_
          rintro e w3 ⟨rfl, hb3⟩
          have HW := Lib.hid (Fr.with_fresh _ L x y w3 (HS.out.below hb3 (Nat.le_refl _)) (by omega))
          have HB3 := Lib.hid (HB.out.trans (hb3.mono hBz))
          have hz3 := hb3.size
          clear hb3
          go_wp2_with fail
          refine HW.out.mono ?_
          rintro e w4 ⟨v4, rfl, hs4, hb4, ho4⟩
          obtain ⟨a4, c4, rfl, -, -⟩ := hs4.len lenc_pos
          have HS4 := Lib.hid (show Sl lenc w4 (.slice a4 _ c4) (withsL lb (incl.take (k + 1)) base) by rw [HX.out]; exact hs4)
          have HO4 := Lib.hid (fun j hj => by have := ho4 j hj; omega : ∀ j, (Value.slice a4 (withL L x y).length c4).ownBlock = some j → w.heap.size ≤ j)
          have HB4 := Lib.hid (HB3.out.trans (hb4.mono HB3.out.size))
          generalize (withL L x y).length = n4 at HS4 HO4 ⊢
          clear hs4 hb4 ho4
          go_wp2_with fail
          go_roundw
          case rel => exact ⟨k + 1, a4, n4, c4, by omega, rfl, by go_num, HS4.out, HO4.out, HB4.out⟩
          case measure => simp [intOf]; omega
        · have hltz : ¬ (k : Int) < (ni : Int) := by omega
          obtain rfl : k = ni := by omega
          have HSE := Lib.hid (show Sl lenc wr (.slice a n c) R by
            have h1 := HS.out
            rw [List.take_of_length_le (by have := HNI.out; omega)] at h1
            rw [HRR.out]; exact h1)
          go_wp2_with fail
          go_ret
          exact ⟨a, n, c, rfl, HSE.out, HO.out, HB.out⟩
end Go.Proofs.YtogjcaakfnfapaaGreatDoor
