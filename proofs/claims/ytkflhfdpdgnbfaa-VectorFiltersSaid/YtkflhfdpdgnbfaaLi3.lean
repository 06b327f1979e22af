/- slices.Insert at labels where there is no room. -/
import Derived.Test.YtkflhfdpdgnbfaaLi2
namespace Go.Proofs.Ytkflhfdpdgnbfaa
open Go Go.RowKit
set_option linter.unusedVariables false
set_option linter.unusedSimpArgs false
set_option maxRecDepth 100000
theorem two_copies' (T D Z X : List Value) (i2 : Nat) (hi : i2 = T.length) (hX : X.length = 2) (hZ : 2 + D.length ≤ Z.length) :
    (((T ++ Z).take i2 ++ X ++ (T ++ Z).drop (i2 + 2)).take (i2 + 2) ++ D ++ ((T ++ Z).take i2 ++ X ++ (T ++ Z).drop (i2 + 2)).drop (i2 + 2 + D.length)) = T ++ X ++ D ++ (Z.drop 2).drop D.length := by
  subst hi
  have e1 : (T ++ Z).take T.length = T := List.take_left
  have e2 : (T ++ Z).drop (T.length + 2) = Z.drop 2 := by
    rw [List.drop_append, List.drop_of_length_le (by omega), List.nil_append]
    congr 1; omega
  have e3 : (T ++ X).length = T.length + 2 := by rw [List.length_append, hX]
  rw [e1, e2, ← e3, List.take_left, ← List.drop_drop, List.drop_left]
set_option maxHeartbeats 4000000 in
theorem ins_grow (g base cap i : Nat) (d : List Lb) (t y : ByteArray) (b1 : Nat) (w : World) (hown : w.ownsRow base 49 2 (.slice (some ⟨g, 0, none⟩) d.length cap) d.length (d.flatMap lenc)) (hl : d.length ≤ 1000000)
    (hx : w.heap[b1]? = some (.cells #[.string t, .string y] 49 (0, 0))) (hbw : base ≤ w.heap.size) (hi1 : i < d.length) (hroom : cap < d.length + 1) :
    Calls Try.prog 73 #[.slice (some ⟨g, 0, none⟩) d.length cap, .int .i64 i, .slice (some ⟨b1, 0, none⟩) 1 1] w fun e w' => ∃ v', e = .returned v' ∧ Sl lenc w' v' (d.take i ++ (t, y) :: d.drop i) ∧ Below base w w' := by
  obtain ⟨i0, hi, hz0, hz1, hz2⟩ := info_parts Try.infoLb
  obtain ⟨cur, hbg, hg, hle, hcur, hpre⟩ : ∃ cur : Array Value, base ≤ g ∧ w.heap[g]? = some (.cells cur 49 (0, 0)) ∧ d.length ≤ cap ∧ cur.size = cap * 2 ∧ cur.toList.take (d.length * 2) = d.flatMap lenc := by
    rcases hown.2 with ⟨hv, h0⟩ | ⟨g', cap', cur, hv, h1, h2, h3, h4, h5, h6⟩
    · cases hv
    · injection hv with e1 e2 e3
      injection e1 with e1
      injection e1 with e1
      subst e1 e3
      exact ⟨cur, h1, h2, h3, h5, h6⟩
  obtain rfl : cap = d.length := by omega
  obtain ⟨k, hk⟩ : ∃ k, d.length + 1 = i + k := ⟨d.length + 1 - i, by omega⟩
  have h00 : (0 : Int) ≤ (i : Int) := by omega
  have hz2' : ¬ ((i : Int) = (d.length : Int)) := by omega
  have hz3 : ((i : Int) == (d.length : Int)) = false := by simpa using hz2'
  have hb4 : ¬ (d.length = i) := by omega
  have hb6 : (i : Int) ≤ (d.length : Int) := by omega
  have hd1 : decide ((d.length : Int) < (d.length : Int) + 1) = true := decide_eq_true (by omega)
  obtain ⟨T, hT⟩ : ∃ T, T = (d.take i).flatMap lenc := ⟨_, rfl⟩
  obtain ⟨D, hD⟩ : ∃ D, D = (d.drop i).flatMap lenc := ⟨_, rfl⟩
  have hcl : cur.toList = T ++ D := by
    rw [hT, hD, ← List.flatMap_append, List.take_append_drop, ← hpre, List.take_of_length_le (by rw [Array.length_toList]; omega)]
  have hTl : T.length = i * 2 := by rw [hT, flat_length lenc_len, List.length_take, Nat.min_eq_left (by omega)]
  have hDl : D.length = (d.length - i) * 2 := by rw [hD, flat_length lenc_len, List.length_drop]
  have hD1 : ∀ v ∈ D, v.oneCell' = true := by rw [hD]; exact oneCell_flat _
  have hTc : ∀ j v, T[j]? = some v → w.drew.cell? ((⟨g, 0, none⟩ : Addr).add j) = some v := fun j v hj => by
    rw [Addr.add_lit, Nat.zero_add, cell_of_row w.drew g j cur _ _ hg, ← Array.getElem?_toList, hcl, List.getElem?_append_left (List.getElem?_eq_some_iff.1 hj).1]
    exact hj
  have hold : (Builtin.firstCells i0.size i (.slice (some ⟨g, 0, none⟩) i d.length)).run Try.prog w.drew = .ok T.toArray w.drew := by
    rw [hz1]
    exact run_firstCells_some w.drew 2 i ⟨g, 0, none⟩ i d.length T (by rw [hTl]) hTc
  obtain ⟨gc, hgc⟩ : ∃ gc, gc = grownCap w (i + k) d.length 49 := ⟨_, rfl⟩
  obtain ⟨Z, hZ⟩ : ∃ Z : List Value, Z = (Builtin.zeroCells (Value.agg #[.string ⟨#[]⟩, .string ⟨#[]⟩]).cells k ++ Builtin.zeroCells (Value.agg #[.string ⟨#[]⟩, .string ⟨#[]⟩]).cells (gc - (i + k))).toList := ⟨_, rfl⟩
  have hrun : ∀ ty, (Builtin.append_ #[33, 3] ty #[.slice (some ⟨g, 0, none⟩) i d.length, .int .i64 (k : Int)]).run Try.prog w = .ok (.slice (some ⟨w.heap.size, 0, none⟩) (i + k) gc) (w.drew.alloc (.cells (T ++ Z).toArray 49)) := fun ty => by
    rw [Lib.run_append_grow_zeros (P := Try.prog) w 33 3 ty 49 i0 _ .i64 .i64 Try.underlying33 Try.underlying3 hi hz0 (some ⟨g, 0, none⟩) i d.length T hold k (by omega) (by omega) (by omega) (by omega) (by rw [hz2]; omega) (by rw [hz2]; exact growslice_fits (by omega) (by omega))]
    rw [← hgc, hZ]
    congr 2
    simp
  have hgce : d.length + 1 ≤ gc := by rw [hgc, hk]; exact grownCap_ge _ _ _ _
  have hgcl : gc ≤ 9223372036854775807 := by
    rw [hgc]
    have hle' := grownCap_le_maxLen w (i + k) d.length 49 (by unfold maxLen; omega)
    unfold maxLen at hle'
    omega
  have hZl : 2 + D.length ≤ Z.length := by
    have h2 : (Value.agg #[.string ⟨#[]⟩, .string ⟨#[]⟩]).cells.size = 2 := rfl
    have h3 : Z.length = k * 2 + (gc - (i + k)) * 2 := by
      have h4 := size_zeroCells (Value.agg #[.string ⟨#[]⟩, .string ⟨#[]⟩]).cells k
      have h5 := size_zeroCells (Value.agg #[.string ⟨#[]⟩, .string ⟨#[]⟩]).cells (gc - (i + k))
      rw [h2] at h4 h5
      rw [hZ, Array.toList_append, List.length_append, Array.length_toList, Array.length_toList, h4, h5]
    rw [h3, hDl]
    omega
  obtain ⟨w2, hw2⟩ : ∃ w2, w2 = w.drew.alloc (.cells (T ++ Z).toArray 49) := ⟨_, rfl⟩
  rw [← hw2] at hrun
  obtain ⟨H, hH⟩ : ∃ H, H = w.heap.size := ⟨_, rfl⟩
  rw [← hH] at hrun
  have hgl : g < w.heap.size := (Array.getElem?_eq_some_iff.1 hg).1
  have hbl : b1 < w.heap.size := (Array.getElem?_eq_some_iff.1 hx).1
  have hbb2 : Below w.heap.size w w2 := by rw [hw2]; exact (below_drewN (Below.refl _ w) 1).alloc (by simp) _
  have hH2 : w2.heap[H]? = some (.cells (T ++ Z).toArray 49 (0, 0)) := by rw [hw2, hH]; exact heap_new w.drew _
  have hg2 : w2.heap[g]? = some (.cells cur 49 (0, 0)) := by rw [hbb2.block g hgl]; exact hg
  have hx2 : w2.heap[b1]? = some (.cells #[.string t, .string y] 49 (0, 0)) := by rw [hbb2.block b1 hbl]; exact hx
  have hmin : Nat.min (d.length - i) (d.length - i) = d.length - i := Nat.min_self _
  have hmin1 : Nat.min 1 k = 1 := Nat.min_eq_left (by omega)
  obtain ⟨C1, hC1⟩ : ∃ C1 : Array Value, C1 = ((T ++ Z).take (i * 2) ++ [Value.string t, Value.string y] ++ (T ++ Z).drop (i * 2 + 2)).toArray := ⟨_, rfl⟩
  have hcp1 : ∀ ty dc, (Builtin.copy_ #[33, 33] ty #[.slice (some ⟨H, i * 2, none⟩) k dc, .slice (some ⟨b1, 0, none⟩) 1 1]).run Try.prog w2 = .ok (goInt 1) (w2.setRow H C1) := fun ty dc => by
    have h := run_copy_rowK (P := Try.prog) w2 33 33 ty 49 2 H (i * 2) k dc ⟨b1, 0, none⟩ 1 1 (T ++ Z).toArray 49 [.string t, .string y] Try.underlying33 (by rw [hi]; simp [hz1]) hH2 (by rw [hmin1]; rfl) (World.news_of_block hx2) (by simp; omega) (lenc_two t y)
    rw [h, hmin1, hC1]
    rfl
  have hC1z : C1.size = (T ++ Z).length := by
    rw [hC1, List.size_toArray, List.length_append, List.length_append, List.length_take, List.length_drop, List.length_append, hTl]
    simp only [List.length_cons, List.length_nil]
    omega
  have hH3 : (w2.setRow H C1).heap[H]? = some (.cells C1 49 (0, 0)) := setRow_heap w2 H _ C1 _ _ hH2
  have hg3 : (w2.setRow H C1).heap[g]? = some (.cells cur 49 (0, 0)) := by rw [setRow_other w2 H g C1 (by omega)]; exact hg2
  obtain ⟨C2, hC2⟩ : ∃ C2 : List Value, C2 = C1.toList.take (i * 2 + 2) ++ D ++ C1.toList.drop (i * 2 + 2 + D.length) := ⟨_, rfl⟩
  obtain ⟨w3, hw3⟩ : ∃ w3, w3 = w2.setRow H C1 := ⟨_, rfl⟩
  rw [← hw3] at hcp1 hH3 hg3
  have hcp2 : ∀ ty dc sc, (Builtin.copy_ #[33, 33] ty #[.slice (some ⟨H, (i + 1) * 2, none⟩) (d.length - i) dc, .slice (some ⟨g, i * 2, none⟩) (d.length - i) sc]).run Try.prog w3.drew = .ok (goInt ((d.length - i : Nat) : Int)) (w3.drew.setRow H C2.toArray) := fun ty dc sc => by
    have h := run_copy_rowK (P := Try.prog) w3.drew 33 33 ty 49 2 H ((i + 1) * 2) (d.length - i) dc ⟨g, i * 2, none⟩ (d.length - i) sc C1 49 D Try.underlying33 (by rw [hi]; simp [hz1]) hH3 (by rw [hDl, hmin])
      (fun j v hj => by
        rw [Addr.add_lit, cell_of_row w3.drew g (i * 2 + j) cur _ _ hg3, ← Array.getElem?_toList, hcl, List.getElem?_append_right (by omega), hTl, Nat.add_sub_cancel_left]
        exact hj) (by rw [hC1z, List.length_append, hTl]; omega) hD1
    rw [h, hmin, hC2, show (i + 1) * 2 = i * 2 + 2 by omega]
  have hfin : C2 = T ++ [Value.string t, Value.string y] ++ D ++ (Z.drop 2).drop D.length := by
    rw [hC2, hC1]
    exact two_copies' T D Z [Value.string t, Value.string y] (i * 2) hTl.symm rfl hZl
  have HSL := Lib.hid (show Sl lenc (w3.drew.setRow H C2.toArray) (.slice (some ⟨H, 0, none⟩) (i + k) gc) (d.take i ++ (t, y) :: d.drop i) from
    Sl.row (g := H) (t := 49) (fr := (0, 0)) (R := (Z.drop 2).drop D.length) (setRow_heap w3.drew H C1 C2.toArray _ _ hH3) (by rw [List.toList_toArray, hfin, List.flatMap_append, List.flatMap_cons, ← hT, ← hD]; simp [lenc]) (by simp; omega) (by omega))
  have HBB := Lib.hid (show Below base w (w3.drew.setRow H C2.toArray) by
    rw [hw3]
    exact below_setRow (below_drewN (below_setRow (Below.trans (Below.refl base w) (hbb2.mono (by omega))) (by omega) C1) 1) (by omega) C2.toArray)
  have hw1 : IntKind.i64.wrap ((i : Int) + 1) = (i : Int) + 1 := by rw [IntKind.wrap_i64]; omega
  have hb1 : (0 : Int) ≤ (i : Int) + 1 := by omega
  have htn : ((i : Int) + 1).toNat = i + 1 := by omega
  have hb2 : ¬ (gc = i + 1) := by omega
  have hb3 : ¬ (gc = i) := by omega
  have hb5 : (i : Int) + 1 ≤ ((i + k : Nat) : Int) := by omega
  have hb7 : (i : Int) + 1 ≤ (i : Int) + (k : Int) := by omega
  have hb8 : (i : Int) ≤ (i : Int) + (k : Int) := by omega
  have hkk : (d.length : Int) + 1 - (i : Int) = (k : Int) := by omega
  have hk1 : i + k - (i + 1) = d.length - i := by omega
  have hk2 : i + k - i = k := by omega
  clear hcl hTl hDl hD1 hTc hold hgc hZ hgce hgcl hZl hw2 hH hgl hbl hbb2 hH2 hg2 hx2 hmin hmin1 hC1 hC1z hH3 hg3 hC2 hw3 hfin hT hD hpre hcur hg hx hown hroom hle
  have HK := Lib.hid hk
  clear hk
  go_enter Try.func73, Try.ntmps73
  go_wp2_with (at_builtin; refine Lib.wpList_append_run _ rfl _ _ _ _ rfl _ _ rfl rfl _ _ (hrun _) ?_)
  go_region_law (refine step_copy_run' rfl _ _ 33 33 rfl _ _ (by simp [Act.eval, Act.put]) (by simp [Act.eval, Act.put]) (hcp2 _ _ _) ?_)
  go_wp2_with fail
  go_ret
  exact ⟨_, rfl, HSL.out, HBB.out⟩
end Go.Proofs.Ytkflhfdpdgnbfaa
