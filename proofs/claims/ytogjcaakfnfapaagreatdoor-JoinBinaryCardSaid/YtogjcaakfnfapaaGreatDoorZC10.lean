/- slices.Insert at labels where there is no room. With: the code's and the document's. Labels without the metric's name: both sides. Plain words of joins: signs, points of one sign, labels of a pair, what the operators answer. Signs of labels, their texts: both sides. The points of each sign: a map that the call makes. append of a slice of another named type; a vector's row, raw. (Several texts in one file, by merge.py.) -/
import Derived.Test.YtogjcaakfnfapaaGreatDoorZC9
import Derived.Test.YtogjcaakfnfapaaGreatDoorZC8
import Derived.Test.YtogjcaakfnfapaaGreatDoorZC3
namespace Go.Proofs.YtogjcaakfnfapaaGreatDoor
open Go Go.RowKit
set_option linter.unusedVariables false
set_option linter.unusedSimpArgs false
set_option maxRecDepth 100000
theorem two_copies' (T D Z X : List Value) (i2 : Nat) (hi : i2 = T.length) (hX : X.length = 2) (hZ : 2 + D.length ≤ Z.length) :
    (((T ++ Z).take i2 ++ X ++ (T ++ Z).drop (i2 + 2)).take (i2 + 2) ++ D ++ ((T ++ Z).take i2 ++ X ++ (T ++ Z).drop (i2 + 2)).drop (i2 + 2 + D.length)) = T ++ X ++ D ++ (Z.drop 2).drop D.length := by
  subst hi
  have e1 : (T ++ Z).take T.length = T := List.take_left
  have e2 : (T ++ Z).drop (T.length + 2) = Z.drop 2 := by
    rw [List.drop_append, List.drop_of_length_le (by omega), List.nil_append]
    congr 1; omega
  have e3 : (T ++ X).length = T.length + 2 := by rw [List.length_append, hX]
  rw [e1, e2, ← e3, List.take_left, ← List.drop_drop, List.drop_left]
set_option maxHeartbeats 4000000 in
theorem ins_grow (g base cap i : Nat) (d : List Lb) (t y : ByteArray) (b1 : Nat) (w : World) (hown : w.ownsRow base 46 2 (.slice (some ⟨g, 0, none⟩) d.length cap) d.length (d.flatMap lenc)) (hl : d.length ≤ 1000000)
    (hx : w.heap[b1]? = some (.cells #[.string t, .string y] 46 (0, 0))) (hbw : base ≤ w.heap.size) (hi1 : i < d.length) (hroom : cap < d.length + 1) :
    Calls Tryz.prog 81 #[.slice (some ⟨g, 0, none⟩) d.length cap, .int .i64 i, .slice (some ⟨b1, 0, none⟩) 1 1] w fun e w' => ∃ v', e = .returned v' ∧ Sl lenc w' v' (d.take i ++ (t, y) :: d.drop i) ∧ Below base w w' := by
  obtain ⟨i0, hi, hz0, hz1, hz2⟩ := info_parts Tryz.infoLb
  obtain ⟨cur, hbg, hg, hle, hcur, hpre⟩ : ∃ cur : Array Value, base ≤ g ∧ w.heap[g]? = some (.cells cur 46 (0, 0)) ∧ d.length ≤ cap ∧ cur.size = cap * 2 ∧ cur.toList.take (d.length * 2) = d.flatMap lenc := by
    rcases hown.2 with ⟨hv, h0⟩ | ⟨g', cap', cur, hv, h1, h2, h3, h4, h5, h6⟩
    · cases hv
    · injection hv with e1 e2 e3
      injection e1 with e1
      injection e1 with e1
      subst e1 e3
      exact ⟨cur, h1, h2, h3, h5, h6⟩
  obtain rfl : cap = d.length := by omega
  obtain ⟨k, hk⟩ : ∃ k, d.length + 1 = i + k := ⟨d.length + 1 - i, by omega⟩
  have h00 : (0 : Int) ≤ (i : Int) := by omega
  have hz2' : ¬ ((i : Int) = (d.length : Int)) := by omega
  have hz3 : ((i : Int) == (d.length : Int)) = false := by simpa using hz2'
  have hb4 : ¬ (d.length = i) := by omega
  have hb6 : (i : Int) ≤ (d.length : Int) := by omega
  have hd1 : decide ((d.length : Int) < (d.length : Int) + 1) = true := decide_eq_true (by omega)
  obtain ⟨T, hT⟩ : ∃ T, T = (d.take i).flatMap lenc := ⟨_, rfl⟩
  obtain ⟨D, hD⟩ : ∃ D, D = (d.drop i).flatMap lenc := ⟨_, rfl⟩
  have hcl : cur.toList = T ++ D := by
    rw [hT, hD, ← List.flatMap_append, List.take_append_drop, ← hpre, List.take_of_length_le (by rw [Array.length_toList]; omega)]
  have hTl : T.length = i * 2 := by rw [hT, flat_length lenc_len, List.length_take, Nat.min_eq_left (by omega)]
  have hDl : D.length = (d.length - i) * 2 := by rw [hD, flat_length lenc_len, List.length_drop]
  have hD1 : ∀ v ∈ D, v.oneCell' = true := by rw [hD]; exact oneCell_flat _
  have hTc : ∀ j v, T[j]? = some v → w.drew.cell? ((⟨g, 0, none⟩ : Addr).add j) = some v := fun j v hj => by
    rw [Addr.add_lit, Nat.zero_add, cell_of_row w.drew g j cur _ _ hg, ← Array.getElem?_toList, hcl, List.getElem?_append_left (List.getElem?_eq_some_iff.1 hj).1]
    exact hj
  have hold : (Builtin.firstCells i0.size i (.slice (some ⟨g, 0, none⟩) i d.length)).run Tryz.prog w.drew = .ok T.toArray w.drew := by
    rw [hz1]
    exact run_firstCells_some w.drew 2 i ⟨g, 0, none⟩ i d.length T (by rw [hTl]) hTc
  obtain ⟨gc, hgc⟩ : ∃ gc, gc = grownCap w (i + k) d.length 46 := ⟨_, rfl⟩
  obtain ⟨Z, hZ⟩ : ∃ Z : List Value, Z = (Builtin.zeroCells (Value.agg #[.string ⟨#[]⟩, .string ⟨#[]⟩]).cells k ++ Builtin.zeroCells (Value.agg #[.string ⟨#[]⟩, .string ⟨#[]⟩]).cells (gc - (i + k))).toList := ⟨_, rfl⟩
  have hrun : ∀ ty, (Builtin.append_ #[47, 3] ty #[.slice (some ⟨g, 0, none⟩) i d.length, .int .i64 (k : Int)]).run Tryz.prog w = .ok (.slice (some ⟨w.heap.size, 0, none⟩) (i + k) gc) (w.drew.alloc (.cells (T ++ Z).toArray 46)) := fun ty => by
    rw [Lib.run_append_grow_zeros (P := Tryz.prog) w 47 3 ty 46 i0 _ .i64 .i64 Tryz.underlying47 Tryz.underlying3 hi hz0 (some ⟨g, 0, none⟩) i d.length T hold k (by omega) (by omega) (by omega) (by omega) (by rw [hz2]; omega) (by rw [hz2]; exact growslice_fits (by omega) (by omega))]
    rw [← hgc, hZ]
    congr 2
    simp
  have hgce : d.length + 1 ≤ gc := by rw [hgc, hk]; exact grownCap_ge _ _ _ _
  have hgcl : gc ≤ 9223372036854775807 := by
    rw [hgc]
    have hle' := grownCap_le_maxLen w (i + k) d.length 46 (by unfold maxLen; omega)
    unfold maxLen at hle'
    omega
  have hZl : 2 + D.length ≤ Z.length := by
    have h2 : (Value.agg #[.string ⟨#[]⟩, .string ⟨#[]⟩]).cells.size = 2 := rfl
    have h3 : Z.length = k * 2 + (gc - (i + k)) * 2 := by
      have h4 := size_zeroCells (Value.agg #[.string ⟨#[]⟩, .string ⟨#[]⟩]).cells k
      have h5 := size_zeroCells (Value.agg #[.string ⟨#[]⟩, .string ⟨#[]⟩]).cells (gc - (i + k))
      rw [h2] at h4 h5
      rw [hZ, Array.toList_append, List.length_append, Array.length_toList, Array.length_toList, h4, h5]
    rw [h3, hDl]
    omega
  obtain ⟨w2, hw2⟩ : ∃ w2, w2 = w.drew.alloc (.cells (T ++ Z).toArray 46) := ⟨_, rfl⟩
  rw [← hw2] at hrun
  obtain ⟨H, hH⟩ : ∃ H, H = w.heap.size := ⟨_, rfl⟩
  rw [← hH] at hrun
  have hgl : g < w.heap.size := (Array.getElem?_eq_some_iff.1 hg).1
  have hbl : b1 < w.heap.size := (Array.getElem?_eq_some_iff.1 hx).1
  have hbb2 : Below w.heap.size w w2 := by rw [hw2]; exact (below_drewN (Below.refl _ w) 1).alloc (by simp) _
  have hH2 : w2.heap[H]? = some (.cells (T ++ Z).toArray 46 (0, 0)) := by rw [hw2, hH]; exact heap_new w.drew _
  have hg2 : w2.heap[g]? = some (.cells cur 46 (0, 0)) := by rw [hbb2.block g hgl]; exact hg
  have hx2 : w2.heap[b1]? = some (.cells #[.string t, .string y] 46 (0, 0)) := by rw [hbb2.block b1 hbl]; exact hx
  have hmin : Nat.min (d.length - i) (d.length - i) = d.length - i := Nat.min_self _
  have hmin1 : Nat.min 1 k = 1 := Nat.min_eq_left (by omega)
  obtain ⟨C1, hC1⟩ : ∃ C1 : Array Value, C1 = ((T ++ Z).take (i * 2) ++ [Value.string t, Value.string y] ++ (T ++ Z).drop (i * 2 + 2)).toArray := ⟨_, rfl⟩
  have hcp1 : ∀ ty dc, (Builtin.copy_ #[47, 47] ty #[.slice (some ⟨H, i * 2, none⟩) k dc, .slice (some ⟨b1, 0, none⟩) 1 1]).run Tryz.prog w2 = .ok (goInt 1) (w2.setRow H C1) := fun ty dc => by
    have h := run_copy_rowK (P := Tryz.prog) w2 47 47 ty 46 2 H (i * 2) k dc ⟨b1, 0, none⟩ 1 1 (T ++ Z).toArray 46 [.string t, .string y] Tryz.underlying47 (by rw [hi]; simp [hz1]) hH2 (by rw [hmin1]; rfl) (World.news_of_block hx2) (by simp; omega) (lenc_two t y)
    rw [h, hmin1, hC1]
    rfl
  have hC1z : C1.size = (T ++ Z).length := by
    rw [hC1, List.size_toArray, List.length_append, List.length_append, List.length_take, List.length_drop, List.length_append, hTl]
    simp only [List.length_cons, List.length_nil]
    omega
  have hH3 : (w2.setRow H C1).heap[H]? = some (.cells C1 46 (0, 0)) := setRow_heap w2 H _ C1 _ _ hH2
  have hg3 : (w2.setRow H C1).heap[g]? = some (.cells cur 46 (0, 0)) := by rw [setRow_other w2 H g C1 (by omega)]; exact hg2
  obtain ⟨C2, hC2⟩ : ∃ C2 : List Value, C2 = C1.toList.take (i * 2 + 2) ++ D ++ C1.toList.drop (i * 2 + 2 + D.length) := ⟨_, rfl⟩
  obtain ⟨w3, hw3⟩ : ∃ w3, w3 = w2.setRow H C1 := ⟨_, rfl⟩
  rw [← hw3] at hcp1 hH3 hg3
  have hcp2 : ∀ ty dc sc, (Builtin.copy_ #[47, 47] ty #[.slice (some ⟨H, (i + 1) * 2, none⟩) (d.length - i) dc, .slice (some ⟨g, i * 2, none⟩) (d.length - i) sc]).run Tryz.prog w3.drew = .ok (goInt ((d.length - i : Nat) : Int)) (w3.drew.setRow H C2.toArray) := fun ty dc sc => by
    have h := run_copy_rowK (P := Tryz.prog) w3.drew 47 47 ty 46 2 H ((i + 1) * 2) (d.length - i) dc ⟨g, i * 2, none⟩ (d.length - i) sc C1 46 D Tryz.underlying47 (by rw [hi]; simp [hz1]) hH3 (by rw [hDl, hmin])
      (fun j v hj => by
        rw [Addr.add_lit, cell_of_row w3.drew g (i * 2 + j) cur _ _ hg3, ← Array.getElem?_toList, hcl, List.getElem?_append_right (by omega), hTl, Nat.add_sub_cancel_left]
        exact hj) (by rw [hC1z, List.length_append, hTl]; omega) hD1
    rw [h, hmin, hC2, show (i + 1) * 2 = i * 2 + 2 by omega]
  have hfin : C2 = T ++ [Value.string t, Value.string y] ++ D ++ (Z.drop 2).drop D.length := by
    rw [hC2, hC1]
    exact two_copies' T D Z [Value.string t, Value.string y] (i * 2) hTl.symm rfl hZl
  have HSL := Lib.hid (show Sl lenc (w3.drew.setRow H C2.toArray) (.slice (some ⟨H, 0, none⟩) (i + k) gc) (d.take i ++ (t, y) :: d.drop i) from
    Sl.row (g := H) (t := 46) (fr := (0, 0)) (R := (Z.drop 2).drop D.length) (setRow_heap w3.drew H C1 C2.toArray _ _ hH3) (by rw [List.toList_toArray, hfin, List.flatMap_append, List.flatMap_cons, ← hT, ← hD]; simp [lenc]) (by simp; omega) (by omega))
  have HBB := Lib.hid (show Below base w (w3.drew.setRow H C2.toArray) by
    rw [hw3]
    exact below_setRow (below_drewN (below_setRow (Below.trans (Below.refl base w) (hbb2.mono (by omega))) (by omega) C1) 1) (by omega) C2.toArray)
  have hw1 : IntKind.i64.wrap ((i : Int) + 1) = (i : Int) + 1 := by rw [IntKind.wrap_i64]; omega
  have hb1 : (0 : Int) ≤ (i : Int) + 1 := by omega
  have htn : ((i : Int) + 1).toNat = i + 1 := by omega
  have hb2 : ¬ (gc = i + 1) := by omega
  have hb3 : ¬ (gc = i) := by omega
  have hb5 : (i : Int) + 1 ≤ ((i + k : Nat) : Int) := by omega
  have hb7 : (i : Int) + 1 ≤ (i : Int) + (k : Int) := by omega
  have hb8 : (i : Int) ≤ (i : Int) + (k : Int) := by omega
  have hkk : (d.length : Int) + 1 - (i : Int) = (k : Int) := by omega
  have hk1 : i + k - (i + 1) = d.length - i := by omega
  have hk2 : i + k - i = k := by omega
  clear hcl hTl hDl hD1 hTc hold hgc hZ hgce hgcl hZl hw2 hH hgl hbl hbb2 hH2 hg2 hx2 hmin hmin1 hC1 hC1z hH3 hg3 hC2 hw3 hfin hT hD hpre hcur hg hx hown hroom hle
  have HK := Lib.hid hk
  clear hk
  go_enter Tryz.func81, Tryz.ntmps81
  go_wp2_with (at_builtin; refine Lib.wpList_append_run _ rfl _ _ _ _ rfl _ _ rfl rfl _ _ (hrun _) ?_)
  go_region_law (refine step_copy_run' rfl _ _ 47 47 rfl _ _ (by simp [Act.eval, Act.put]) (by simp [Act.eval, Act.put]) (hcp2 _ _ _) ?_)
  go_wp2_with fail
  go_ret
  exact ⟨_, rfl, HSL.out, HBB.out⟩
end Go.Proofs.YtogjcaakfnfapaaGreatDoor
namespace Go.Proofs.YtogjcaakfnfapaaGreatDoor
open Go Go.RowKit
set_option linter.unusedVariables false
set_option linter.unusedSimpArgs false
set_option maxRecDepth 100000
theorem ins_any (v : Value) (base i : Nat) (d : List Lb) (t y : ByteArray) (b1 : Nat) (w : World) (hown : w.ownsRow base 46 2 v d.length (d.flatMap lenc)) (hl : d.length ≤ 1000000)
    (hx : w.heap[b1]? = some (.cells #[.string t, .string y] 46 (0, 0))) (hbw : base ≤ w.heap.size) (hne : v.ownBlock ≠ some b1) (hi : i ≤ d.length) :
    Calls Tryz.prog 81 #[v, .int .i64 i, .slice (some ⟨b1, 0, none⟩) 1 1] w fun e w' => ∃ v', e = .returned v' ∧ Sl lenc w' v' (d.take i ++ (t, y) :: d.drop i) ∧ Below base w w' := by
  by_cases he : i = d.length
  · subst he
    have := ins_end v base d t y b1 w hown hl hx hbw
    rw [List.take_of_length_le (Nat.le_refl _), List.drop_of_length_le (Nat.le_refl _)]
    exact this
  · have hlt : i < d.length := by omega
    obtain ⟨g, cap, rfl⟩ : ∃ g cap, v = .slice (some ⟨g, 0, none⟩) d.length cap := by
      rcases hown.2 with ⟨hv, h0⟩ | ⟨g, cap, cur, hv, _⟩
      · omega
      · exact ⟨g, cap, hv⟩
    by_cases hroom : d.length + 1 ≤ cap
    · exact ins_shift g base cap i d t y b1 w hown hl hx hbw (fun e => hne (by rw [e]; rfl)) hlt hroom
    · exact ins_grow g base cap i d t y b1 w hown hl hx hbw hlt (by omega)
def withD (l : List Lb) (name value : ByteArray) : List Lb := if 0 < value.size then putL (name, value) (pickL [name] false l) else pickL [name] false l
def withL (l : List Lb) (name value : ByteArray) : List Lb := if rightL (withD l name value) then withD l name value else l
theorem sl_one (w : World) (s : ByteArray) : Sl senc1 (w.alloc (.cells #[.string s] 9)) (.slice (some ⟨w.heap.size, 0, none⟩) 1 1) [s] := Sl.lit (heap_new _ _) rfl rfl (by omega)
set_option maxHeartbeats 4000000 in
theorem with_any (v : Value) (l : List Lb) (name value : ByteArray) (w : World) (h : Sl lenc w v l) (hl : l.length ≤ 100000) :
    Calls Tryz.prog 57 #[v, .string name, .string value] w fun e w' => ∃ v', e = .returned v' ∧ Sl lenc w' v' (withL l name value) ∧ Below w.heap.size w w' := by
  have HSL := Lib.hid h
  have hb0 : Below w.heap.size w (w.alloc (.cells #[.string name] 9)) := (Below.refl _ _).alloc (Nat.le_refl _) _
  have HD := Lib.hid (drop_own v (.slice (some ⟨w.heap.size, 0, none⟩) 1 1) l [name] (w.alloc (.cells #[.string name] 9)) (h.below hb0 (Nat.le_refl _)) (sl_one w name) (by omega))
  have HB0 := Lib.hid hb0
  clear h hb0
  go_enter Tryz.func57, Tryz.ntmps57
  go_wp2_with fail
  refine HD.out.mono ?_
  rintro e w1 ⟨v1, rfl, hown, hb1⟩
  have HB1 := Lib.hid (HB0.out.trans (hb1.mono (by simp)))
  have hz1 : w.heap.size + 1 ≤ w1.heap.size := by have := hb1.size; simp at this; omega
  have hsz1 : (w.alloc (.cells #[.string name] 9)).heap.size = w.heap.size + 1 := by simp
  rw [hsz1] at hown
  have HSL1 := Lib.hid (HSL.out.below HB1.out (Nat.le_refl _))
  clear hb1 HD hsz1
  have hdl : (pickL [name] false l).length ≤ l.length := pick_len _ _ _
  by_cases hv : 0 < value.size
  · have hv1 : value.toList.isEmpty = false := by have := not_empty_of hv; simpa using this
    have hv2 : ¬ value.toList = [] := not_empty_of hv
    have HW := Lib.hid (show withD l name value = putL (name, value) (pickL [name] false l) by rw [withD, if_pos hv])
    clear hv
    have hsl1 := Sl.own lenc_len (by decide) hown
    have HO1 := Lib.hid hown
    obtain ⟨d, hd⟩ : ∃ d, d = pickL [name] false l := ⟨_, rfl⟩
    rw [← hd] at hdl HW hsl1 HO1
    clear hd hown
    obtain ⟨a, cap, rfl, hlen, -, hc⟩ := hsl1.split lenc_len
    have HC := Lib.hid hc
    clear hc hsl1
    go_wp2_with fail
    go_loopw [8] (fun i wr => ∃ k : Nat, k ≤ d.length ∧ i = .int .i64 k ∧ Hid (∀ j, j < k → cmpS (lx d j).1 name < 0) ∧ wr = w1) (fun i _ => d.length - (intOf i).toNat)
    case atStart => exact ⟨0, Nat.zero_le _, rfl, fun j hj => absurd hj (Nat.not_lt_zero _), rfl⟩
    case round =>
      obtain ⟨k, hk, rfl, HV, rfl⟩ := hrel
      have h00 : (0 : Int) ≤ (k : Int) := by omega
      by_cases hgo : k < d.length ∧ cmpS (lx d k).1 name < 0
      · obtain ⟨hlt, hcs⟩ := hgo
        have hltz : (k : Int) < (d.length : Int) := by omega
        have hltb : decide ((k : Int) < (d.length : Int)) = true := decide_eq_true hltz
        obtain ⟨b, off, rfl, hk0, hk1⟩ := lab_cells HC.out (Below.refl _ _) (Nat.le_refl _) hlt
        have hbl : Op.bytesLess (lx d k).1.toList name.toList = true := by
          rw [less_cmp]
          rcases cmpS_cases (lx d k).1 name with h | h | h
          · exact decide_eq_true h
          · omega
          · omega
        have HCS := Lib.hid hcs
        clear hcs
        go_wp2_with fail
        go_roundw
        case rel => exact ⟨k + 1, by omega, by go_num, put_loop_snoc (x := (name, value)) HV.out HCS.out, by trivial⟩
        case measure => simp [intOf]; omega
      · have HP := Lib.hid (put_at (name, value) d k hk HV.out (fun h h2 => hgo ⟨h, h2⟩))
        have HI := Lib.hid (ins_any (.slice a d.length cap) (w.heap.size + 1) k d name value wr.heap.size (wr.alloc (.cells #[.string name, .string value] 46)) (HO1.out.alloc _) (by omega) (heap_new _ _) (by simp; omega) (fun e => by have := (HO1.out.lt _ e).2; omega) hk)
        have hcl := clone_any v l
        have HCL := Lib.hid hcl
        clear hcl
        by_cases hlt : k < d.length
        case' pos =>
          have hltz : (k : Int) < (d.length : Int) := by omega
          have hltb : decide ((k : Int) < (d.length : Int)) = true := decide_eq_true hltz
          obtain ⟨b, off, rfl, hk0, hk1⟩ := lab_cells HC.out (Below.refl _ _) (Nat.le_refl _) hlt
          have hbl : Op.bytesLess (lx d k).1.toList name.toList = false := by
            rw [less_cmp]
            exact decide_eq_false (fun h => hgo ⟨hlt, by omega⟩)
          clear hgo
          go_wp2_with fail
        case' neg =>
          have hltz : ¬ (k : Int) < (d.length : Int) := by omega
          have hltb : decide ((k : Int) < (d.length : Int)) = false := decide_eq_false hltz
          clear hgo
          go_wp2_with fail
        all_goals
          refine HI.out.mono ?_
          rintro e w3 ⟨v3, rfl, hs3, hb3⟩
          rw [← HP.out, ← HW.out] at hs3
          have HS3 := Lib.hid hs3
          have HB3 := Lib.hid ((HB1.out.alloc (by omega) (.cells #[.string name, .string value] 46)).trans (hb3.mono (by omega)))
          clear hs3 hb3
          have HR := Lib.hid (right_any v3 _ w3 HS3.out)
          go_wp2_with fail
          refine HR.out.mono ?_
          by_cases hr : rightL (withD l name value) = true
          · rw [hr]
            have HF := Lib.hid (show withL l name value = withD l name value by rw [withL, if_pos hr])
            clear hr
            rintro e w4 ⟨rfl, hg4⟩
            have HB4 := Lib.hid (HB3.out.trans (hg4.below.mono HB3.out.size))
            have HS4 := Lib.hid (HS3.out.below hg4.below (Nat.le_refl _))
            clear hg4
            go_wp2_with fail
            go_ret
            exact ⟨_, rfl, by rw [HF.out]; exact HS4.out, HB4.out⟩
          · have hr2 : rightL (withD l name value) = false := by simpa using hr
            rw [hr2]
            have HF := Lib.hid (show withL l name value = l by rw [withL, if_neg hr])
            clear hr hr2
            rintro e w4 ⟨rfl, hg4⟩
            have HB4 := Lib.hid (HB3.out.trans (hg4.below.mono HB3.out.size))
            clear hg4
            have HC4 := Lib.hid (HCL.out w4 (HSL.out.below HB4.out (Nat.le_refl _)) (by omega))
            go_wp2_with fail
            refine HC4.out.mono ?_
            rintro e w5 ⟨v5, rfl, hown5, hb5⟩
            have HB5 := Lib.hid (HB4.out.trans (hb5.mono HB4.out.size))
            have HS5 := Lib.hid (Sl.own lenc_len (by decide) hown5)
            clear hown5 hb5
            go_wp2_with fail
            go_ret
            exact ⟨_, rfl, by rw [HF.out]; exact HS5.out, HB5.out⟩
  · have hv1 : value.toList.isEmpty = true := by have := empty_of (s := value) (by omega); simpa using this
    have hv2 : value.toList = [] := empty_of (by omega)
    have HW := Lib.hid (show withD l name value = pickL [name] false l by rw [withD, if_neg hv])
    have HS3 := Lib.hid (Sl.own lenc_len (by decide) hown)
    rw [← HW.out] at HS3
    have HR := Lib.hid (right_any v1 _ w1 HS3.out)
    have HCL := Lib.hid (clone_any v l)
    clear hv hown hdl
    go_wp2_with fail
    refine HR.out.mono ?_
    by_cases hr : rightL (withD l name value) = true
    · rw [hr]
      have HF := Lib.hid (show withL l name value = withD l name value by rw [withL, if_pos hr])
      clear hr
      rintro e w4 ⟨rfl, hg4⟩
      have HB4 := Lib.hid (HB1.out.trans (hg4.below.mono HB1.out.size))
      have HS4 := Lib.hid (HS3.out.below hg4.below (Nat.le_refl _))
      clear hg4
      go_wp2_with fail
      go_ret
      exact ⟨_, rfl, by rw [HF.out]; exact HS4.out, HB4.out⟩
    · have hr2 : rightL (withD l name value) = false := by simpa using hr
      rw [hr2]
      have HF := Lib.hid (show withL l name value = l by rw [withL, if_neg hr])
      clear hr hr2
      rintro e w4 ⟨rfl, hg4⟩
      have HB4 := Lib.hid (HB1.out.trans (hg4.below.mono HB1.out.size))
      clear hg4
      have HC4 := Lib.hid (HCL.out w4 (HSL.out.below HB4.out (Nat.le_refl _)) (by omega))
      go_wp2_with fail
      refine HC4.out.mono ?_
      rintro e w5 ⟨v5, rfl, hown5, hb5⟩
      have HB5 := Lib.hid (HB4.out.trans (hb5.mono HB4.out.size))
      have HS5 := Lib.hid (Sl.own lenc_len (by decide) hown5)
      clear hown5 hb5
      go_wp2_with fail
      go_ret
      exact ⟨_, rfl, by rw [HF.out]; exact HS5.out, HB5.out⟩
set_option maxHeartbeats 4000000 in
theorem rwith_any (v : Value) (l : List Lb) (name value : ByteArray) (w : World) (h : Sl lenc w v l) (hl : l.length ≤ 100000) :
    Calls Tryz.prog 61 #[v, .string name, .string value] w fun e w' => ∃ v', e = .returned v' ∧ Sl lenc w' v' (withL l name value) ∧ Below w.heap.size w w' := by
  have HSL := Lib.hid h
  have hb0 : Below w.heap.size w (w.alloc (.cells #[.string name] 9)) := (Below.refl _ _).alloc (Nat.le_refl _) _
  have HD := Lib.hid (rdrop_any v (.slice (some ⟨w.heap.size, 0, none⟩) 1 1) l [name] (w.alloc (.cells #[.string name] 9)) (h.below hb0 (Nat.le_refl _)) (sl_one w name) (by omega))
  have HB0 := Lib.hid hb0
  clear h hb0
  go_enter Tryz.func61, Tryz.ntmps61
  go_wp2_with fail
  refine HD.out.mono ?_
  rintro e w1 ⟨v1, rfl, hs1, hb1⟩
  have HB1 := Lib.hid (HB0.out.trans (hb1.mono (by simp)))
  have HS1 := Lib.hid hs1
  clear hb1 HD hs1
  have hdl : (pickL [name] false l).length ≤ 1000000 := by have := pick_len [name] false l; omega
  by_cases hv : 0 < value.size
  · have hv1 : value.toList.isEmpty = false := by have := not_empty_of hv; simpa using this
    have hv2 : ¬ value.toList = [] := not_empty_of hv
    have HW := Lib.hid (show withD l name value = putL (name, value) (pickL [name] false l) by rw [withD, if_pos hv])
    clear hv
    have HP := Lib.hid (rput_any v1 _ name value w1 HS1.out hdl)
    clear hdl
    go_wp2_with fail
    refine HP.out.mono ?_
    rintro e w3 ⟨v3, rfl, hs3, hb3⟩
    rw [← HW.out] at hs3
    have HS3 := Lib.hid hs3
    have HB3 := Lib.hid (HB1.out.trans (hb3.mono HB1.out.size))
    clear hs3 hb3
    have HR := Lib.hid (rright_any v3 _ w3 HS3.out)
    go_wp2_with fail
    refine HR.out.mono ?_
    by_cases hr : rightL (withD l name value) = true
    · rw [hr]
      have HF := Lib.hid (show withL l name value = withD l name value by rw [withL, if_pos hr])
      clear hr
      rintro e w4 ⟨rfl, n4, rfl⟩
      go_wp2_with fail
      go_ret
      exact ⟨_, rfl, by rw [HF.out]; exact HS3.out.drewN _, below_drewN HB3.out _⟩
    · have hr2 : rightL (withD l name value) = false := by simpa using hr
      rw [hr2]
      have HF := Lib.hid (show withL l name value = l by rw [withL, if_neg hr])
      clear hr hr2
      rintro e w4 ⟨rfl, n4, rfl⟩
      go_wp2_with fail
      go_ret
      exact ⟨_, rfl, by rw [HF.out]; exact HSL.out.below (below_drewN HB3.out _) (Nat.le_refl _), below_drewN HB3.out _⟩
  · have hv1 : value.toList.isEmpty = true := by have := empty_of (s := value) (by omega); simpa using this
    have hv2 : value.toList = [] := empty_of (by omega)
    have HW := Lib.hid (show withD l name value = pickL [name] false l by rw [withD, if_neg hv])
    clear hv hdl
    rw [← HW.out] at HS1
    have HR := Lib.hid (rright_any v1 _ w1 HS1.out)
    go_wp2_with fail
    refine HR.out.mono ?_
    by_cases hr : rightL (withD l name value) = true
    · rw [hr]
      have HF := Lib.hid (show withL l name value = withD l name value by rw [withL, if_pos hr])
      clear hr
      rintro e w4 ⟨rfl, n4, rfl⟩
      go_wp2_with fail
      go_ret
      exact ⟨_, rfl, by rw [HF.out]; exact HS1.out.drewN _, below_drewN HB1.out _⟩
    · have hr2 : rightL (withD l name value) = false := by simpa using hr
      rw [hr2]
      have HF := Lib.hid (show withL l name value = l by rw [withL, if_neg hr])
      clear hr hr2
      rintro e w4 ⟨rfl, n4, rfl⟩
      go_wp2_with fail
      go_ret
      exact ⟨_, rfl, by rw [HF.out]; exact HSL.out.below (below_drewN HB1.out _) (Nat.le_refl _), below_drewN HB1.out _⟩
end Go.Proofs.YtogjcaakfnfapaaGreatDoor
namespace Go.Proofs.YtogjcaakfnfapaaGreatDoor
open Go Go.RowKit
set_option linter.unusedVariables false
set_option linter.unusedSimpArgs false
set_option maxRecDepth 100000
set_option maxHeartbeats 2000000 in
theorem vrdrop_own (v vn : Value) (l : List Lb) (names : List ByteArray) (w : World) (h : Sl lenc w v l) (hn : Sl senc1 w vn names) (hl : l.length ≤ 1000000) :
    Calls Tryz.prog 59 #[v, vn] w fun e w' => ∃ v', e = .returned v' ∧ w'.ownsRow w.heap.size 46 2 v' (pickL names false l).length ((pickL names false l).flatMap lenc) ∧ Below w.heap.size w w' := by
  obtain ⟨a, cap, rfl, hlen, -, hc⟩ := h.split lenc_len
  have HC := Lib.hid hc
  have HN := Lib.hid hn
  clear hc h hn
  obtain ⟨i0, hi, hz0, hz1, hz2⟩ := info_parts Tryz.infoLb
  go_enter Tryz.func59, Tryz.ntmps59
  go_wp2_with fail
  go_loopw [5, 6] (fun v i wr => ∃ (k : Nat), k ≤ l.length ∧ i = .int .i64 k ∧ wr.ownsRow w.heap.size 46 2 v (pickL names false (l.take k)).length ((pickL names false (l.take k)).flatMap lenc) ∧ Below w.heap.size w wr) (fun _ i _ => l.length - (intOf i).toNat)
  case atStart => exact ⟨0, Nat.zero_le _, rfl, by simpa [pickL] using World.ownsRow_nil _ _ _ _, Below.refl _ _⟩
  case round =>
    obtain ⟨k, hk, rfl, hown, hb⟩ := hrel
    have hB := hb.size
    have HO := Lib.hid hown
    have HB := Lib.hid hb
    by_cases hlt : k < l.length
    · obtain ⟨b, off, rfl, k0, k1⟩ := lab_cells HC.out hb (Nat.le_refl _) hlt
      have HS := Lib.hid (pick_snoc names false l k hlt)
      have hct := pick_take_len names false l k
      generalize lx l k = x at k0 k1 HS
      clear hb
      obtain ⟨t, y⟩ := x
      simp only at k0 k1
      have hk0 : (0 : Int) ≤ (k : Int) := Int.natCast_nonneg _
      have hk1 : (k : Int) < (l.length : Int) := by omega
      have HCT := Lib.hid (rhas_any vn names t wr (HN.out.below HB.out (Nat.le_refl _)))
      go_wp2_with fail
      refine HCT.out.mono ?_
      rintro e w1 ⟨rfl, rfl⟩
      by_cases he : (hasL names t == false) = true
      · have he2 : hasL names t = false := by simpa using he
        rw [he2]
        have HE := Lib.hid he
        clear he
        go_wp2_with (at_builtin; refine wpList_append_own _ rfl _ _ 47 rfl w.heap.size 46 i0 (.agg #[.string ⟨#[]⟩, .string ⟨#[]⟩]) 2 32 Tryz.underlying47 hi hz0 hz1 hz2 rfl (by decide) _ _ _ rfl (hown.alloc _) ⟨w1.heap.size, 0, none⟩ 1 1 [.string t, .string y] rfl rfl ?c1 ?c2 ?c3 ?c4 ?c5 ?_)
        case c1 => have := two_new w1 (.string t) (.string y) 46; simpa using this
        case c2 => intro u hu; simp at hu; rcases hu with rfl | rfl <;> rfl
        case c3 => unfold maxLen; omega
        case c4 => omega
        case c5 => simp; omega
        intro v' w2 hown' hgrow _
        have HG := Lib.hid hgrow
        have HO' := Lib.hid hown'
        clear hown hgrow hown'
        go_wp2_with fail
        go_roundw
        case rel =>
          refine ⟨k + 1, by omega, by go_num, ?_, (HB.out.alloc hB _).grown HG.out (by simp; omega) (fun j hj => (HO.out.lt j hj).1)⟩
          rw [HS.out, HE.out]
          simp only [if_true, List.length_append, List.flatMap_append]
          exact HO'.out
        case measure => simp [intOf]; omega
      · have he1 : (hasL names t == false) = false := by simpa using he
        have he2 : hasL names t = !false := by cases h1 : hasL names t <;> simp_all
        have HE := Lib.hid he1
        rw [he2]
        clear he he1
        go_wp2_with fail
        go_roundw
        case rel =>
          refine ⟨k + 1, by omega, by go_num, ?_, HB.out⟩
          rw [HS.out, HE.out]
          simpa using HO.out
        case measure => simp [intOf]; omega
    · obtain rfl : k = l.length := by omega
      rw [List.take_of_length_le (Nat.le_refl _)] at HO
      go_wp2_with fail
      go_ret
      exact ⟨_, rfl, HO.out, HB.out⟩
theorem sl_one' (w : World) (s : ByteArray) : Sl senc1 (w.alloc (.cells #[.string s] 9)) (.slice (some ⟨w.heap.size, 0, none⟩) 1 1) [s] := Sl.lit (heap_new _ _) rfl rfl (by omega)
def nmS : ByteArray := ⟨#[95, 95, 110, 97, 109, 101, 95, 95]⟩
/-- Labels without the metric's name. -/
def namelessL (l : List Lb) : List Lb := pickL [nmS] false l
theorem namelessL_len (l : List Lb) : (namelessL l).length ≤ l.length := pick_len _ _ _
set_option maxHeartbeats 2000000 in
theorem nameless_any (v : Value) (l : List Lb) (w : World) (h : Sl lenc w v l) (hl : l.length ≤ 1000000) :
    Calls Tryz.prog 56 #[v] w fun e w' => ∃ a n c, e = .returned (.slice a n c) ∧ Sl lenc w' (.slice a n c) (namelessL l) ∧ (∀ k, (Value.slice a n c).ownBlock = some k → w.heap.size ≤ k) ∧ Below w.heap.size w w' := by
  have hb0 : Below w.heap.size w (w.alloc (.cells #[.string nmS] 9)) := (Below.refl _ _).alloc (Nat.le_refl _) _
  have HD := Lib.hid (drop_own v (.slice (some ⟨w.heap.size, 0, none⟩) 1 1) l [nmS] (w.alloc (.cells #[.string nmS] 9)) (h.below hb0 (Nat.le_refl _)) (sl_one' w nmS) hl)
  have HB0 := Lib.hid hb0
  clear h hb0
  unfold nmS at HD
  go_enter Tryz.func56, Tryz.ntmps56
  go_wp2_with fail
  refine HD.out.mono ?_
  rintro e w1 ⟨v', rfl, ho, hb⟩
  have hs : Sl lenc w1 v' (namelessL l) := Sl.own lenc_len (by decide) ho
  obtain ⟨a, c, rfl, h1⟩ := id hs
  have HS := Lib.hid hs
  have HB := Lib.hid (HB0.out.trans (hb.mono (by simp)))
  have HO := Lib.hid (fun k hk => Nat.le_trans (Nat.le_succ _) (by have := (ho.lt k hk).1; simpa using this) : ∀ k, (Value.slice a (namelessL l).length c).ownBlock = some k → w.heap.size ≤ k)
  generalize (namelessL l).length = n at HS HO ⊢
  clear h1 hs ho hb
  go_wp2_with fail
  go_ret
  exact ⟨a, n, c, rfl, HS.out, HO.out, HB.out⟩
end Go.Proofs.YtogjcaakfnfapaaGreatDoor
namespace Go.Proofs.YtogjcaakfnfapaaGreatDoor
open Go Go.RowKit
set_option linter.unusedVariables false
set_option linter.unusedSimpArgs false
/-- The labels by which points meet. -/
def signL (how : Int) (names : List ByteArray) (l : List Lb) : List Lb := if how = 0 then namelessL l else groupL how names l
theorem sign_len (how : Int) (names : List ByteArray) (l : List Lb) : (signL how names l).length ≤ l.length := by
  unfold signL
  split
  · exact namelessL_len l
  · exact group_len _ _ _
theorem SizesOk.sign {l : List Lb} (h : SizesOk l) (how : Int) (names : List ByteArray) : SizesOk (signL how names l) := by
  unfold signL
  split
  · exact fun x hx => h x (by unfold namelessL pickL at hx; exact (List.mem_filter.1 hx).1)
  · exact h.group how names
def sgP (how : Int) (names : List ByteArray) (p : Pt) : List Lb := signL how names p.1
def sgZ (how : Int) (names : List ByteArray) (z : ZPt) : List Lb := signL how names z.2.1
/-- Whether two have one sign. -/
def twiceB {β : Type} (gl : β → List Lb) (zs : List β) : Bool := decide (¬ (zs.map gl).Nodup)
theorem twice_map {β γ : Type} (f : β → γ) (gl : γ → List Lb) (zs : List β) : twiceB (fun z => gl (f z)) zs = twiceB gl (zs.map f) := by
  unfold twiceB; rw [List.map_map]; rfl
theorem grp_two {β : Type} (gl : β → List Lb) (zs : List β) (h : ∀ z ∈ zs, SizesOk (gl z)) : twiceB gl zs = true ↔ ∃ s, 2 ≤ (grpB gl zs s).length := by
  unfold twiceB
  rw [decide_eq_true_eq]
  constructor
  · intro hn
    apply Classical.byContradiction
    intro hx
    apply hn
    rw [List.Nodup, List.pairwise_map, List.pairwise_iff_getElem]
    intro i j hi hj hij he
    apply hx
    refine ⟨keyL (gl zs[j]), ?_⟩
    have e1 : zs = zs.take j ++ zs.drop j := (List.take_append_drop j zs).symm
    have e2 : zs.drop j = zs[j] :: zs.drop (j + 1) := List.drop_eq_getElem_cons hj
    have e3 : grpB gl zs (keyL (gl zs[j])) = grpB gl (zs.take j) (keyL (gl zs[j])) ++ grpB gl (zs.drop j) (keyL (gl zs[j])) := by
      unfold grpB
      rw [← List.filter_append, List.take_append_drop]
    have e4 : zs[i] ∈ grpB gl (zs.take j) (keyL (gl zs[j])) := by
      refine List.mem_filter.2 ⟨?_, beq_iff_eq.2 (by rw [he])⟩
      rw [List.mem_take_iff_getElem]
      exact ⟨i, by omega, rfl⟩
    have e5 : 0 < (grpB gl (zs.take j) (keyL (gl zs[j]))).length := List.length_pos_of_mem e4
    have e6 : 0 < (grpB gl (zs.drop j) (keyL (gl zs[j]))).length := by
      refine List.length_pos_of_mem (a := zs[j]) (List.mem_filter.2 ⟨by rw [e2]; exact List.mem_cons_self .., beq_iff_eq.2 rfl⟩)
    rw [e3, List.length_append]
    omega
  · rintro ⟨s, hs⟩ hn
    have hm : ((grpB gl zs s).map gl).Nodup := by
      refine hn.sublist ?_
      exact (List.filter_sublist).map gl
    have hall : ∀ z ∈ grpB gl zs s, z ∈ zs ∧ (keyL (gl z)).toList = s.toList := fun z hz => by
      have := List.mem_filter.1 hz
      exact ⟨this.1, by simpa using this.2⟩
    generalize grpB gl zs s = l at hs hm hall
    match l, hs, hm, hall with
    | a :: b :: r, _, hm, hall =>
      rw [List.map_cons, List.nodup_cons] at hm
      apply hm.1
      have ha := hall a (by simp)
      have hb := hall b (by simp)
      rw [keyL_inj (h a ha.1) (h b hb.1) (ha.2.trans hb.2.symm)]
      simp
/-- Whether one has that sign. -/
def hasSg {β : Type} (gl : β → List Lb) (zs : List β) (g : List Lb) : Bool := decide (g ∈ zs.map gl)
theorem hasSg_map {β γ : Type} (f : β → γ) (gl : γ → List Lb) (zs : List β) (g : List Lb) : hasSg (fun z => gl (f z)) zs g = hasSg gl (zs.map f) g := by
  unfold hasSg; rw [List.map_map]; rfl
theorem grp_has {β : Type} (gl : β → List Lb) (zs : List β) (h : ∀ z ∈ zs, SizesOk (gl z)) {g : List Lb} (hg : SizesOk g) : (!(grpB gl zs (keyL g)).isEmpty) = hasSg gl zs g := by
  rw [grp_memb gl h hg, Bool.eq_iff_iff]
  unfold hasSg
  simp only [Bool.not_eq_true', List.isEmpty_eq_false_iff, decide_eq_true_eq]
  constructor
  · intro h0
    obtain ⟨z, hz⟩ := List.exists_mem_of_ne_nil _ h0
    obtain ⟨h1, h2⟩ := memb_mem gl hz
    exact List.mem_map.2 ⟨z, h1, h2⟩
  · intro h0 h1
    obtain ⟨z, hz, e⟩ := List.mem_map.1 h0
    have : z ∈ membG gl zs g := List.mem_filter.2 ⟨hz, by simpa using e⟩
    rw [h1] at this; cases this
/-- A match's check. -/
def mchkL (how : Int) (names : List ByteArray) (card : Int) (incl : List ByteArray) : Int :=
  if chkL how names ≠ 0 ∨ card < 0 ∨ 2 < card ∨ (card = 0 ∧ 0 < incl.length) ∨ onceL incl = false ∨ (how = 1 ∧ incl.any (hasL names) = true) then 1 else 0
/-- Labels taken over. -/
def withsL (one : List Lb) (incl : List ByteArray) (l : List Lb) : List Lb := incl.foldl (fun l n => withL l n (getL n one)) l
theorem withs_take (one : List Lb) (incl : List ByteArray) (l : List Lb) (k : Nat) (h : k < incl.length) : withsL one (incl.take (k + 1)) l = withL (withsL one (incl.take k) l) incl[k] (getL incl[k] one) := by
  unfold withsL
  rw [List.take_succ_eq_append_getElem h, List.foldl_append]
  rfl
theorem right_len {l : List Lb} (h : rightL l = true) : l.length ≤ 32 := ((right_iff l).1 h).2.2
theorem with_len {l : List Lb} (name value : ByteArray) {n : Nat} (h : l.length ≤ n) (hn : 32 ≤ n) : (withL l name value).length ≤ n := by
  unfold withL
  split
  · rename_i h1
    exact Nat.le_trans (right_len h1) hn
  · exact h
theorem withs_len (one : List Lb) {n : Nat} (hn : 32 ≤ n) : ∀ (incl : List ByteArray) (l : List Lb), l.length ≤ n → (withsL one incl l).length ≤ n
  | [], l, h => h
  | a :: incl, l, h => by
    show (withsL one incl _).length ≤ n
    exact withs_len one hn incl _ (with_len _ _ h hn)
/-- The labels of a pair. -/
def pairL (card how : Int) (names incl : List ByteArray) (a b : List Lb) : List Lb :=
  if card = 0 then signL how names a else if card = 2 then withsL a incl (namelessL b) else withsL b incl (namelessL a)
/-- A pair's value, and whether it stays. -/
def cellV (op : Int) (flag : Bool) (x y : Nat) : Nat := if op < 5 ∨ flag = true then opV op x y else x
def cellB (op : Int) (flag : Bool) (x y : Nat) : Bool := if op < 5 ∨ flag = true then opOk op else holdsF op x y
def pairP (op card how : Int) (names incl : List ByteArray) (flag : Bool) (p q : Pt) : List Pt :=
  if cellB op flag p.2 q.2 = true then [(pairL card how names incl p.1 q.1, cellV op flag p.2 q.2)] else []
def binP (op card how : Int) (names incl : List ByteArray) (flag : Bool) (ps qs : List Pt) : List Pt :=
  ps.flatMap fun p => (membG (sgP how names) qs (sgP how names p)).flatMap (pairP op card how names incl flag p)
/-- What Binary answers. -/
def BinR (op card how : Int) (names incl : List ByteArray) (flag : Bool) (ps qs : List Pt) (e : Ending) (w' : World) : Prop :=
  ((op < 1 ∨ 10 < op ∨ mchkL how names card incl ≠ 0) ∧ e = .returned (.tuple #[.slice none 0 0, .int .i64 1])) ∨
  ((1 ≤ op ∧ op ≤ 10 ∧ mchkL how names card incl = 0) ∧ ((card ≠ 1 ∧ twiceB (sgP how names) ps = true) ∨ (card ≠ 2 ∧ twiceB (sgP how names) qs = true)) ∧ e = .returned (.tuple #[.slice none 0 0, .int .i64 5])) ∨
  ((1 ≤ op ∧ op ≤ 10 ∧ mchkL how names card incl = 0) ∧ ¬ ((card ≠ 1 ∧ twiceB (sgP how names) ps = true) ∨ (card ≠ 2 ∧ twiceB (sgP how names) qs = true)) ∧ NR (binP op card how names incl flag ps qs) e w')
/-- What a set operator keeps. -/
def keepB (op : Int) (h : Bool) : Bool := (op == 11 && h) || (op == 13 && !h) || op == 12 || op == 14
def addB (op : Int) (h : Bool) : Bool := !h && (op == 12 || op == 14)
def setP (op how : Int) (names : List ByteArray) (ps qs : List Pt) : List Pt :=
  ps.filter (fun p => keepB op (hasSg (sgP how names) qs (sgP how names p))) ++ qs.filter (fun q => addB op (hasSg (sgP how names) ps (sgP how names q)))
/-- What Set answers. -/
def SetR (op how : Int) (names : List ByteArray) (ps qs : List Pt) (e : Ending) (w' : World) : Prop :=
  ((op < 11 ∨ 14 < op ∨ chkL how names ≠ 0) ∧ e = .returned (.tuple #[.slice none 0 0, .int .i64 1])) ∨
  ((11 ≤ op ∧ op ≤ 14 ∧ chkL how names = 0) ∧ NR (setP op how names ps qs) e w')
end Go.Proofs.YtogjcaakfnfapaaGreatDoor
namespace Go.Proofs.YtogjcaakfnfapaaGreatDoor
open Go Go.RowKit
set_option linter.unusedVariables false
set_option linter.unusedSimpArgs false
set_option maxRecDepth 100000
set_option maxHeartbeats 4000000 in
theorem sign_S (how : Int) (v vn : Value) (l : List Lb) (names : List ByteArray) (w : World) (h : Sl lenc w v l) (hn : Sl senc1 w vn names) (hl : l.length ≤ 100000) :
    Calls Tryz.prog 55 #[v, .agg #[.int .i64 how, vn]] w fun e w' => ∃ a n c, e = .returned (.slice a n c) ∧ Sl lenc w' (.slice a n c) (signL how names l) ∧ (∀ k, (Value.slice a n c).ownBlock = some k → w.heap.size ≤ k) ∧ Below w.heap.size w w' := by
  obtain ⟨av, cv, rfl, -, -⟩ := h.len lenc_pos
  obtain ⟨an, cn, rfl, -, -⟩ := hn.strings
  have hb0 : Below w.heap.size w (w.alloc (.cells #[.int .i64 how, .slice an names.length cn] 24)) := (Below.refl _ _).alloc (Nat.le_refl _) _
  have HB0 := Lib.hid hb0
  obtain ⟨g, hg⟩ : ∃ g, g = signL how names l := ⟨_, rfl⟩
  rw [← hg]
  by_cases h0 : how = 0
  · subst h0
    rw [signL, if_pos rfl] at hg
    have HC := Lib.hid (nameless_any _ l _ (h.below hb0 (Nat.le_refl _)) (by omega))
    rw [← hg] at HC
    generalize l.length = ll at HC ⊢
    generalize names.length = nn at HC HB0 ⊢
    clear h hn hb0 hg
    go_enter Tryz.func55, Tryz.ntmps55
    go_wp2_with fail
    refine HC.out.mono ?_
    rintro e w1 ⟨a, n, c, rfl, hs, ho, hb⟩
    have HS := Lib.hid hs
    have HO := Lib.hid ho
    have HB := Lib.hid hb
    clear hs ho hb
    go_wp2_with fail
    go_ret
    exact ⟨a, n, c, rfl, HS.out, fun k hk => Nat.le_trans (by simp) (HO.out k hk), HB0.out.trans (HB.out.mono (by simp))⟩
  · rw [signL, if_neg h0] at hg
    have HC := Lib.hid (group_S _ _ how l names _ (h.below hb0 (Nat.le_refl _)) (hn.below hb0 (Nat.le_refl _)) hl)
    rw [← hg] at HC
    have b0 : (how == 0) = false := by simpa using h0
    generalize l.length = ll at HC ⊢
    generalize names.length = nn at HC HB0 ⊢
    clear h hn hb0 hg h0
    go_enter Tryz.func55, Tryz.ntmps55
    go_wp2_with fail
    refine HC.out.mono ?_
    rintro e w1 ⟨a, n, c, rfl, hs, ho, hb⟩
    have HS := Lib.hid hs
    have HO := Lib.hid ho
    have HB := Lib.hid hb
    clear hs ho hb
    go_wp2_with fail
    go_ret
    exact ⟨a, n, c, rfl, HS.out, fun k hk => Nat.le_trans (by simp) (HO.out k hk), HB0.out.trans (HB.out.mono (by simp))⟩
set_option maxHeartbeats 4000000 in
theorem rsign_S (how : Int) (v vn : Value) (l : List Lb) (names : List ByteArray) (w : World) (h : Sl lenc w v l) (hn : Sl senc1 w vn names) (hl : l.length ≤ 100000) (hnl : names.length ≤ 100000) :
    Calls Tryz.prog 29 #[v, .agg #[.int .i64 how, vn]] w fun e w' => ∃ a n c, e = .returned (.slice a n c) ∧ Sl lenc w' (.slice a n c) (signL how names l) ∧ (∀ k, (Value.slice a n c).ownBlock = some k → w.heap.size ≤ k) ∧ Below w.heap.size w w' := by
  obtain ⟨av, cv, rfl, -, -⟩ := h.len lenc_pos
  obtain ⟨an, cn, rfl, -, -⟩ := hn.strings
  have hb0 : Below w.heap.size w (w.alloc (.cells #[.int .i64 how, .slice an names.length cn] 24)) := (Below.refl _ _).alloc (Nat.le_refl _) _
  have HB0 := Lib.hid hb0
  obtain ⟨g, hg⟩ : ∃ g, g = signL how names l := ⟨_, rfl⟩
  rw [← hg]
  by_cases h0 : how = 0
  · subst h0
    rw [signL, if_pos rfl] at hg
    have hb1 : Below w.heap.size w ((w.alloc (.cells #[.int .i64 0, .slice an names.length cn] 24)).alloc (.cells #[.string nmS] 9)) := hb0.alloc (by simp) _
    have hd := rdrop_own _ (.slice (some ⟨w.heap.size + 1, 0, none⟩) 1 1) l [nmS] _ (h.below hb1 (Nat.le_refl _)) (by have := sl_one' (w.alloc (.cells #[.int .i64 0, .slice an names.length cn] 24)) nmS; simpa using this) (by omega)
    rw [show pickL [nmS] false l = g by rw [hg]; rfl] at hd
    have HC := Lib.hid hd
    have HB1 := Lib.hid hb1
    unfold nmS at HC HB1
    generalize l.length = ll at HC ⊢
    generalize names.length = nn at HC HB0 HB1 ⊢
    clear h hn hb0 hg hb1 hd
    go_enter Tryz.func29, Tryz.ntmps29
    go_wp2_with fail
    refine HC.out.mono ?_
    rintro e w1 ⟨v', rfl, ho, hb⟩
    have hs : Sl lenc w1 v' g := Sl.own lenc_len (by decide) ho
    obtain ⟨a, c, rfl, -⟩ := id hs
    have HS := Lib.hid hs
    have HO := Lib.hid (fun k hk => (ho.lt k hk).1)
    have HB := Lib.hid (HB1.out.trans (hb.mono (by simp; omega)))
    generalize g.length = gl at HS HO ⊢
    clear hs ho hb
    go_wp2_with fail
    go_ret
    exact ⟨a, gl, c, rfl, HS.out, fun k hk => Nat.le_trans (by simp; omega) (HO.out k hk), HB.out⟩
  · rw [signL, if_neg h0] at hg
    have HC := Lib.hid (rgroup_S _ _ how l names _ (h.below hb0 (Nat.le_refl _)) (hn.below hb0 (Nat.le_refl _)) hl hnl)
    rw [← hg] at HC
    have b0 : (how == 0) = false := by simpa using h0
    generalize l.length = ll at HC ⊢
    generalize names.length = nn at HC HB0 ⊢
    clear h hn hb0 hg h0
    go_enter Tryz.func29, Tryz.ntmps29
    go_wp2_with fail
    refine HC.out.mono ?_
    rintro e w1 ⟨a, n, c, rfl, hs, ho, hb⟩
    have HS := Lib.hid hs
    have HO := Lib.hid ho
    have HB := Lib.hid hb
    clear hs ho hb
    go_wp2_with fail
    go_ret
    exact ⟨a, n, c, rfl, HS.out, fun k hk => Nat.le_trans (by simp) (HO.out k hk), HB0.out.trans (HB.out.mono (by simp))⟩
theorem key_max {g : List Lb} (hg : SizesOk g) (hl : g.length ≤ 100000) : (keyL g).size ≤ maxLen := by
  have h1 := keyBytes_len hg
  show (keyBytes g).toArray.size ≤ _
  rw [List.size_toArray]
  unfold maxLen
  omega
set_option maxHeartbeats 4000000 in
/-- A sign's text. -/
theorem signkey_any (how : Int) (v vn : Value) (l : List Lb) (names : List ByteArray) (w : World) (h : Sl lenc w v l) (hn : Sl senc1 w vn names) (hl : l.length ≤ 1000) (hs : SizesOk l) (ht : Tab w) :
    Calls Tryz.prog 23 #[v, .agg #[.int .i64 how, vn]] w fun e w' => e = .returned (.string (keyL (signL how names l))) ∧ Below w.heap.size w w' := by
  obtain ⟨av, cv, rfl, -, -⟩ := h.len lenc_pos
  obtain ⟨an, cn, rfl, -, -⟩ := hn.strings
  have hb0 : Below w.heap.size w (w.alloc (.cells #[.int .i64 how, .slice an names.length cn] 24)) := (Below.refl _ _).alloc (Nat.le_refl _) _
  have HB0 := Lib.hid hb0
  have HT := Lib.hid ht
  have HSZ := Lib.hid (hs.sign how names)
  have HSL := Lib.hid (Nat.le_trans (sign_len how names l) hl)
  have HC := Lib.hid (sign_S how _ _ l names _ (h.below hb0 (Nat.le_refl _)) (hn.below hb0 (Nat.le_refl _)) (by omega))
  generalize signL how names l = g at HC HSZ HSL ⊢
  obtain ⟨ks, hks⟩ : ∃ s, s = keyL g := ⟨_, rfl⟩
  rw [← hks]
  have HKS := Lib.hid hks
  clear hks
  generalize l.length = ll at HC ⊢
  generalize names.length = nn at HC HB0 ⊢
  clear h hn hb0 hs ht hl
  go_enter Tryz.func23, Tryz.ntmps23
  go_wp2_with fail
  refine HC.out.mono ?_
  rintro e w1 ⟨a, n, c, rfl, hs, -, hb⟩
  have hb1 := HB0.out.trans (hb.mono (by simp))
  have HK := Lib.hid (key_any _ g w1 hs (by have := HSL.out; omega) HSZ.out (HT.out.below hb1 (Nat.le_refl _)))
  rw [← HKS.out] at HK
  have HB1 := Lib.hid hb1
  clear hs hb hb1 HC
  go_wp2_with fail
  refine HK.out.mono ?_
  rintro e w2 ⟨rfl, hb2⟩
  have HB2 := Lib.hid (HB1.out.trans (hb2.mono HB1.out.size))
  clear hb2
  go_wp2_with fail
  go_ret
  exact ⟨rfl, HB2.out⟩
end Go.Proofs.YtogjcaakfnfapaaGreatDoor
namespace Go.Proofs.YtogjcaakfnfapaaGreatDoor
open Go Go.RowKit Go.Maps
set_option linter.unusedVariables false
set_option linter.unusedSimpArgs false
set_option maxRecDepth 100000
set_option maxHeartbeats 8000000 in
theorem signs_go (how : Int) (v vn : Value) (names : List ByteArray) (zs : List ZPt) (w : World) (hv : Sl zenc w v zs) (hzl : ∀ z ∈ zs, Sl lenc w z.1 z.2.1) (hn : Sl senc1 w vn names)
    (hok : ∀ z ∈ zs, z.2.1.length ≤ 1000 ∧ SizesOk z.2.1) (hl : zs.length ≤ 300) (ht : Tab w) :
    Calls Tryz.prog 21 #[v, .agg #[.int .i64 how, vn]] w fun e w' => ∃ b base V, e = .returned (.map (some b)) ∧ w.heap.size ≤ b ∧ GMap w' base b zs.length (fun s => grpB (sgZ how names) zs s) V ∧ Below w.heap.size w w' := by
  obtain ⟨i0, hi, hz0, hz1, hz2⟩ := info_parts Tryz.infoPt
  have hmm := @run_makeMap Tryz.prog
  have HSN := Lib.hid hn
  obtain ⟨an, cn, rfl, hlen, -⟩ := hn.strings
  have HOK := Lib.hid hok
  have HTB := Lib.hid ht
  have HZL := Lib.hid hzl
  obtain ⟨av, cv, rfl, hlv, -, hcv⟩ := hv.split zenc_len
  have HCV := Lib.hid hcv
  clear hv hn hok ht hzl hcv
  obtain ⟨nn, hnn⟩ : ∃ n, n = names.length := ⟨_, rfl⟩
  rw [← hnn] at HSN hlen ⊢
  clear hnn
  obtain ⟨N, hN⟩ : ∃ n, n = zs.length := ⟨_, rfl⟩
  rw [← hN] at hlv hl ⊢
  have HN := Lib.hid hN
  clear hN
  obtain ⟨w1, hw1⟩ : ∃ w1, w1 = w.alloc (.cells #[.int .i64 how, .slice an nn cn] 24) := ⟨_, rfl⟩
  obtain ⟨bg, hbg⟩ : ∃ b, b = w.heap.size := ⟨_, rfl⟩
  have hs1 : w1.heap.size = bg + 1 := by rw [hw1, hbg]; simp
  have g0 : w1.cell? ⟨bg, 0, none⟩ = some (.int .i64 how) := by rw [hw1, hbg]; simp
  have g1 : w1.cell? ⟨bg, 1, none⟩ = some (.slice an nn cn) := by rw [hw1, hbg]; simp
  have HB1 := Lib.hid (show Below w.heap.size w w1 by rw [hw1]; exact (Below.refl _ _).alloc (Nat.le_refl _) _)
  have HW1 := Lib.hid hw1
  have HBG := Lib.hid hbg
  have G0 := Lib.hid g0
  have G1 := Lib.hid g1
  have HS1 := Lib.hid hs1
  have HMADE := Lib.hid (GMap.made w1)
  rw [hs1] at HMADE
  clear g0 g1 hw1 hbg
  go_enter Tryz.func21, Tryz.ntmps21
  go_wp2_with fail
  rw [← HW1.out, ← HBG.out]
  go_loopw [12] (fun i wr => ∃ (j : Nat) (V : ByteArray → Value), j ≤ N ∧ i = .int .i64 j ∧ Hid (GMap wr (bg + 1 + 1) (bg + 1) j (fun s => grpB (sgZ how names) (zs.take j) s) V) ∧ Hid (Below w1.heap.size w1 wr)) (fun i _ => N - (intOf i).toNat)
  case atStart => exact ⟨0, _, Nat.zero_le _, rfl, HMADE.out, (Below.refl _ _).alloc (Nat.le_refl _) _⟩
  case round =>
    obtain ⟨j, V, hj, rfl, HG, HB⟩ := hrel
    have hBz := HB.out.size
    have h00 : (0 : Int) ≤ (j : Int) := by omega
    by_cases hlt : j < N
    · have hltz : (j : Int) < (N : Int) := by omega
      have hjz : j < zs.length := by have := HN.out; omega
      obtain ⟨b, off, rfl, hd⟩ := HCV.out j hjz
      have hbw : Below w.heap.size w wr := HB1.out.trans (HB.out.mono HB1.out.size)
      obtain ⟨z, hzj⟩ : ∃ z, z = zs[j] := ⟨_, rfl⟩
      have hzm : z ∈ zs := by rw [hzj]; exact List.getElem_mem hjz
      rw [← hzj] at hd
      have hslz := (HZL.out z hzm).below hbw (Nat.le_refl _)
      obtain ⟨lv, zl, zb⟩ := z
      have q0 : wr.cell? ⟨b, off + j * 2, none⟩ = some lv := cell_below hbw (Nat.le_refl _) (hd 0 _ rfl)
      have q1 : wr.cell? ⟨b, off + j * 2 + 1, none⟩ = some (.float .f64 zb) := cell_below hbw (Nat.le_refl _) (hd 1 _ rfl)
      obtain ⟨a2, n2, c2, rfl⟩ : ∃ a2 n2 c2, lv = .slice a2 n2 c2 := by
        obtain ⟨a2, c2, e, -⟩ := hslz
        exact ⟨a2, _, c2, e⟩
      have G0' := cell_below HB.out (Nat.le_refl _) G0.out
      have G1' := cell_below HB.out (Nat.le_refl _) G1.out
      have hbl : b < wr.heap.size := World.block_lt_of_cell? wr _ q0
      have hbgl : bg < wr.heap.size := World.block_lt_of_cell? wr _ G0'
      have hbne : bg ≠ wr.heap.size := by omega
      have hgok : SizesOk zl := (HOK.out _ hzm).2
      have hgl : zl.length ≤ 1000 := (HOK.out _ hzm).1
      have HGRP := Lib.hid (fun w' (hb : Below wr.heap.size wr w') => signkey_any how (.slice a2 n2 c2) (.slice an nn cn) zl names w' (hslz.below hb (Nat.le_refl _)) ((HSN.out.below hbw (Nat.le_refl _)).below hb (Nat.le_refl _)) hgl hgok (HTB.out.below (hbw.trans (hb.mono hbw.size)) (Nat.le_refl _)))
      obtain ⟨s, hs⟩ : ∃ s, s = keyL (signL how names zl) := ⟨_, rfl⟩
      have HKS := Lib.hid (show s.size ≤ maxLen by rw [hs]; exact key_max (hgok.sign how names) (by have := sign_len how names zl; omega))
      rw [← hs] at HGRP
      have HSS := Lib.hid hs
      have HZJ := Lib.hid hzj
      have HZM := Lib.hid hzm
      clear hd hzj hzm hslz hbw hgok hgl hs
      go_wp2_with fail
      refine (HGRP.out _ ((Below.refl _ _).alloc (Nat.le_refl _) _)).mono ?_
      rintro e w5 ⟨rfl, hb4⟩
      have hb5 : Below wr.heap.size wr w5 := ((Below.refl wr.heap.size wr).alloc (Nat.le_refl _) (.cells #[.slice a2 n2 c2, .float .f64 zb] 50)).trans (hb4.mono (by simp))
      have r0 : w5.cell? ⟨wr.heap.size, 0, none⟩ = some (.slice a2 n2 c2) := cell_below hb4 (Nat.le_refl _) (by simp)
      have r1 : w5.cell? ⟨wr.heap.size, 1, none⟩ = some (.float .f64 zb) := cell_below hb4 (Nat.le_refl _) (by simp)
      have hG6 := HG.out.below hb5 (Nat.le_refl _)
      have hB6 := HB.out.trans (hb5.mono hBz)
      have hz6 : wr.heap.size < w5.heap.size := World.block_lt_of_cell? w5 _ r0
      have HLK6 := Lib.hid (hG6.m.look Tryz.underlying53 (zero_pts _) HKS.out)
      obtain ⟨F, hF⟩ : ∃ F, F = grpB (sgZ how names) (zs.take j) s := ⟨_, rfl⟩
      have hr6 : w5.ownsRow (bg + 1 + 1) 50 2 (V s) (grpB (sgZ how names) (zs.take j) s).length ((grpB (sgZ how names) (zs.take j) s).flatMap zenc) := hG6.r s
      have hFl : F.length ≤ 1000 := by rw [hF]; exact Nat.le_trans (List.length_filter_le _ _) (by rw [List.length_take]; omega)
      rw [← hF] at hr6
      have HG6 := Lib.hid hG6
      have HB6 := Lib.hid hB6
      have HR6 := Lib.hid hr6
      have HF := Lib.hid hF
      have hb1 : bg + 1 + 1 ≤ w5.heap.size := by omega
      clear hb4 hb5 hG6 hB6 hr6 hF HGRP
      go_wp2_with (first
        | (at_lookup; refine wpList_lookup_of _ rfl _ _ _ false rfl _ _ _ rfl rfl HLK6.out ?_)
        | (at_builtin
           refine wpList_append_own_at _ rfl (.tmp 24) (.tmp 26) _ rfl (bg + 1 + 1) 50 i0 _ 2 32 Tryz.underlying27 hi hz0 hz1 hz2 rfl (by decide) (V s) F.length (F.flatMap zenc) rfl (World.ownsRow.alloc HR6.out _) ⟨w5.heap.size, 0, none⟩ 1 1 [.slice a2 n2 c2, .float .f64 zb] rfl rfl (World.news_of_block (heap_new w5 _)) (by intro u hu; simp at hu; rcases hu with rfl | rfl <;> rfl) (by unfold maxLen; omega) (by omega) (by simp; omega) ?_
           intro v' w7 hown' hgrow hnil hat
           have hput := (HG6.out.below ((Below.refl w5.heap.size w5).alloc (Nat.le_refl _) (.cells #[.slice a2 n2 c2, .float .f64 zb] 50)) (Nat.le_refl _)).put (s := s) (v' := v') (zs := F ++ [(.slice a2 n2 c2, zl, zb)]) (n := j) HKS.out (by unfold maxLen; omega) (by simp) hgrow (by rw [List.flatMap_append, List.length_append]; exact hown') (by rcases hat with e | e; exact .inl e; exact .inr ⟨_, e, Nat.le_refl _⟩)
           have HPUT := Lib.hid hput
           have HGR7 := Lib.hid hgrow
           clear hput hown' hgrow hnil hat)
        | (at_mapUpdate; refine wpList_mapUpdate_of _ rfl _ _ _ _ rfl _ _ _ rfl rfl rfl HPUT.out ?_; rintro w8 ⟨hG8, hg8⟩))
      have hs1 := HS1.out
      have hb8 : Below w1.heap.size w1 w8 := ((HB6.out.alloc (by omega) _).grown HGR7.out (by simp; omega) (fun q hq => by have := (HR6.out.lt q hq).1; omega)).grown hg8 (by have := HGR7.out.size; simp at this; omega) (fun q hq => by injection hq with hq; omega)
      have hG9 : GMap w8 (bg + 1 + 1) (bg + 1) (j + 1) (fun s => grpB (sgZ how names) (zs.take (j + 1)) s) (upd V s v') := by
        have h1 := grp_take (sgZ how names) zs j (by have := HN.out; omega)
        have h2 : zs[j]'(by have := HN.out; omega) = (.slice a2 n2 c2, zl, zb) := HZJ.out.symm
        have h3 : keyL (sgZ how names (.slice a2 n2 c2, zl, zb)) = s := by rw [HSS.out]; rfl
        rw [h2, h3, ← HF.out] at h1
        rw [h1]; exact hG8
      have HB8 := Lib.hid hb8
      have HG9 := Lib.hid hG9
      clear hb8 hG9 hG8 hg8
      go_wp2_with fail
      go_roundw
      case rel => exact ⟨j + 1, upd V s v', by omega, by go_num, HG9.out, HB8.out⟩
      case measure => simp [intOf]; omega
    · obtain rfl : j = N := by omega
      have HG0 := Lib.hid (show GMap wr (bg + 1 + 1) (bg + 1) j (fun s => grpB (sgZ how names) zs s) V by
        have := HG.out
        rwa [List.take_of_length_le (by have := HN.out; omega)] at this)
      go_wp2_with fail
      go_ret
      refine ⟨_, _, V, rfl, ?_, HG0.out, HB1.out.trans (HB.out.mono HB1.out.size)⟩
      have := HBG.out
      omega
end Go.Proofs.YtogjcaakfnfapaaGreatDoor
namespace Go.Proofs.YtogjcaakfnfapaaGreatDoor
open Go Go.RowKit
set_option linter.unusedVariables false
set_option linter.unusedSimpArgs false
set_option maxRecDepth 100000
theorem append_types {P : Program} {t t2 e e2 : TypeId} (ht : P.underlying t = some (.slice e)) (ht2 : P.underlying t2 = some (.slice e2)) (ty : TypeId) (sb : Option Addr) (sn sc : Nat) (x : Value) (w : World) :
    (Builtin.append_ #[t, t2] ty #[.slice sb sn sc, x]).run P w = (Builtin.append_ #[t, t] ty #[.slice sb sn sc, x]).run P w := by
  unfold Builtin.append_
  simp only [List.getElem?_toArray, List.getElem?_cons_zero, List.getElem?_cons_succ, Sem.run_bind, run_underlying ht, run_underlying ht2, Result.andThen_ok, Sem.run_pure]
theorem wpList_append_two {P : Program} {w : World} {ops : Array Oper} {rest : List Oper} {o : Oper} {a : Act} {Q : Exit → Act → World → Prop} (hgd : o.guard = none) (s x : Operand) (t t2 : TypeId)
    (ho : o.op = .call { callee := .builtin .append, args := #[s, x], argTypes := #[t, t2] })
    (base : Nat) (e e2 : TypeId) (i : TypeInfo) (z : Value) (size bytes : Nat) (ht : P.underlying t = some (.slice e)) (ht2 : P.underlying t2 = some (.slice e2)) (hi : P.info? e = some i) (hz : i.zero = some z)
    (hsize : i.size = size) (hby : i.bytes = bytes) (hzs : z.cells.size = size) (hsz : 0 < size)
    (v : Value) (n : Nat) (xs : List Value) (hs : a.eval s = v) (hown : w.ownsRow base e size v n xs)
    (sa : Option Addr) (m c : Nat) (news : List Value) (hx : a.eval x = .slice sa m c) (hnone : sa = none → m = 0 ∧ c = 0 ∧ news = [])
    (hl : news.length = m * size) (hnews : ∀ ad, sa = some ad → ∀ j u, news[j]? = some u → w.cell? (ad.add j) = some u) (h1 : ∀ u ∈ news, u.oneCell' = true)
    (h63 : n + m ≤ maxLen) (hbytes : (n + m) * bytes ≤ 140737488355328) (hbase : base ≤ w.heap.size)
    (h : ∀ v' w', w'.ownsRow base e size v' (n + m) (xs ++ news) → w.grownBy w' v.ownBlock → wpList P ops Q rest (a.put o.dst v') w') : wpList P ops Q (o :: rest) a w := by
  refine wpList_plain hgd fun K hK => ?_
  cases sa with
  | none =>
    obtain ⟨rfl, rfl, rfl⟩ := hnone rfl
    obtain ⟨vb, vn, vc, hvv⟩ : ∃ vb vn vc, v = .slice vb vn vc := by
      rcases hown.2 with ⟨rfl, -⟩ | ⟨g, cap, cur, rfl, -⟩ <;> exact ⟨_, _, _, rfl⟩
    have hrun := run_append_owned_none (P := P) (w := w) base t o.type e i size ht hi v n xs hown
    rw [hvv] at hs hrun hown
    rw [← append_types ht ht2] at hrun
    unfold Oper.wp execOp
    simp only [ho, resolve, invoke, builtin, Sem.run_bind, Sem.run_pure, Result.andThen_ok, List.map_toArray, List.map_cons, List.map_nil, hs, hx, hrun]
    exact hK _ _ (h _ w (by simpa using hown) ⟨rfl, rfl, rfl, Nat.le_refl _, fun _ _ _ => rfl⟩)
  | some ad =>
    obtain ⟨v', w', hr, h2, h3, h4, h5⟩ := run_append_own_at (P := P) w base t o.type e i z size bytes ht hi hz hsize hby hzs hsz v n xs hown ad m c news hl (hnews ad rfl) h1 h63 hbytes hbase
    obtain ⟨vb, vn, vc, rfl⟩ : ∃ vb vn vc, v = .slice vb vn vc := by
      rcases hown.2 with ⟨rfl, -⟩ | ⟨g, cap, cur, rfl, -⟩ <;> exact ⟨_, _, _, rfl⟩
    rw [← append_types ht ht2] at hr
    unfold Oper.wp execOp
    simp only [ho, resolve, invoke, builtin, Sem.run_bind, Sem.run_pure, Result.andThen_ok, List.map_toArray, List.map_cons, List.map_nil, hs, hx, hr]
    exact hK _ _ (h v' w' h2 h3)
end Go.Proofs.YtogjcaakfnfapaaGreatDoor
