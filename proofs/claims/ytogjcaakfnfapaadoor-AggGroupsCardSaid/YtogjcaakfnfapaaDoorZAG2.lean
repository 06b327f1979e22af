/- With: the code's and the document's. Plain law of kept, dropped and inserted labels. AggGroups: plain law. AggGroups: what its four answers are. (Several texts in one file, by merge.py.) -/
import Derived.Test.YtogjcaakfnfapaaDoorZAG1
import Derived.Test.YtogjcaakfnfapaaDoorZB1
namespace Go.Proofs.YtogjcaakfnfapaaDoor
open Go Go.RowKit
set_option linter.unusedVariables false
set_option linter.unusedSimpArgs false
set_option maxRecDepth 100000
theorem ins_any (v : Value) (base i : Nat) (d : List Lb) (t y : ByteArray) (b1 : Nat) (w : World) (hown : w.ownsRow base 69 2 v d.length (d.flatMap lenc)) (hl : d.length ≤ 1000000)
    (hx : w.heap[b1]? = some (.cells #[.string t, .string y] 69 (0, 0))) (hbw : base ≤ w.heap.size) (hne : v.ownBlock ≠ some b1) (hi : i ≤ d.length) :
    Calls Tryd.prog 125 #[v, .int .i64 i, .slice (some ⟨b1, 0, none⟩) 1 1] w fun e w' => ∃ v', e = .returned v' ∧ Sl lenc w' v' (d.take i ++ (t, y) :: d.drop i) ∧ Below base w w' := by
  by_cases he : i = d.length
  · subst he
    have := ins_end v base d t y b1 w hown hl hx hbw
    rw [List.take_of_length_le (Nat.le_refl _), List.drop_of_length_le (Nat.le_refl _)]
    exact this
  · have hlt : i < d.length := by omega
    obtain ⟨g, cap, rfl⟩ : ∃ g cap, v = .slice (some ⟨g, 0, none⟩) d.length cap := by
      rcases hown.2 with ⟨hv, h0⟩ | ⟨g, cap, cur, hv, _⟩
      · omega
      · exact ⟨g, cap, hv⟩
    by_cases hroom : d.length + 1 ≤ cap
    · exact ins_shift g base cap i d t y b1 w hown hl hx hbw (fun e => hne (by rw [e]; rfl)) hlt hroom
    · exact ins_grow g base cap i d t y b1 w hown hl hx hbw hlt (by omega)
def withD (l : List Lb) (name value : ByteArray) : List Lb := if 0 < value.size then putL (name, value) (pickL [name] false l) else pickL [name] false l
def withL (l : List Lb) (name value : ByteArray) : List Lb := if rightL (withD l name value) then withD l name value else l
theorem sl_one (w : World) (s : ByteArray) : Sl senc1 (w.alloc (.cells #[.string s] 9)) (.slice (some ⟨w.heap.size, 0, none⟩) 1 1) [s] := Sl.lit (heap_new _ _) rfl rfl (by omega)
set_option maxHeartbeats 4000000 in
theorem with_any (v : Value) (l : List Lb) (name value : ByteArray) (w : World) (h : Sl lenc w v l) (hl : l.length ≤ 100000) :
    Calls Tryd.prog 110 #[v, .string name, .string value] w fun e w' => ∃ v', e = .returned v' ∧ Sl lenc w' v' (withL l name value) ∧ Below w.heap.size w w' := by
  have HSL := Lib.hid h
  have hb0 : Below w.heap.size w (w.alloc (.cells #[.string name] 9)) := (Below.refl _ _).alloc (Nat.le_refl _) _
  have HD := Lib.hid (drop_own v (.slice (some ⟨w.heap.size, 0, none⟩) 1 1) l [name] (w.alloc (.cells #[.string name] 9)) (h.below hb0 (Nat.le_refl _)) (sl_one w name) (by omega))
  have HB0 := Lib.hid hb0
  clear h hb0
  go_enter Tryd.func110, Tryd.ntmps110
  go_wp2_with fail
  refine HD.out.mono ?_
  rintro e w1 ⟨v1, rfl, hown, hb1⟩
  have HB1 := Lib.hid (HB0.out.trans (hb1.mono (by simp)))
  have hz1 : w.heap.size + 1 ≤ w1.heap.size := by have := hb1.size; simp at this; omega
  have hsz1 : (w.alloc (.cells #[.string name] 9)).heap.size = w.heap.size + 1 := by simp
  rw [hsz1] at hown
  have HSL1 := Lib.hid (HSL.out.below HB1.out (Nat.le_refl _))
  clear hb1 HD hsz1
  have hdl : (pickL [name] false l).length ≤ l.length := pick_len _ _ _
  by_cases hv : 0 < value.size
  · have hv1 : value.toList.isEmpty = false := by have := not_empty_of hv; simpa using this
    have hv2 : ¬ value.toList = [] := not_empty_of hv
    have HW := Lib.hid (show withD l name value = putL (name, value) (pickL [name] false l) by rw [withD, if_pos hv])
    clear hv
    have hsl1 := Sl.own lenc_len (by decide) hown
    have HO1 := Lib.hid hown
    obtain ⟨d, hd⟩ : ∃ d, d = pickL [name] false l := ⟨_, rfl⟩
    rw [← hd] at hdl HW hsl1 HO1
    clear hd hown
    obtain ⟨a, cap, rfl, hlen, -, hc⟩ := hsl1.split lenc_len
    have HC := Lib.hid hc
    clear hc hsl1
    go_wp2_with fail
    go_loopw [8] (fun i wr => ∃ k : Nat, k ≤ d.length ∧ i = .int .i64 k ∧ Hid (∀ j, j < k → cmpS (lx d j).1 name < 0) ∧ wr = w1) (fun i _ => d.length - (intOf i).toNat)
    case atStart => exact ⟨0, Nat.zero_le _, rfl, fun j hj => absurd hj (Nat.not_lt_zero _), rfl⟩
    case round =>
      obtain ⟨k, hk, rfl, HV, rfl⟩ := hrel
      have h00 : (0 : Int) ≤ (k : Int) := by omega
      by_cases hgo : k < d.length ∧ cmpS (lx d k).1 name < 0
      · obtain ⟨hlt, hcs⟩ := hgo
        have hltz : (k : Int) < (d.length : Int) := by omega
        have hltb : decide ((k : Int) < (d.length : Int)) = true := decide_eq_true hltz
        obtain ⟨b, off, rfl, hk0, hk1⟩ := lab_cells HC.out (Below.refl _ _) (Nat.le_refl _) hlt
        have hbl : Op.bytesLess (lx d k).1.toList name.toList = true := by
          rw [less_cmp]
          rcases cmpS_cases (lx d k).1 name with h | h | h
          · exact decide_eq_true h
          · omega
          · omega
        have HCS := Lib.hid hcs
        clear hcs
        go_wp2_with fail
        go_roundw
        case rel => exact ⟨k + 1, by omega, by go_num, put_loop_snoc (x := (name, value)) HV.out HCS.out, by trivial⟩
        case measure => simp [intOf]; omega
      · have HP := Lib.hid (put_at (name, value) d k hk HV.out (fun h h2 => hgo ⟨h, h2⟩))
        have HI := Lib.hid (ins_any (.slice a d.length cap) (w.heap.size + 1) k d name value wr.heap.size (wr.alloc (.cells #[.string name, .string value] 69)) (HO1.out.alloc _) (by omega) (heap_new _ _) (by simp; omega) (fun e => by have := (HO1.out.lt _ e).2; omega) hk)
        have hcl := clone_any v l
        have HCL := Lib.hid hcl
        clear hcl
        by_cases hlt : k < d.length
        case' pos =>
          have hltz : (k : Int) < (d.length : Int) := by omega
          have hltb : decide ((k : Int) < (d.length : Int)) = true := decide_eq_true hltz
          obtain ⟨b, off, rfl, hk0, hk1⟩ := lab_cells HC.out (Below.refl _ _) (Nat.le_refl _) hlt
          have hbl : Op.bytesLess (lx d k).1.toList name.toList = false := by
            rw [less_cmp]
            exact decide_eq_false (fun h => hgo ⟨hlt, by omega⟩)
          clear hgo
          go_wp2_with fail
        case' neg =>
          have hltz : ¬ (k : Int) < (d.length : Int) := by omega
          have hltb : decide ((k : Int) < (d.length : Int)) = false := decide_eq_false hltz
          clear hgo
          go_wp2_with fail
        all_goals
          refine HI.out.mono ?_
          rintro e w3 ⟨v3, rfl, hs3, hb3⟩
          rw [← HP.out, ← HW.out] at hs3
          have HS3 := Lib.hid hs3
          have HB3 := Lib.hid ((HB1.out.alloc (by omega) (.cells #[.string name, .string value] 69)).trans (hb3.mono (by omega)))
          clear hs3 hb3
          have HR := Lib.hid (right_any v3 _ w3 HS3.out)
          go_wp2_with fail
          refine HR.out.mono ?_
          by_cases hr : rightL (withD l name value) = true
          · rw [hr]
            have HF := Lib.hid (show withL l name value = withD l name value by rw [withL, if_pos hr])
            clear hr
            rintro e w4 ⟨rfl, hg4⟩
            have HB4 := Lib.hid (HB3.out.trans (hg4.below.mono HB3.out.size))
            have HS4 := Lib.hid (HS3.out.below hg4.below (Nat.le_refl _))
            clear hg4
            go_wp2_with fail
            go_ret
            exact ⟨_, rfl, by rw [HF.out]; exact HS4.out, HB4.out⟩
          · have hr2 : rightL (withD l name value) = false := by simpa using hr
            rw [hr2]
            have HF := Lib.hid (show withL l name value = l by rw [withL, if_neg hr])
            clear hr hr2
            rintro e w4 ⟨rfl, hg4⟩
            have HB4 := Lib.hid (HB3.out.trans (hg4.below.mono HB3.out.size))
            clear hg4
            have HC4 := Lib.hid (HCL.out w4 (HSL.out.below HB4.out (Nat.le_refl _)) (by omega))
            go_wp2_with fail
            refine HC4.out.mono ?_
            rintro e w5 ⟨v5, rfl, hown5, hb5⟩
            have HB5 := Lib.hid (HB4.out.trans (hb5.mono HB4.out.size))
            have HS5 := Lib.hid (Sl.own lenc_len (by decide) hown5)
            clear hown5 hb5
            go_wp2_with fail
            go_ret
            exact ⟨_, rfl, by rw [HF.out]; exact HS5.out, HB5.out⟩
  · have hv1 : value.toList.isEmpty = true := by have := empty_of (s := value) (by omega); simpa using this
    have hv2 : value.toList = [] := empty_of (by omega)
    have HW := Lib.hid (show withD l name value = pickL [name] false l by rw [withD, if_neg hv])
    have HS3 := Lib.hid (Sl.own lenc_len (by decide) hown)
    rw [← HW.out] at HS3
    have HR := Lib.hid (right_any v1 _ w1 HS3.out)
    have HCL := Lib.hid (clone_any v l)
    clear hv hown hdl
    go_wp2_with fail
    refine HR.out.mono ?_
    by_cases hr : rightL (withD l name value) = true
    · rw [hr]
      have HF := Lib.hid (show withL l name value = withD l name value by rw [withL, if_pos hr])
      clear hr
      rintro e w4 ⟨rfl, hg4⟩
      have HB4 := Lib.hid (HB1.out.trans (hg4.below.mono HB1.out.size))
      have HS4 := Lib.hid (HS3.out.below hg4.below (Nat.le_refl _))
      clear hg4
      go_wp2_with fail
      go_ret
      exact ⟨_, rfl, by rw [HF.out]; exact HS4.out, HB4.out⟩
    · have hr2 : rightL (withD l name value) = false := by simpa using hr
      rw [hr2]
      have HF := Lib.hid (show withL l name value = l by rw [withL, if_neg hr])
      clear hr hr2
      rintro e w4 ⟨rfl, hg4⟩
      have HB4 := Lib.hid (HB1.out.trans (hg4.below.mono HB1.out.size))
      clear hg4
      have HC4 := Lib.hid (HCL.out w4 (HSL.out.below HB4.out (Nat.le_refl _)) (by omega))
      go_wp2_with fail
      refine HC4.out.mono ?_
      rintro e w5 ⟨v5, rfl, hown5, hb5⟩
      have HB5 := Lib.hid (HB4.out.trans (hb5.mono HB4.out.size))
      have HS5 := Lib.hid (Sl.own lenc_len (by decide) hown5)
      clear hown5 hb5
      go_wp2_with fail
      go_ret
      exact ⟨_, rfl, by rw [HF.out]; exact HS5.out, HB5.out⟩
end Go.Proofs.YtogjcaakfnfapaaDoor
namespace Go.Proofs.YtogjcaakfnfapaaDoor
open Go.RowKit
set_option linter.unusedVariables false
set_option linter.unusedSimpArgs false
theorem right_filter {l : List Lb} (p : Lb → Bool) (h : rightL l = true) : rightL (l.filter p) = true := by
  obtain ⟨h1, h2, h3⟩ := (right_iff l).1 h
  exact (right_iff _).2 ⟨fun x hx => h1 x (List.mem_filter.1 hx).1, h2.sublist List.filter_sublist, Nat.le_trans (List.length_filter_le _ _) h3⟩
theorem right_pick {l : List Lb} (ns : List ByteArray) (b : Bool) (h : rightL l = true) : rightL (pickL ns b l) = true := right_filter _ h
theorem pick_parts (ns : List ByteArray) (l : List Lb) : (pickL ns true l ++ pickL ns false l).Perm l := by
  unfold pickL
  have e : (fun x : Lb => hasL ns x.1 == false) = fun x => !(hasL ns x.1 == true) := by
    funext x; cases hasL ns x.1 <;> rfl
  rw [e]
  exact List.filter_append_perm _ _
theorem set_parts {l : List Lb} (ns : List ByteArray) (h : rightL l = true) : OkP (pickL ns true l ++ pickL ns false l) ∧ (keepL (pickL ns true l ++ pickL ns false l)).length ≤ 32 ∧ insL (keepL (pickL ns true l ++ pickL ns false l)) = l := by
  have hp := pick_parts ns l
  obtain ⟨h1, h2, h3, h4⟩ := okP_right h
  have ho := (okP_perm hp).2 h1
  have hk := keep_perm hp
  refine ⟨ho, by rw [hk.length_eq]; exact h2, ?_⟩
  refine strict_unique _ _ (ins_strict (keep_pair ho.2)) ((right_iff l).1 h).2.1 ?_
  exact (ins_perm _).trans (hk.trans (by rw [h3]))
theorem with_right (l : List Lb) (name value : ByteArray) (h : rightL l = true) : rightL (withL l name value) = true := by
  unfold withL
  split
  · assumption
  · exact h
theorem drop_none {l : List Lb} {name : ByteArray} : ∀ y ∈ pickL [name] false l, y.1 ≠ name := by
  intro y hy e
  unfold pickL at hy
  have := (List.mem_filter.1 hy).2
  rw [e] at this
  simp [hasL] at this
theorem drop_self {d : List Lb} {name : ByteArray} (h : ∀ y ∈ d, y.1 ≠ name) : pickL [name] false d = d := by
  unfold pickL
  refine List.filter_eq_self.2 fun x hx => ?_
  have hne := h x hx
  have : (name.toList == x.1.toList) = false := by
    rw [beq_cmp]
    exact decide_eq_false fun e => hne ((cmpS_eq _ _).1 e).symm
  simp [hasL, this]
theorem drop_put (x : Lb) (d : List Lb) (h : ∀ y ∈ d, y.1 ≠ x.1) : pickL [x.1] false (putL x d) = d := by
  induction d with
  | nil => simp [putL, pickL, hasL]
  | cons y r ih =>
    have hy : (x.1.toList == y.1.toList) = false := by
      rw [beq_cmp]
      exact decide_eq_false fun e => h y (by simp) ((cmpS_eq _ _).1 e).symm
    rw [putL]
    split
    · have := ih (fun z hz => h z (by simp [hz]))
      unfold pickL at this ⊢
      rw [List.filter_cons, this]
      simp [hasL, hy]
    · have := drop_self (d := y :: r) (name := x.1) h
      unfold pickL at this ⊢
      rw [List.filter_cons, this]
      simp [hasL]
theorem get_put (x : Lb) (d : List Lb) (h : ∀ y ∈ d, y.1 ≠ x.1) : getL x.1 (putL x d) = x.2 := by
  induction d with
  | nil => simp [putL, getL]
  | cons y r ih =>
    have hy : (y.1.toList == x.1.toList) = false := by
      rw [beq_cmp]
      exact decide_eq_false fun e => h y (by simp) ((cmpS_eq _ _).1 e)
    rw [putL]
    split
    · rw [getL, hy]
      exact ih (fun z hz => h z (by simp [hz]))
    · simp [getL]
/-- A label put in, and taken out again. -/
theorem with_back {l : List Lb} {name value : ByteArray} (h : rightL l = true) (hl : l.length < 32) (hn : nameB name = true) (hv : 0 < value.size) (hv2 : value.size ≤ 256) :
    getL name (withL l name value) = value ∧ withL (withL l name value) name ⟨#[]⟩ = pickL [name] false l := by
  obtain ⟨h1, h2, h3⟩ := (right_iff l).1 h
  have hd := right_pick [name] false h
  obtain ⟨d1, d2, d3⟩ := (right_iff _).1 hd
  have hD : withD l name value = putL (name, value) (pickL [name] false l) := by rw [withD, if_pos hv]
  have hne : ∀ y ∈ pickL [name] false l, y.1 ≠ name := drop_none
  have hR : rightL (withD l name value) = true := by
    rw [hD]
    refine (right_iff _).2 ⟨fun x hx => ?_, put_strict d2 hne, ?_⟩
    · rcases List.mem_cons.1 ((put_perm _ _).mem_iff.1 hx) with rfl | hx
      · exact (labOk_iff _).2 ⟨⟨hn, hv2⟩, hv⟩
      · exact d1 x hx
    · rw [put_length]
      have := pick_len [name] false l
      omega
  have hW : withL l name value = putL (name, value) (pickL [name] false l) := by rw [withL, if_pos hR, hD]
  have hg := get_put (name, value) _ hne
  have hp := drop_put (name, value) _ hne
  refine ⟨by rw [hW]; exact hg, ?_⟩
  have hD2 : withD (withL l name value) name ⟨#[]⟩ = pickL [name] false l := by
    rw [withD, if_neg (by decide), hW]
    exact hp
  rw [withL, hD2, if_pos hd]
end Go.Proofs.YtogjcaakfnfapaaDoor
namespace Go.Proofs.YtogjcaakfnfapaaDoor
open Go Go.RowKit Go.Lib Go.Sort
set_option linter.unusedVariables false
set_option linter.unusedSimpArgs false
def ltP (a b : Pt) : Bool := decide (cmpL a.1 b.1 < 0)
theorem ltP_swo : SWO ltP := by
  show SWO (ltOf (fun a b : Pt => cmpL a.1 b.1))
  exact swo_of (cf := fun a b : Pt => cmpL a.1 b.1) (fun x y => cmpL_neg x.1 y.1) (fun x y z h1 h2 => cmpL_trans _ _ _ h1 h2)
/-- Points of different labels can be put in order. -/
theorem exists_strict {l : List Pt} (h : (l.map (·.1)).Nodup) : ∃ t : List Pt, t.Perm l ∧ Strict t := by
  refine ⟨stabF ltP l, stab_perm _ _, ?_⟩
  have h1 := stab_sorted ltP_swo l
  have e : (stabF (fun a b : Pt × Nat => ltP a.1 b.1) l.zipIdx).map Prod.fst = stabF ltP l := by rw [stab_map Prod.fst ltP, List.zipIdx_map_fst]
  have h2 : (stabF ltP l).Pairwise fun a b => cmpL a.1 b.1 ≤ 0 := by
    rw [← e, List.pairwise_map]
    refine h1.imp ?_
    intro a b hab
    unfold lexI at hab
    rw [Bool.or_eq_false_iff] at hab
    have := of_decide_eq_false hab.1
    have h3 := cmpL_neg b.1.1 a.1.1
    omega
  exact weak_strict h2 (((stab_perm ltP l).map _).nodup_iff.2 h)
/-- Lists of labels, in order. -/
theorem exists_keys {K : List (List Lb)} (h : K.Nodup) : ∃ S : List (List Lb), S.Perm K ∧ S.Pairwise fun a b => cmpL a b < 0 := by
  have e : (K.map fun g => ((g, 0) : Pt)).map (fun p : Pt => p.1) = K := by
    rw [List.map_map]
    exact (List.map_congr_left fun _ _ => rfl).trans (List.map_id K)
  obtain ⟨t, h1, h2⟩ := exists_strict (l := K.map fun g => ((g, 0) : Pt)) (by rw [e]; exact h)
  refine ⟨t.map (fun p : Pt => p.1), ?_, ?_⟩
  · have := h1.map (fun p : Pt => p.1)
    rwa [e] at this
  · rw [List.pairwise_map]; exact h2
theorem group_right {l : List Lb} (how : Int) (names : List ByteArray) (h : rightL l = true) : rightL (groupL how names l) = true := by
  unfold groupL
  split
  · exact right_pick _ _ h
  · split
    · exact right_pick _ _ (right_pick _ _ h)
    · decide
/-- What Agg answers of one point for each group. -/
theorem nr_keys {K S : List (List Lb)} {f : List Lb → Nat} {e : Ending} {w : World} (hr : ∀ g ∈ K, rightL g = true) (hp : S.Perm K) (hs : S.Pairwise fun a b => cmpL a b < 0) (h : NR (K.map fun g => (g, f g)) e w) :
    ∃ v, e = .returned (.tuple #[v, .int .i64 0]) ∧ VS w v (S.map fun g => (g, canon (f g))) := by
  refine nr_of (fun p hp => ?_) (t := S.map fun g => (g, canon (f g))) ?_ ?_ h
  · obtain ⟨g, hg, rfl⟩ := List.mem_map.1 hp
    exact hr g hg
  · unfold Strict; rw [List.pairwise_map]; exact hs
  · rw [List.map_map]
    exact hp.map _
theorem agg_one {op how : Int} {names : List ByteArray} {k : Nat} {ps : List Pt} (h : takesB op = false) : aggP op how names k ps = (firstsG (glP how names) ps).map fun g => (g, oneF op ((membG (glP how names) ps g).map (·.2))) := by
  unfold aggP
  rw [List.map_eq_flatMap]
  congr 1
  funext g
  rw [outP, if_neg (by rw [h]; decide)]
theorem F1_fenc : F1 = fenc ((1 : Nat) : Int) := by decide +kernel
/-- The first of a group. -/
def hdP (gl : Pt → List Lb) (ps : List Pt) (g : List Lb) : Pt := (stabF (aheadP 6) (membG gl ps g)).headD ([], 0)
theorem hd_mem {gl : Pt → List Lb} {ps : List Pt} {g : List Lb} (h : g ∈ firstsG gl ps) : hdP gl ps g ∈ membG gl ps g ∧ (stabF (aheadP 6) (membG gl ps g)).take 1 = [hdP gl ps g] := by
  have h1 := memb_ne gl h
  have h2 := stab_perm (aheadP 6) (membG gl ps g)
  unfold hdP
  cases hc : stabF (aheadP 6) (membG gl ps g) with
  | nil => rw [hc] at h2; exact absurd h2.nil_eq.symm h1
  | cons x r => rw [hc] at h2; exact ⟨h2.subset (by simp), rfl⟩
theorem agg_tops {how : Int} {names : List ByteArray} {ps : List Pt} (hl : ps.length ≤ 1000) : aggP 6 how names F1 ps = (firstsG (glP how names) ps).map (hdP (glP how names) ps) := by
  unfold aggP
  have : ∀ K : List (List Lb), (∀ g ∈ K, g ∈ firstsG (glP how names) ps) → K.flatMap (outP 6 F1 (glP how names) ps) = K.map (hdP (glP how names) ps) := by
    intro K
    induction K with
    | nil => intro _; rfl
    | cons g K ih =>
      intro h
      rw [List.flatMap_cons, List.map_cons, ih (fun x hx => h x (List.mem_cons_of_mem _ hx))]
      have hg := h g (List.mem_cons_self ..)
      have hlen : (membG (glP how names) ps g).length ≤ 1000 := Nat.le_trans (List.length_filter_le _ _) hl
      have hpos : 0 < (membG (glP how names) ps g).length := List.length_pos_iff.2 (memb_ne _ hg)
      rw [outP, if_pos (show takesB 6 = true from rfl), F1_fenc, cntN_fenc 1 _ (by decide) hlen, show min 1 (membG (glP how names) ps g).length = 1 by omega, (hd_mem hg).2]
      rfl
  exact this _ fun g hg => hg
/-- The groups' first ones, in the vector's order. -/
noncomputable def topG (gl : Pt → List Lb) (ps : List Pt) : List Pt := ps.filter fun p => @decide (p ∈ (firstsG gl ps).map (hdP gl ps)) (Classical.propDecidable _)
theorem mem_topG {gl : Pt → List Lb} {ps : List Pt} {p : Pt} : p ∈ topG gl ps ↔ p ∈ (firstsG gl ps).map (hdP gl ps) := by
  unfold topG
  rw [List.mem_filter]
  constructor
  · rintro ⟨-, h⟩; exact @of_decide_eq_true _ (Classical.propDecidable _) h
  · intro h
    refine ⟨?_, @decide_eq_true _ (Classical.propDecidable _) h⟩
    obtain ⟨g, hg, rfl⟩ := List.mem_map.1 h
    exact (memb_mem _ (hd_mem hg).1).1
theorem topG_perm {gl : Pt → List Lb} {ps : List Pt} (h : Strict ps) : (topG gl ps).Perm ((firstsG gl ps).map (hdP gl ps)) := by
  refine (List.perm_ext_iff_of_nodup (strict_pts_nodup (List.Pairwise.filter _ h : Strict (topG gl ps))) ?_).2 fun p => mem_topG
  rw [List.Nodup, List.pairwise_map]
  refine (List.pairwise_iff_getElem.2 fun i j hi hj hij => ?_)
  intro e
  have n := nodup_firsts gl ps
  have h1 := (memb_mem gl (hd_mem (List.getElem_mem hi)).1).2
  have h2 := (memb_mem gl (hd_mem (List.getElem_mem hj)).1).2
  rw [e, h2] at h1
  exact (List.pairwise_iff_getElem.1 n i j hi hj hij) h1.symm
theorem nr_tops {how : Int} {names : List ByteArray} {ps : List Pt} {e : Ending} {w : World} (hl : ps.length ≤ 1000) (hs : Strict ps) (hr : ∀ p ∈ ps, rightL p.1 = true) (h : NR (aggP 6 how names F1 ps) e w) :
    ∃ v, e = .returned (.tuple #[v, .int .i64 0]) ∧ VS w v ((topG (glP how names) ps).map canonP) := by
  rw [agg_tops hl] at h
  refine nr_of (fun p hp => ?_) (canon_strict (List.Pairwise.filter _ hs : Strict (topG (glP how names) ps))) ((topG_perm hs).map _) h
  obtain ⟨g, hg, rfl⟩ := List.mem_map.1 hp
  exact hr _ (memb_mem _ (hd_mem hg).1).1
/-- Each group has just one of them. -/
theorem topG_one {gl : Pt → List Lb} {ps : List Pt} {p q : Pt} (h1 : p ∈ topG gl ps) (h2 : q ∈ topG gl ps) (e : gl p = gl q) : p = q := by
  obtain ⟨a, ha, rfl⟩ := List.mem_map.1 (mem_topG.1 h1)
  obtain ⟨b, hb, rfl⟩ := List.mem_map.1 (mem_topG.1 h2)
  have k1 := (memb_mem gl (hd_mem ha).1).2
  have k2 := (memb_mem gl (hd_mem hb).1).2
  rw [k1, k2] at e
  rw [e]
theorem topG_hd {gl : Pt → List Lb} {ps : List Pt} {g : List Lb} (h : g ∈ firstsG gl ps) : hdP gl ps g ∈ topG gl ps ∧ gl (hdP gl ps g) = g :=
  ⟨mem_topG.2 (List.mem_map_of_mem h), (memb_mem gl (hd_mem h).1).2⟩
theorem zeros_sum {α : Type} : ∀ K : List α, (K.map fun _ => 0).sum = 0
  | [] => rfl
  | g :: K => by rw [List.map_cons, List.sum_cons, zeros_sum K]
/-- The groups' sizes together. -/
theorem sizes_sum {β : Type} (gl : β → List Lb) : ∀ (zs : List β) (K : List (List Lb)), K.Nodup → (∀ z ∈ zs, gl z ∈ K) → (K.map fun g => (membG gl zs g).length).sum = zs.length
  | [], K, _, _ => by
    have : (K.map fun g => (membG gl ([] : List β) g).length) = K.map fun _ => 0 := rfl
    rw [this, zeros_sum]; rfl
  | z :: zs, K, hn, hm => by
    have ih := sizes_sum gl zs K hn (fun y hy => hm y (List.mem_cons_of_mem _ hy))
    have hz := hm z (List.mem_cons_self ..)
    have key : ∀ L : List (List Lb), L.Nodup → (L.map fun g => (membG gl (z :: zs) g).length).sum = (L.map fun g => (membG gl zs g).length).sum + if gl z ∈ L then 1 else 0 := by
      intro L
      induction L with
      | nil => intro _; simp
      | cons g L ihL =>
        intro hL
        have h1 := List.nodup_cons.1 hL
        have h2 := ihL h1.2
        simp only [List.map_cons, List.sum_cons, h2]
        unfold membG
        by_cases e : gl z = g
        · have : ¬ gl z ∈ L := by rw [e]; exact h1.1
          simp [List.filter_cons, e, h1.1]
          omega
        · simp [List.filter_cons, e, List.mem_cons]
          omega
    rw [key K hn, ih, if_pos hz, List.length_cons]
theorem least_go : ∀ (l : List Nat) (o : Nat), fnan o = false → (∀ x ∈ l, fnan x = false) → (l.foldl (lstep true) o = o ∨ l.foldl (lstep true) o ∈ l) ∧ lexlt (l.foldl (lstep true) o) o = false ∧ ∀ x ∈ l, lexlt (l.foldl (lstep true) o) x = false
  | [], o, ho, _ => ⟨.inl rfl, by unfold lexlt; exact decide_eq_false (by simp only [List.foldl_nil]; omega), fun x hx => by cases hx⟩
  | y :: l, o, ho, hl => by
    have hy := hl y (List.mem_cons_self ..)
    have hgt : (fo y o == some .gt) = lexlt o y := by
      rw [fo_lex hy ho]
      unfold lexlt lexeq
      by_cases c1 : fcls y < fcls o ∨ (fcls y = fcls o ∧ fvl y < fvl o)
      · rw [decide_eq_true c1, decide_eq_false (show ¬ (fcls o < fcls y ∨ (fcls o = fcls y ∧ fvl o < fvl y)) by omega)]; rfl
      · by_cases c2 : fcls y = fcls o ∧ fvl y = fvl o
        · rw [decide_eq_false c1, decide_eq_true c2, decide_eq_false (show ¬ (fcls o < fcls y ∨ (fcls o = fcls y ∧ fvl o < fvl y)) by omega)]; rfl
        · rw [decide_eq_false c1, decide_eq_false c2, decide_eq_true (show fcls o < fcls y ∨ (fcls o = fcls y ∧ fvl o < fvl y) by omega)]; rfl
    have hst : lstep true o y = if lexlt o y then y else o := by
      unfold lstep
      rw [ho, hgt]
      simp
    rw [List.foldl_cons, hst]
    by_cases hc : lexlt o y = true
    · rw [if_pos hc]
      obtain ⟨h1, h2, h3⟩ := least_go l y hy (fun x hx => hl x (List.mem_cons_of_mem _ hx))
      refine ⟨?_, ?_, fun x hx => ?_⟩
      · rcases h1 with h1 | h1
        · exact .inr (by rw [h1]; exact List.mem_cons_self ..)
        · exact .inr (List.mem_cons_of_mem _ h1)
      · unfold lexlt at *
        have h2 := of_decide_eq_false h2
        have hc := of_decide_eq_true hc
        exact decide_eq_false (by omega)
      · rcases List.mem_cons.1 hx with rfl | hx
        · exact h2
        · exact h3 x hx
    · rw [if_neg hc]
      obtain ⟨h1, h2, h3⟩ := least_go l o ho (fun x hx => hl x (List.mem_cons_of_mem _ hx))
      refine ⟨?_, h2, fun x hx => ?_⟩
      · rcases h1 with h1 | h1
        · exact .inl h1
        · exact .inr (List.mem_cons_of_mem _ h1)
      · rcases List.mem_cons.1 hx with rfl | hx
        · unfold lexlt at *
          have h2 := of_decide_eq_false h2
          have hc : ¬ _ := fun e => hc (decide_eq_true e)
          exact decide_eq_false (by omega)
        · exact h3 x hx
/-- The greatest by its place among them is the greatest by its value. -/
theorem top_least {ps : List Pt} {gl : Pt → List Lb} {g : List Lb} (h : g ∈ firstsG gl ps) (hn : ∀ p ∈ ps, fnan p.2 = false) :
    fnan (least true ((membG gl ps g).map (·.2))) = false ∧ (fo (hdP gl ps g).2 (least true ((membG gl ps g).map (·.2))) == some .eq) = true := by
  obtain ⟨h1, h2⟩ := hd_mem h
  have hvn : ∀ x ∈ (membG gl ps g).map (·.2), fnan x = false := fun x hx => by
    obtain ⟨p, hp, rfl⟩ := List.mem_map.1 hx
    exact hn p (memb_mem gl hp).1
  have hmn : (membG gl ps g).map (·.2) ≠ [] := by simpa using memb_ne gl h
  obtain ⟨z, hz⟩ : ∃ z, z = least true ((membG gl ps g).map (·.2)) := ⟨_, rfl⟩
  have hzz : z ∈ (membG gl ps g).map (·.2) ∧ ∀ x ∈ (membG gl ps g).map (·.2), lexlt z x = false := by
    cases hc : (membG gl ps g).map (·.2) with
    | nil => exact absurd hc hmn
    | cons y l =>
      rw [hc] at hz hvn
      obtain ⟨k1, k2, k3⟩ := least_go l y (hvn y (List.mem_cons_self ..)) (fun x hx => hvn x (List.mem_cons_of_mem _ hx))
      have e : z = l.foldl (lstep true) y := hz
      rw [← e] at k1 k2 k3
      refine ⟨?_, fun x hx => ?_⟩
      · rcases k1 with k1 | k1
        · rw [k1]; exact List.mem_cons_self ..
        · exact List.mem_cons_of_mem _ k1
      · rcases List.mem_cons.1 hx with rfl | hx
        · exact k2
        · exact k3 x hx
  rw [← hz]
  have hzn := hvn z hzz.1
  have hhn := hn _ (memb_mem gl h1).1
  refine ⟨hzn, ?_⟩
  rw [fo_eq hhn hzn]
  have e1 := hzz.2 (hdP gl ps g).2 (List.mem_map_of_mem h1)
  have e2 : beforeF (hdP gl ps g).2 z = false := by
    obtain ⟨q, hq, hqz⟩ := List.mem_map.1 hzz.1
    have hq2 : q ∈ stabF (aheadP 6) (membG gl ps g) := (stab_perm _ _).symm.subset hq
    have hpw := stab_pairs 6 (membG gl ps g)
    cases hc : stabF (aheadP 6) (membG gl ps g) with
    | nil => rw [hc] at hq2; cases hq2
    | cons y r =>
      rw [hc] at hq2 hpw h2
      have hy : y = hdP gl ps g := by simpa using h2
      rw [← hy, ← hqz]
      rcases List.mem_cons.1 hq2 with rfl | hr
      · rw [before_key]; exact decide_eq_false (by omega)
      · exact (List.pairwise_cons.1 hpw).1 q hr
  rw [before_key] at e2
  have e2 := of_decide_eq_false e2
  unfold lexlt at e1
  have e1 := of_decide_eq_false e1
  unfold lexeq
  exact decide_eq_true (by omega)
end Go.Proofs.YtogjcaakfnfapaaDoor
namespace Go.Proofs.YtogjcaakfnfapaaDoor
open Go Go.RowKit
set_option linter.unusedVariables false
set_option linter.unusedSimpArgs false
def valsG (how : Int) (names : List ByteArray) (ps : List Pt) (g : List Lb) : List Nat := (membG (glP how names) ps g).map (·.2)
theorem firsts_right {how : Int} {names : List ByteArray} {ps : List Pt} (hr : ∀ p ∈ ps, rightL p.1 = true) : ∀ g ∈ firstsG (glP how names) ps, rightL g = true := fun g hg => by
  obtain ⟨z, hz, e⟩ := (mem_firsts _ _ _).1 hg
  rw [← e]; exact group_right how names (hr z hz)
theorem aggr_keys {op how : Int} {names : List ByteArray} {k : Nat} {ps : List Pt} {S : List (List Lb)} {e : Ending} {w : World} (ho : isB op = true) (ht : takesB op = false) (hc : chkL how names = 0) (hr : ∀ p ∈ ps, rightL p.1 = true)
    (hp : S.Perm (firstsG (glP how names) ps)) (hs : S.Pairwise fun a b => cmpL a b < 0) (h : AggR op how names k ps e w) :
    ∃ v, e = .returned (.tuple #[v, .int .i64 0]) ∧ VS w v (S.map fun g => (g, canon (oneF op (valsG how names ps g)))) := by
  rcases h with ⟨h1 | h1, -⟩ | ⟨-, -, h3⟩
  · rw [ho] at h1; cases h1
  · exact absurd hc h1
  · rw [agg_one ht] at h3
    have h4 : NR ((firstsG (glP how names) ps).map fun g => (g, oneF op (valsG how names ps g))) e w := h3
    exact nr_keys (K := firstsG (glP how names) ps) (S := S) (f := fun g => oneF op (valsG how names ps g)) (firsts_right hr) hp hs h4
theorem aggr_tops {how : Int} {names : List ByteArray} {ps : List Pt} {e : Ending} {w : World} (hc : chkL how names = 0) (hl : ps.length ≤ 1000) (hs : Strict ps) (hr : ∀ p ∈ ps, rightL p.1 = true) (h : AggR 6 how names F1 ps e w) :
    ∃ v, e = .returned (.tuple #[v, .int .i64 0]) ∧ VS w v ((topG (glP how names) ps).map canonP) := by
  rcases h with ⟨h1 | h1, -⟩ | ⟨-, -, h3⟩
  · exact absurd h1 (by decide)
  · exact absurd hc h1
  · exact nr_tops hl hs hr h3
theorem fenc_nonan (n : Nat) (h : n ≤ 100000) : fnan (fenc (n : Int)) = false := by
  have h1 := fo_fenc (n : Int) n (by omega) (by omega)
  cases hc : fnan (fenc (n : Int)) with
  | false => rfl
  | true => rw [fo_nan_l _ hc] at h1; cases h1
theorem one_count {how : Int} {names : List ByteArray} {ps : List Pt} {g : List Lb} (hl : ps.length ≤ 1000) : canon (oneF 2 (valsG how names ps g)) = fenc ((membG (glP how names) ps g).length : Int) := by
  have h0 : (membG (glP how names) ps g).length ≤ 1000 := Nat.le_trans (List.length_filter_le _ _) hl
  have h1 : oneF 2 (valsG how names ps g) = fenc ((membG (glP how names) ps g).length : Int) := by
    unfold oneF valsG
    rw [if_neg (by decide), if_pos rfl, List.length_map]
  rw [h1, canon_num (fenc_nonan _ (by omega))]
theorem one_group {how : Int} {names : List ByteArray} {ps : List Pt} {g : List Lb} : canon (oneF 8 (valsG how names ps g)) = F1 := by
  have h1 : oneF 8 (valsG how names ps g) = F1 := by
    unfold oneF
    rw [if_neg (by decide), if_neg (by decide), if_neg (by decide), if_neg (by decide), if_neg (by decide)]
  rw [h1]; decide +kernel
theorem one_max {how : Int} {names : List ByteArray} {ps : List Pt} {g : List Lb} : oneF 4 (valsG how names ps g) = least true ((membG (glP how names) ps g).map (·.2)) := by
  unfold oneF valsG
  rw [if_neg (by decide), if_neg (by decide), if_neg (by decide), if_pos rfl]
theorem fadd_fenc (a b : Nat) (ha : a ≤ 100000) (hb : b ≤ 100000) (w : World) : fop .add (fenc (a : Int)) (fenc (b : Int)) w = fenc ((a + b : Nat) : Int) ∧ fdr .add (fenc (a : Int)) (fenc (b : Int)) = 0 := by
  have h := fenc_add (a : Int) (b : Int) (by omega) (by omega)
  have h2 : floatBits .add .f64 (fenc (a : Int)) (fenc (b : Int)) = some (fenc ((a : Int) + b)) := h
  unfold fop fdr
  rw [h2]
  exact ⟨by push_cast; rfl, rfl⟩
/-- The groups' sizes, so far. -/
def sumG (how : Int) (names : List ByteArray) (ps : List Pt) (S : List (List Lb)) (k : Nat) : Nat := ((S.take k).map fun g => (membG (glP how names) ps g).length).sum
theorem sumG_succ {how : Int} {names : List ByteArray} {ps : List Pt} {S : List (List Lb)} {k : Nat} (h : k < S.length) : sumG how names ps S (k + 1) = sumG how names ps S k + (membG (glP how names) ps S[k]).length := by
  unfold sumG
  rw [List.take_succ_eq_append_getElem h, List.map_append, List.sum_append]
  simp
theorem sumG_all {how : Int} {names : List ByteArray} {ps : List Pt} {S : List (List Lb)} (hp : S.Perm (firstsG (glP how names) ps)) : sumG how names ps S S.length = ps.length := by
  unfold sumG
  rw [List.take_length]
  have hn : S.Nodup := hp.nodup_iff.2 (nodup_firsts _ _)
  exact sizes_sum _ ps S hn fun z hz => hp.symm.subset ((mem_firsts _ _ _).2 ⟨z, hz, rfl⟩)
theorem sumG_le {how : Int} {names : List ByteArray} {ps : List Pt} {S : List (List Lb)} (hp : S.Perm (firstsG (glP how names) ps)) : ∀ k, k ≤ S.length → sumG how names ps S k ≤ ps.length := by
  intro k hk
  rw [← sumG_all hp]
  have : ∀ j, k + j ≤ S.length → sumG how names ps S k ≤ sumG how names ps S (k + j) := by
    intro j
    induction j with
    | zero => intro _; exact Nat.le_refl _
    | succ j ih => intro h; rw [← Nat.add_assoc, sumG_succ (by omega)]; have := ih (by omega); omega
  have h2 := this (S.length - k) (by omega)
  rwa [show k + (S.length - k) = S.length by omega] at h2
/-- Whether a group's first one has come. -/
def hasT (gl : Pt → List Lb) (T : List Pt) (L : List Lb) (j : Nat) : Bool := (T.take j).any fun p => decide (gl p = L)
theorem hasT_succ {gl : Pt → List Lb} {T : List Pt} {L : List Lb} {j : Nat} (h : j < T.length) : hasT gl T L (j + 1) = (hasT gl T L j || decide (gl T[j] = L)) := by
  unfold hasT
  rw [List.take_succ_eq_append_getElem h, List.any_append]
  simp
theorem hasT_first {gl : Pt → List Lb} {ps : List Pt} {L : List Lb} {j : Nat} (hs : Strict ps) (h : j < (topG gl ps).length) (e : gl (topG gl ps)[j] = L) : hasT gl (topG gl ps) L j = false := by
  unfold hasT
  rw [List.any_eq_false]
  intro p hp hd
  have hd := of_decide_eq_true hd
  obtain ⟨i, hi, rfl⟩ := List.mem_take_iff_getElem.1 hp
  have h1 := topG_one (List.getElem_mem (by omega : i < (topG gl ps).length)) (List.getElem_mem h) (by rw [hd, e])
  have hst : Strict (topG gl ps) := List.Pairwise.filter _ hs
  have hn : (topG gl ps).Nodup := strict_pts_nodup hst
  exact (List.pairwise_iff_getElem.1 hn i j (by omega) h (by omega)) h1
theorem hasT_end {gl : Pt → List Lb} {ps : List Pt} {L : List Lb} (h : L ∈ firstsG gl ps) : hasT gl (topG gl ps) L (topG gl ps).length = true := by
  unfold hasT
  rw [List.take_length, List.any_eq_true]
  obtain ⟨h1, h2⟩ := topG_hd h
  exact ⟨_, h1, decide_eq_true h2⟩
theorem topG_val {gl : Pt → List Lb} {ps : List Pt} {L : List Lb} {p : Pt} (hp : p ∈ topG gl ps) (e : gl p = L) (hL : L ∈ firstsG gl ps) : p = hdP gl ps L := by
  obtain ⟨h1, h2⟩ := topG_hd hL
  exact topG_one hp h1 (by rw [e, h2])
theorem topG_len {gl : Pt → List Lb} {ps : List Pt} (h : Strict ps) : (topG gl ps).length = (firstsG gl ps).length := by rw [(topG_perm h).length_eq, List.length_map]
theorem hasT_step {gl : Pt → List Lb} {T : List Pt} {L pg : List Lb} {j : Nat} {b be : Bool} (h : j < T.length) (hb : b = hasT gl T L j) (e : gl T[j] = pg) (hbe : be = true ↔ pg = L) : (b || be) = hasT gl T L (j + 1) := by
  rw [hasT_succ h, ← hb, e]
  congr 1
  rw [Bool.eq_iff_iff, hbe, decide_eq_true_eq]
end Go.Proofs.YtogjcaakfnfapaaDoor
