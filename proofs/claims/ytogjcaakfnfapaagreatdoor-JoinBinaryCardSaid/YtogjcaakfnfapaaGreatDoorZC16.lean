/- With of the reference: what it answers, and where that lies. What the listed variables give: the table that strconv.Itoa reads. (Several texts in one file, by merge.py.) -/
import Derived.Test.YtogjcaakfnfapaaGreatDoorZC13
import Derived.Test.YtogjcaakfnfapaaGreatDoorZC7
import Derived.Test.YtogjcaakfnfapaaGreatDoorRows
import Derived.LaidMore
import Derived.LaidHandle
import Derived.MakeChecks
namespace Go.Proofs.YtogjcaakfnfapaaGreatDoor
open Go Go.RowKit
namespace Fr
set_option linter.unusedVariables false
set_option linter.unusedSimpArgs false
set_option maxRecDepth 100000
set_option maxHeartbeats 4000000 in
theorem rput_fresh (v : Value) (l : List Lb) (t y : ByteArray) (w : World) (h : Sl lenc w v l) (hl : l.length ≤ 1000000) :
    Calls Tryz.prog 83 #[v, .agg #[.string t, .string y]] w fun e w' => ∃ v', e = .returned v' ∧ Sl lenc w' v' (putL (t, y) l) ∧ Below w.heap.size w w' ∧ ∀ j, v'.ownBlock = some j → w.heap.size ≤ j := by
  have HSL := Lib.hid h
  obtain ⟨a, cap, rfl, hlen, -, hc⟩ := h.split lenc_len
  have HC := Lib.hid hc
  clear hc h
  obtain ⟨i0, hi, hz0, hz1, hz2⟩ := info_parts Tryz.infoLb
  go_enter Tryz.func83, Tryz.ntmps83
  go_wp2_with fail
  go_loopw [5] (fun i wr => ∃ k : Nat, k ≤ l.length ∧ i = .int .i64 k ∧ Hid (∀ j, j < k → cmpS (lx l j).1 t < 0) ∧ ∃ n, wr = (w.alloc (.cells #[.string t, .string y] 46)).drewN n) (fun i _ => l.length - (intOf i).toNat)
  case atStart => exact ⟨0, Nat.zero_le _, rfl, fun j hj => absurd hj (Nat.not_lt_zero _), 0, rfl⟩
  case round =>
    obtain ⟨k, hk, rfl, HV, n, rfl⟩ := hrel
    have h00 : (0 : Int) ≤ (k : Int) := by omega
    by_cases hgo : k < l.length ∧ cmpS (lx l k).1 t < 0
    · obtain ⟨hlt, hcs⟩ := hgo
      have hltz : (k : Int) < (l.length : Int) := by omega
      have hltb : decide ((k : Int) < (l.length : Int)) = true := decide_eq_true hltz
      obtain ⟨b, off, rfl, hk0, hk1⟩ := lab_cells HC.out (Below.refl _ _) (Nat.le_refl _) hlt
      have hlt3 : b < w.heap.size := World.block_lt_of_cell? w _ hk0
      have hne : b ≠ w.heap.size := by omega
      have hbl : Op.bytesLess (lx l k).1.toList t.toList = true := by
        rw [less_cmp]
        rcases cmpS_cases (lx l k).1 t with h | h | h
        · exact decide_eq_true h
        · omega
        · omega
      have HCS := Lib.hid hcs
      clear hcs
      go_wp2_with fail
      go_quiet (fail)
      go_wp2_with fail
      go_roundw
      case rel => exact ⟨k + 1, by omega, by go_num, put_loop_snoc (x := (t, y)) HV.out HCS.out, _, by first | rfl | (simp only [World.drewN_drewN])⟩
      case measure => simp [intOf]; omega
    · have HP := Lib.hid (put_at (t, y) l k hk HV.out (fun h h2 => hgo ⟨h, h2⟩))
      obtain ⟨a1, c1, E1, hs1⟩ := Sl.head Tryz.elemLbs Tryz.sizeLb lenc_len HSL.out hk
      obtain ⟨a2, c2, E2, hs2⟩ := Sl.tail Tryz.elemLbs Tryz.sizeLb lenc_len HSL.out hk
      obtain ⟨-, n1, s1⟩ := hs1.src lenc_pos
      obtain ⟨-, n2, s2⟩ := hs2.src lenc_pos
      have N1 := Lib.hid n1
      have N2 := Lib.hid n2
      have S1 := Lib.hid s1
      have S2 := Lib.hid s2
      clear hs1 hs2 n1 n2 s1 s2
      have h01 : (k : Int) ≤ (l.length : Int) := by omega
      have h02 : (k : Int) ≤ (cap : Int) := by omega
      by_cases hlt : k < l.length
      case' pos =>
        have hltz : (k : Int) < (l.length : Int) := by omega
        have hltb : decide ((k : Int) < (l.length : Int)) = true := decide_eq_true hltz
        obtain ⟨b, off, rfl, hk0, hk1⟩ := lab_cells HC.out (Below.refl _ _) (Nat.le_refl _) hlt
        have hlt3 : b < w.heap.size := World.block_lt_of_cell? w _ hk0
        have hne : b ≠ w.heap.size := by omega
        have hbl : Op.bytesLess (lx l k).1.toList t.toList = false := by
          rw [less_cmp]
          exact decide_eq_false (fun h => hgo ⟨hlt, by omega⟩)
        clear hgo
        go_wp2_with fail
        go_quiet (fail)
        go_wp2_with fail
      case' neg =>
        have hltz : ¬ (k : Int) < (l.length : Int) := by omega
        have hltb : decide ((k : Int) < (l.length : Int)) = false := decide_eq_false hltz
        clear hgo
        go_wp2_with fail
        go_quiet (fail)
        go_wp2_with fail
      all_goals
        have q0 : (((w.alloc (.cells #[.string t, .string y] 46)).drewN n).drewN nq).cell? ⟨w.heap.size, 0, none⟩ = some (.string t) := by simp
        have q1 : (((w.alloc (.cells #[.string t, .string y] 46)).drewN n).drewN nq).cell? ⟨w.heap.size, 1, none⟩ = some (.string y) := by simp
        have hb03 : Below w.heap.size w (((w.alloc (.cells #[.string t, .string y] 46)).drewN n).drewN nq) := below_drewN (below_drewN ((Below.refl _ _).alloc (Nat.le_refl _) _) _) _
        generalize ((w.alloc (.cells #[.string t, .string y] 46)).drewN n).drewN nq = w3 at q0 q1 hb03 ⊢
        have hz3 : w.heap.size + 1 ≤ w3.heap.size := by have h : w.heap.size < w3.heap.size := World.block_lt_of_cell? _ _ q0; omega
        have HB03 := Lib.hid hb03
        clear hb03
        go_region_held3 (fun w' => Below w3.heap.size w3 w' ∧ w'.cell? ⟨w.heap.size, 0, none⟩ = some (.string t) ∧ w'.cell? ⟨w.heap.size, 1, none⟩ = some (.string y))
          (exact S_keep2 q0 q1 (by go_grown))
          (first
            | (refine step_append_rd rfl (.tmp 23) (.tmp 26) _ rfl w3.heap.size 46 i0 _ 2 32 Tryz.underlying47 hi hz0 hz1 hz2 rfl (by decide) (.slice (some ⟨_, 0, none⟩) 0 0) 0 [] rfl
                 ?_ a1 k c1 ((l.take k).flatMap lenc) rfl N1.out (by rw [flat_length lenc_len, List.length_take, Nat.min_eq_left hk]) ?_ ?_ ?_ ?_ ?_ ?_
               (refine owns_lit ?_ ?_; (first | exact lit1 _ _ | exact lit2 _ _ _ | exact lit3 _ _ _); (simp <;> omega))
               (exact fun ad e j u hu => cell_below (B := w3.heap.size) (by go_grown) (Nat.le_refl _) (cell_below HB03.out (Nat.le_refl _) (S1.out ad e j u hu)))
               (exact oneCell_flat _)
               (unfold maxLen; omega)
               (omega)
               (simp <;> omega)
               intro v1 wA hown1 hg1
               have hbA : Below w3.heap.size w3 wA := Below.grown (by go_grown) hg1 (by simp <;> omega) (fun j hj => by simp [Value.ownBlock] at hj; omega)
               have hsA := hbA.size)
            | (refine step_append_rd rfl (.tmp 27) (.tmp 29) _ rfl w3.heap.size 46 i0 _ 2 32 Tryz.underlying47 hi hz0 hz1 hz2 rfl (by decide) v1 k ((l.take k).flatMap lenc) rfl
                 ?_ (some _) 1 1 (lenc (t, y)) rfl (fun e => by cases e) rfl ?_ ?_ ?_ ?_ ?_ ?_
               (first | exact (by simpa using hown1) | exact World.ownsRow.alloc (by simpa using hown1) _)
               (first
                 | exact fun ad e j u hu => by injection e with e; subst e; exact World.news_of_block (cs := #[.string t, .string y]) (lit1 wA _) j u hu
                 | exact fun ad e j u hu => by injection e with e; subst e; exact World.news_of_block (cs := #[.string t, .string y]) (heap_new wA _) j u hu
                 | exact fun ad e j u hu => by injection e with e; subst e; exact World.news_of_block (cs := #[.string t, .string y]) ((hg1.block _ (by simp) (by simp [Value.ownBlock])).trans (lit3 w3 _ _)) j u hu
                 | exact fun ad e j u hu => by injection e with e; subst e; exact World.news_of_block (cs := #[.string t, .string y]) ((hg1.block _ (by simp <;> omega) (by simp [Value.ownBlock])).trans (lit2 w3 _ _)) j u hu)
               (intro u hu; simp [lenc] at hu; rcases hu with rfl | rfl <;> rfl)
               (unfold maxLen; omega)
               (omega)
               (first | exact hsA | (simp; omega))
               intro v2 wB hown2 hg2
               have hbB : Below w3.heap.size w3 wB := Below.grown (by go_grown) hg2 (by first | exact hsA | (simp; omega)) (fun j hj => (hown1.lt j hj).1)
               have hsB := hbB.size))
      all_goals
        have HBB := Lib.hid hbB
        clear hown1 hg1 hg2 hbA hbB hsA
        go_wp2_with (at_builtin; refine wpList_append_rd rfl _ _ 47 rfl w3.heap.size 46 i0 _ 2 32 Tryz.underlying47 hi hz0 hz1 hz2 rfl (by decide) v2 (k + 1) ((l.take k).flatMap lenc ++ lenc (t, y)) rfl hown2 a2 (l.length - k) c2 ((l.drop k).flatMap lenc) rfl N2.out (by rw [flat_length lenc_len, List.length_drop]) (fun ad e j u hu => cell_below HBB.out (Nat.le_refl _) (cell_below HB03.out (Nat.le_refl _) (S2.out ad e j u hu))) (oneCell_flat _) (by unfold maxLen; omega) (by omega) hsB ?_)
        intro v3 w9 hown3 hg3
        have hbC : Below w3.heap.size w3 w9 := Below.grown HBB.out hg3 hsB (fun j hj => (hown2.lt j hj).1)
        have hsl : Sl lenc w9 v3 (putL (t, y) l) := Sl.own lenc_len (by decide) (e := 46) (n := k + 1 + (l.length - k)) (base := w3.heap.size) (by
          rw [HP.out, List.flatMap_append, List.flatMap_cons]; exact hown3)
        have HC9 := Lib.hid (HB03.out.trans (hbC.mono (by omega)))
        have HSL9 := Lib.hid hsl
        have HF9 := Lib.hid (show ∀ j, v3.ownBlock = some j → w.heap.size ≤ j from fun j hj => by have := (hown3.lt j hj).1; omega)
        clear hown2 hown3 hg3 hbC hsl hsB
        go_wp2_with fail
        go_ret
        exact ⟨_, rfl, HSL9.out, HC9.out, HF9.out⟩
set_option maxHeartbeats 4000000 in
theorem rwith_fresh (v : Value) (l : List Lb) (name value : ByteArray) (w : World) (h : Sl lenc w v l) (hl : l.length ≤ 100000) :
    Calls Tryz.prog 61 #[v, .string name, .string value] w fun e w' => ∃ v', e = .returned v' ∧ Sl lenc w' v' (withL l name value) ∧ Below w.heap.size w w' ∧ ∀ j, v'.ownBlock = some j → v' = v ∨ w.heap.size ≤ j := by
  have HSL := Lib.hid h
  have hb0 : Below w.heap.size w (w.alloc (.cells #[.string name] 9)) := (Below.refl _ _).alloc (Nat.le_refl _) _
  have HD := Lib.hid (vrdrop_own v (.slice (some ⟨w.heap.size, 0, none⟩) 1 1) l [name] (w.alloc (.cells #[.string name] 9)) (h.below hb0 (Nat.le_refl _)) (sl_one w name) (by omega))
  have HB0 := Lib.hid hb0
  clear h hb0
  go_enter Tryz.func61, Tryz.ntmps61
  go_wp2_with fail
  refine HD.out.mono ?_
  rintro e w1 ⟨v1, rfl, ho1, hb1⟩
  have hs1 : Sl lenc w1 v1 (pickL [name] false l) := Sl.own lenc_len (by decide) ho1
  have HF1 := Lib.hid (show ∀ j, v1.ownBlock = some j → w.heap.size ≤ j from fun j hj => by have := (ho1.lt j hj).1; simp at this; omega)
  clear ho1
  have HB1 := Lib.hid (HB0.out.trans (hb1.mono (by simp)))
  have HS1 := Lib.hid hs1
  clear hb1 HD hs1
  have hdl : (pickL [name] false l).length ≤ 1000000 := by have := pick_len [name] false l; omega
  by_cases hv : 0 < value.size
  · have hv1 : value.toList.isEmpty = false := by have := not_empty_of hv; simpa using this
    have hv2 : ¬ value.toList = [] := not_empty_of hv
    have HW := Lib.hid (show withD l name value = putL (name, value) (pickL [name] false l) by rw [withD, if_pos hv])
    clear hv
    have HP := Lib.hid (rput_fresh v1 _ name value w1 HS1.out hdl)
    clear hdl
    go_wp2_with fail
    refine HP.out.mono ?_
    rintro e w3 ⟨v3, rfl, hs3, hb3, hf3⟩
    have HF3 := Lib.hid (show ∀ j, v3.ownBlock = some j → w.heap.size ≤ j from fun j hj => Nat.le_trans HB1.out.size (hf3 j hj))
    clear hf3
    rw [← HW.out] at hs3
    have HS3 := Lib.hid hs3
    have HB3 := Lib.hid (HB1.out.trans (hb3.mono HB1.out.size))
    clear hs3 hb3
    have HR := Lib.hid (rright_any v3 _ w3 HS3.out)
    go_wp2_with fail
    refine HR.out.mono ?_
    by_cases hr : rightL (withD l name value) = true
    · rw [hr]
      have HF := Lib.hid (show withL l name value = withD l name value by rw [withL, if_pos hr])
      clear hr
      rintro e w4 ⟨rfl, n4, rfl⟩
      go_wp2_with fail
      go_ret
      exact ⟨_, rfl, by rw [HF.out]; exact HS3.out.drewN _, below_drewN HB3.out _, fun j hj => .inr (HF3.out j hj)⟩
    · have hr2 : rightL (withD l name value) = false := by simpa using hr
      rw [hr2]
      have HF := Lib.hid (show withL l name value = l by rw [withL, if_neg hr])
      clear hr hr2
      rintro e w4 ⟨rfl, n4, rfl⟩
      go_wp2_with fail
      go_ret
      exact ⟨_, rfl, by rw [HF.out]; exact HSL.out.below (below_drewN HB3.out _) (Nat.le_refl _), below_drewN HB3.out _, fun j _ => .inl rfl⟩
  · have hv1 : value.toList.isEmpty = true := by have := empty_of (s := value) (by omega); simpa using this
    have hv2 : value.toList = [] := empty_of (by omega)
    have HW := Lib.hid (show withD l name value = pickL [name] false l by rw [withD, if_neg hv])
    clear hv hdl
    rw [← HW.out] at HS1
    have HR := Lib.hid (rright_any v1 _ w1 HS1.out)
    go_wp2_with fail
    refine HR.out.mono ?_
    by_cases hr : rightL (withD l name value) = true
    · rw [hr]
      have HF := Lib.hid (show withL l name value = withD l name value by rw [withL, if_pos hr])
      clear hr
      rintro e w4 ⟨rfl, n4, rfl⟩
      go_wp2_with fail
      go_ret
      exact ⟨_, rfl, by rw [HF.out]; exact HS1.out.drewN _, below_drewN HB1.out _, fun j hj => .inr (HF1.out j hj)⟩
    · have hr2 : rightL (withD l name value) = false := by simpa using hr
      rw [hr2]
      have HF := Lib.hid (show withL l name value = l by rw [withL, if_neg hr])
      clear hr hr2
      rintro e w4 ⟨rfl, n4, rfl⟩
      go_wp2_with fail
      go_ret
      exact ⟨_, rfl, by rw [HF.out]; exact HSL.out.below (below_drewN HB1.out _) (Nat.le_refl _), below_drewN HB1.out _, fun j _ => .inl rfl⟩
end Fr
end Go.Proofs.YtogjcaakfnfapaaGreatDoor
namespace Go.Proofs.YtogjcaakfnfapaaGreatDoor
open Go Go.RowKit
set_option linter.unusedVariables false

theorem tab_of_laid {W : World} (h : laidMetH Tryz.prog [("math/bits.deBruijn32tab", Rows.laid_math_bits_deBruijn32tab), ("math/bits.deBruijn64tab", Rows.laid_math_bits_deBruijn64tab), ("internal/strconv.uint64pow10", Rows.laid_internal_strconv_uint64pow10)] W) : Tab W := by
  rw [MakeChecks.laidMetH_plain _ _ _ (by kernel_rfl)] at h
  obtain ⟨ps, ⟨g0, t0, cs0, f0, p0, q0, hg0, ht0, hv0, hd0, ⟨g1, t1, cs1, f1, p1, q1, hg1, ht1, hv1, hd1, ⟨g2, t2, cs2, f2, p2, q2, hg2, ht2, hv2, hd2, _, _⟩, _⟩, _⟩, _, _⟩ := h
  have hg : Tryz.prog.globalNamed "internal/strconv.uint64pow10" = some g2 := hg2
  have hty : (Tryz.prog.globals[g2]?).map (·.type) = some t2 := ht2
  have e2 : t2 = 124 := by
    have hk : (Tryz.prog.globalNamed "internal/strconv.uint64pow10").bind (fun g => (Tryz.prog.globals[g]?).map (·.type)) = some 124 := by kernel_rfl
    rw [hg, Option.bind_some, hty] at hk
    exact Option.some.inj hk
  subst e2
  have hc := Lib.cells_of_tab (k := .u64) (zs := Lib.pow10Tab) Tryz.underlying124 Tryz.underlying85 (by kernel_rfl) (by kernel_rfl) hd2
  unfold Tab Lib.TabIs
  rw [hv2, ← hc]
end Go.Proofs.YtogjcaakfnfapaaGreatDoor
