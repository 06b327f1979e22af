/- Group: the code's and the document's. strings.Builder: writing. The document's Set. Keys of labels. Plain law of keys. Plain law: groups by their labels, and by their labels' keys. Groupings: Once, Check; the document's Check. (Several texts in one file, by merge.py.) -/
import Derived.Test.YtogjcaakfnfapaaGreatDoorZC3
import Derived.Deep.AppendLies
import Derived.Test.YtogjcaakfnfapaaGreatDoorShelf
import Derived.Test.YtogjcaakfnfapaaGreatDoorZC1
import Derived.Lib.Builder
import Derived.Lib.AppendStr
import Derived.Lib.UnsafeStr
import Derived.Lib.OthersKept
import Derived.Lib.OwnKind
import Derived.OwnWalk
import Derived.Lib.LaidTab
import Derived.Lib.AtoiTie
import Derived.Lib.IndexMore
import Derived.Lib.ItoaMem
import Derived.Test.YtogjcaakfnfapaaGreatDoorZC6
import Derived.Test.YtogjcaakfnfapaaGreatDoorZC2
namespace Go.Proofs.YtogjcaakfnfapaaGreatDoor
open Go Go.RowKit
set_option linter.unusedVariables false
set_option linter.unusedSimpArgs false
set_option maxRecDepth 100000
def gnameS : ByteArray := ⟨#[95, 95, 110, 97, 109, 101, 95, 95]⟩
def groupL (how : Int) (names : List ByteArray) (l : List Lb) : List Lb := if how = 1 then pickL names true l else if how = 2 then pickL [gnameS] false (pickL names false l) else []
theorem pick_two (a : ByteArray) (names : List ByteArray) (l : List Lb) : pickL (a :: names) false l = pickL [a] false (pickL names false l) := by
  unfold pickL
  rw [List.filter_filter]
  congr 1
  funext x
  unfold hasL
  simp only [List.any_cons, List.any_nil, Bool.or_false]
  cases (a.toList == x.1.toList) <;> cases (names.any fun n => n.toList == x.1.toList) <;> rfl
theorem one_strs (l : List ByteArray) : ∀ u ∈ l.flatMap senc1, u.oneCell' = true := by
  intro u hu
  obtain ⟨m, _, hu⟩ := List.mem_flatMap.1 hu
  simp [senc1] at hu
  subst hu; rfl
theorem senc1_pos (x : ByteArray) : 0 < (senc1 x).length := Nat.zero_lt_succ _
theorem gsl_one (w : World) (s : ByteArray) : Sl senc1 (w.alloc (.cells #[.string s] 9)) (.slice (some ⟨w.heap.size, 0, none⟩) 1 1) [s] := Sl.lit (heap_new _ _) rfl rfl (by omega)
theorem Tryz.infoStr' : (Tryz.prog.info? 9).map (fun i => (i.zero, i.size, i.bytes)) = some (some (.string ⟨#[]⟩), 1, 16) := by kernel_rfl
set_option maxHeartbeats 4000000 in
theorem group_any (v vn : Value) (how : Int) (l : List Lb) (names : List ByteArray) (w : World) (h : Sl lenc w v l) (hn : Sl senc1 w vn names) (hl : l.length ≤ 100000) :
    Calls Tryz.prog 79 #[v, .agg #[.int .i64 how, vn]] w fun e w' => ∃ v', e = .returned v' ∧ Sl lenc w' v' (groupL how names l) ∧ Below w.heap.size w w' := by
  obtain ⟨a, cap, rfl, hlen, -⟩ := hn.strings
  have hb0 : Below w.heap.size w (w.alloc (.cells #[.int .i64 how, .slice a names.length cap] 24)) := (Below.refl _ _).alloc (Nat.le_refl _) _
  have HSL := Lib.hid (h.below hb0 (Nat.le_refl _))
  have HN := Lib.hid (hn.below hb0 (Nat.le_refl _))
  have HB0 := Lib.hid hb0
  clear h hn hb0
  by_cases h1 : how = 1
  · have h1b : (how == 1) = true := by simpa using h1
    have HF := Lib.hid (show groupL how names l = pickL names true l by rw [groupL, if_pos h1])
    have HK := Lib.hid (keep_any v (.slice a names.length cap) l names _ HSL.out HN.out (by omega))
    clear h1
    go_enter Tryz.func79, Tryz.ntmps79
    go_wp2_with fail
    refine HK.out.mono ?_
    rintro e w1 ⟨v1, rfl, hs1, hb1⟩
    have HS1 := Lib.hid hs1
    have HB1 := Lib.hid (HB0.out.trans (hb1.mono (by simp)))
    clear hs1 hb1
    go_wp2_with fail
    go_ret
    exact ⟨_, rfl, by rw [HF.out]; exact HS1.out, HB1.out⟩
  · have h1b : (how == 1) = false := by simpa using h1
    by_cases h2 : how = 2
    · have h2b : (how == 2) = true := by simpa using h2
      have HF := Lib.hid (show groupL how names l = pickL [gnameS] false (pickL names false l) by rw [groupL, if_neg h1, if_pos h2])
      have HK := Lib.hid (drop_any v (.slice a names.length cap) l names _ HSL.out HN.out (by omega))
      clear h1 h2
      go_enter Tryz.func79, Tryz.ntmps79
      go_wp2_with fail
      refine HK.out.mono ?_
      rintro e w1 ⟨v1, rfl, hs1, hb1⟩
      have HB1 := Lib.hid (HB0.out.trans (hb1.mono (by simp)))
      have hb2 : Below w1.heap.size w1 (w1.alloc (.cells #[.string gnameS] 9)) := (Below.refl _ _).alloc (Nat.le_refl _) _
      have HK2 := Lib.hid (drop_any v1 (.slice (some ⟨w1.heap.size, 0, none⟩) 1 1) (pickL names false l) [gnameS] _ (hs1.below hb2 (Nat.le_refl _)) (gsl_one w1 gnameS) (by have := pick_len names false l; omega))
      have HB2 := Lib.hid (HB1.out.trans (hb2.mono HB1.out.size))
      clear hs1 hb1 hb2
      go_wp2_with fail
      refine HK2.out.mono ?_
      rintro e w2 ⟨v2, rfl, hs2, hb2⟩
      have HS2 := Lib.hid hs2
      have HB3 := Lib.hid (HB2.out.trans (hb2.mono HB2.out.size))
      clear hs2 hb2
      go_wp2_with fail
      go_ret
      exact ⟨_, rfl, by rw [HF.out]; exact HS2.out, HB3.out⟩
    · have h2b : (how == 2) = false := by simpa using h2
      have HF := Lib.hid (show groupL how names l = [] by rw [groupL, if_neg h1, if_neg h2])
      clear h1 h2
      go_enter Tryz.func79, Tryz.ntmps79
      go_wp2_with fail
      go_ret
      exact ⟨_, rfl, by rw [HF.out]; exact Sl.nil _, HB0.out⟩
set_option maxHeartbeats 4000000 in
theorem rgroup_any (v vn : Value) (how : Int) (l : List Lb) (names : List ByteArray) (w : World) (h : Sl lenc w v l) (hn : Sl senc1 w vn names) (hl : l.length ≤ 100000) (hnl : names.length ≤ 100000) :
    Calls Tryz.prog 60 #[v, .agg #[.int .i64 how, vn]] w fun e w' => ∃ v', e = .returned v' ∧ Sl lenc w' v' (groupL how names l) ∧ Below w.heap.size w w' := by
  obtain ⟨i0, hi, hz0, hz1, hz2⟩ := info_parts Tryz.infoStr'
  obtain ⟨a, cap, rfl, hlen, -⟩ := hn.strings
  obtain ⟨-, n1, s1⟩ := hn.src senc1_pos
  have N1 := Lib.hid n1
  have S1 := Lib.hid s1
  have hb0 : Below w.heap.size w (w.alloc (.cells #[.int .i64 how, .slice a names.length cap] 24)) := (Below.refl _ _).alloc (Nat.le_refl _) _
  have HSL := Lib.hid (h.below hb0 (Nat.le_refl _))
  have HSW := Lib.hid h
  have HN := Lib.hid (hn.below hb0 (Nat.le_refl _))
  have HB0 := Lib.hid hb0
  clear h hn hb0 n1 s1
  by_cases h1 : how = 1
  · have h1b : (how == 1) = true := by simpa using h1
    have HF := Lib.hid (show groupL how names l = pickL names true l by rw [groupL, if_pos h1])
    have HK := Lib.hid (rkeep_any v (.slice a names.length cap) l names _ HSL.out HN.out (by omega))
    clear h1
    go_enter Tryz.func60, Tryz.ntmps60
    go_wp2_with fail
    refine HK.out.mono ?_
    rintro e w1 ⟨v1, rfl, hs1, hb1⟩
    have HS1 := Lib.hid hs1
    have HB1 := Lib.hid (HB0.out.trans (hb1.mono (by simp)))
    clear hs1 hb1
    go_wp2_with fail
    go_ret
    exact ⟨_, rfl, by rw [HF.out]; exact HS1.out, HB1.out⟩
  · have h1b : (how == 1) = false := by simpa using h1
    by_cases h2 : how = 2
    · have h2b : (how == 2) = true := by simpa using h2
      have HF := Lib.hid (show groupL how names l = pickL (gnameS :: names) false l by rw [groupL, if_neg h1, if_pos h2]; exact (pick_two gnameS names l).symm)
      clear h1 h2
      have hown0 : ((w.alloc (.cells #[.int .i64 how, .slice a names.length cap] 24)).alloc (.cells #[.string gnameS] 9)).ownsRow (w.heap.size + 1) 9 1 (.slice (some ⟨w.heap.size + 1, 0, none⟩) 1 1) 1 [.string gnameS] := by
        have := World.ownsRow_lit (base := w.heap.size + 1) (e := 9) (size := 1) (w.alloc (.cells #[.int .i64 how, .slice a names.length cap] 24)) #[.string gnameS] 1 (by simp) (by unfold maxLen; omega) rfl
        simpa using this
      have hbA : Below w.heap.size w ((w.alloc (.cells #[.int .i64 how, .slice a names.length cap] 24)).alloc (.cells #[.string gnameS] 9)) := HB0.out.alloc (by simp) _
      have HBA := Lib.hid hbA
      have HOA := Lib.hid hown0
      clear hbA
      unfold gnameS at hown0
      go_enter Tryz.func60, Tryz.ntmps60
      go_wp2_with (at_builtin; refine wpList_append_rd rfl _ _ 22 rfl (w.heap.size + 1) 9 i0 (.string ⟨#[]⟩) 1 16 Tryz.underlying22 hi hz0 hz1 hz2 rfl (by decide) _ 1 _ rfl hown0 a names.length cap (names.flatMap senc1) rfl N1.out (flat_length senc1_len names) (fun ad e j u hu => cell_below HBA.out (Nat.le_refl _) (S1.out ad e j u hu)) (one_strs names) (by unfold maxLen; omega) (by omega) (by simp) ?_)
      intro v1 w1 hown1 hg1
      have hb1 := HBA.out.grown hg1 (by simp; omega) (fun j hj => by have := (HOA.out.lt j hj).1; omega)
      have hs1 : Sl senc1 w1 v1 (gnameS :: names) := Sl.own senc1_len (by decide) (e := 9) (n := 1 + names.length) (base := w.heap.size + 1) hown1
      have HK := Lib.hid (rdrop_any v v1 l (gnameS :: names) w1 (HSW.out.below hb1 (Nat.le_refl _)) hs1 (by omega))
      have HB1 := Lib.hid hb1
      clear hown0 hown1 hg1 hb1 hs1
      go_wp2_with fail
      refine HK.out.mono ?_
      rintro e w2 ⟨v2, rfl, hs2, hb2⟩
      have HS2 := Lib.hid hs2
      have HB3 := Lib.hid (HB1.out.trans (hb2.mono HB1.out.size))
      clear hs2 hb2
      go_wp2_with fail
      go_ret
      exact ⟨_, rfl, by rw [HF.out]; exact HS2.out, HB3.out⟩
    · have h2b : (how == 2) = false := by simpa using h2
      have HF := Lib.hid (show groupL how names l = [] by rw [groupL, if_neg h1, if_neg h2])
      clear h1 h2
      go_enter Tryz.func60, Tryz.ntmps60
      go_wp2_with fail
      go_ret
      exact ⟨_, rfl, by rw [HF.out]; exact Sl.nil _, HB0.out⟩
end Go.Proofs.YtogjcaakfnfapaaGreatDoor
namespace Go.Proofs.YtogjcaakfnfapaaGreatDoor
open Go.RowKit
set_option linter.unusedVariables false
set_option linter.unusedSimpArgs false
set_option maxRecDepth 100000
theorem Tryz.sizeBld : (Tryz.prog.info? 99).map (·.size) = some 2 := by kernel_rfl
theorem Tryz.liesBld : liesAt Tryz.prog Tryz.prog.depth 99 (2 / Tryz.prog.cellsOf 99) 0 99 1 = true := by kernel_rfl
theorem Tryz.infoU8 : (Tryz.prog.info? 5).map (fun i => (i.zero, i.size, i.bytes)) = some (some (.int .u8 0), 1, 1) := by kernel_rfl
theorem cc_used (b : Nat) (w : World) (h0 : w.cell? ⟨b, 0, none⟩ = some (.pointer (some ⟨b, 0, none⟩))) :
    Calls Tryz.prog 90 #[.pointer (some ⟨b, 0, none⟩)] w fun e w' => e = .returned (.tuple #[]) ∧ w' = w := by
  obtain ⟨j, hj, _⟩ := Option.map_eq_some_iff.1 Tryz.sizeBld
  go_enter Tryz.func90, Tryz.ntmps90
  go_wp2_with fail
  rw [Lib.run_neq_ptr_same w _ Tryz.underlying96 hj]
  go_wp2_with fail
  go_end0
  exact ⟨rfl, rfl⟩
theorem cc_fresh (b : Nat) (w : World) (h0 : w.cell? ⟨b, 0, none⟩ = some (.pointer none)) (hsh : w.shape? b = some (99, 2)) (hfz : w.frozen? ⟨b, 0, none⟩ = false) :
    Calls Tryz.prog 90 #[.pointer (some ⟨b, 0, none⟩)] w fun e w' => e = .returned (.tuple #[]) ∧ w' = w.setCell ⟨b, 0, none⟩ (.pointer (some ⟨b, 0, none⟩)) := by
  obtain ⟨j, hj, hjs⟩ := Option.map_eq_some_iff.1 Tryz.sizeBld
  go_enter Tryz.func90, Tryz.ntmps90
  go_wp2_with fail
  rw [Lib.run_to_unsafe w ⟨b, 0, none⟩ Tryz.underlying96 Tryz.underlying114 hj (by rw [hjs]; decide) hsh (Nat.zero_lt_succ 1)]
  simp only [Result.andThen]
  rw [Oper.upon_value]
  go_wp2_with fail
  rw [run_callFunc_extern Tryz.func98 (by kernel_rfl) (by kernel_rfl) (by kernel_rfl) (e := Extern.AbiNoEscape.same) (by kernel_rfl)]
  rw [Lib.run_noEscape]
  simp only [Result.andThen]
  rw [Oper.upon_value]
  go_wp2_with fail
  rw [Lib.run_from_unsafe w ⟨b, 0, none⟩ Tryz.underlying114 Tryz.underlying96 hj hsh Tryz.liesBld]
  simp only [Result.andThen]
  rw [Oper.upon_value]
  go_wp2_with fail
  go_end0
  exact ⟨rfl, rfl⟩
theorem cc_any (B b : Nat) (bs : List Value) (w : World) (h : Lib.IsBuilder 99 5 B b bs w) :
    Calls Tryz.prog 90 #[.pointer (some ⟨b, 0, none⟩)] w fun e w' => e = .returned (.tuple #[]) ∧ (Lib.BuilderAt 99 5 B b (.pointer (some ⟨b, 0, none⟩)) bs w' ∧ Below B w w' ∧ Lib.OthersKept 5 (some b) w w') := by
  rcases h with h | h
  · refine (cc_fresh b w h.cell0 h.shape h.frozen0).mono ?_
    rintro e w' ⟨rfl, rfl⟩
    exact ⟨rfl, h.used _, (Below.refl B w).setCell (p := ⟨b, 0, none⟩) h.1 _, (Lib.OthersKept.refl _ _ _).setCell ⟨b, 0, none⟩ rfl _⟩
  · refine (cc_used b w h.cell0).mono ?_
    rintro e w' ⟨rfl, rfl⟩
    exact ⟨rfl, h, Below.refl B _, Lib.OthersKept.refl _ _ _⟩
set_option maxHeartbeats 1000000 in
theorem ws_any (B b : Nat) (bs : List Value) (s : ByteArray) (w : World) (h : Lib.IsBuilder 99 5 B b bs w) (hlen : bs.length + s.size ≤ 140737488355328) (hBw : B ≤ w.heap.size) :
    Calls Tryz.prog 76 #[.pointer (some ⟨b, 0, none⟩), .string s] w fun e w' => e = .returned (.tuple #[.int .i64 s.size, .nilIface]) ∧ (Lib.BuilderAt 99 5 B b (.pointer (some ⟨b, 0, none⟩)) (bs ++ Lib.strCells s) w' ∧ Below B w w' ∧ Lib.OthersKept 5 (some b) w w') := by
  obtain ⟨i0, hi, hz0, hz1, hz2⟩ := info_parts Tryz.infoU8
  have HC := Lib.hid (cc_any B b bs w h)
  clear h
  go_enter Tryz.func76, Tryz.ntmps76
  go_wp2_with fail
  refine HC.out.mono ?_
  rintro e w1 ⟨rfl, h1, hb1, hk1⟩
  have HK1 := Lib.hid hk1
  clear hk1
  obtain ⟨hB, v, hbk, hown, hne⟩ := h1
  have c0 : w1.cell? ⟨b, 0, none⟩ = some (.pointer (some ⟨b, 0, none⟩)) := by rw [Lib.cell_of_heap hbk]; rfl
  have c1 : w1.cell? ⟨b, 1, none⟩ = some v := by rw [Lib.cell_of_heap hbk]; rfl
  go_wp2_with (at_builtin; refine Lib.wpList_append_own_string _ rfl _ _ 97 9 rfl B 5 i0 Tryz.underlying97 Tryz.underlying9 hi hz0 hz1 hz2 _ _ _ rfl hown s rfl ?c3 ?c4 ?c5 ?_)
  case c3 => unfold maxLen; omega
  case c4 => omega
  case c5 => have := hb1.size; omega
  intro v' w2 hown' hgrow _
  have hlt : b < w1.heap.size := by
    rcases Nat.lt_or_ge b w1.heap.size with h' | h'
    · exact h'
    · simp [Array.getElem?_eq_none h'] at hbk
  have hb2 : w2.heap[b]? = some (.cells #[.pointer (some ⟨b, 0, none⟩), v] 99 (0, 0)) := by
    rw [hgrow.block b hlt (fun e => hne e.symm)]
    exact hbk
  have d0 : w2.cell? ⟨b, 0, none⟩ = some (.pointer (some ⟨b, 0, none⟩)) := by rw [Lib.cell_of_heap hb2]; rfl
  have d1 : w2.cell? ⟨b, 1, none⟩ = some v := by rw [Lib.cell_of_heap hb2]; rfl
  have f1 : w2.frozen? ⟨b, 1, none⟩ = false := Lib.frozen_of_heap hb2 1
  obtain ⟨ao, n', cap, rfl⟩ : ∃ ao n' cap, v' = .slice ao n' cap := by
    rcases hown'.2 with ⟨hv, _⟩ | ⟨g, cap, cur, hv, _⟩
    · exact ⟨_, _, _, hv⟩
    · exact ⟨_, _, _, hv⟩
  go_wp2_with fail
  go_ret2
  refine ⟨rfl, ?_, ?_, ?_⟩
  · exact Lib.BuilderAt.put (T := 99) (e := 5) hB hb2 (bs' := bs ++ Lib.strCells s) (by simpa [Lib.strCells_length] using hown') (by decide)
  · exact (hb1.grown hgrow (by have := hb1.size; omega) (fun k hk => (hown.lt k hk).1)).setCell (p := ⟨b, 1, none⟩) hB _
  · exact (HK1.out.grown hgrow (Lib.ownsRow_kind hown)).setCell ⟨b, 1, none⟩ rfl _
theorem below_grownBy {w w' : World} (hb : Below w.heap.size w w') : w.grownBy w' none := ⟨hb.os, hb.tape, hb.output, hb.size, fun b hk _ => hb.block b hk⟩
theorem isB_later {T e : TypeId} {B b : Nat} {bs : List Value} {w w' : World} (h : Lib.IsBuilder T e B b bs w) (hb : Below w.heap.size w w') : Lib.IsBuilder T e B b bs w' := by
  have go : ∀ p, Lib.BuilderAt T e B b p bs w → Lib.BuilderAt T e B b p bs w' := by
    rintro p ⟨hB, v, hbk, hown, hne⟩
    have hlt : b < w.heap.size := (Array.getElem?_eq_some_iff.1 hbk).1
    refine ⟨hB, v, by rw [hb.block b hlt]; exact hbk, hown.kept (below_grownBy hb) ?_, hne⟩
    cases v.ownBlock with
    | none => exact .inl rfl
    | some g => exact .inr (by simp)
  exact h.imp (go _) (go _)
end Go.Proofs.YtogjcaakfnfapaaGreatDoor
namespace Go.Proofs.YtogjcaakfnfapaaGreatDoor
open Go.RowKit
set_option linter.unusedVariables false
set_option linter.unusedSimpArgs false
set_option maxRecDepth 100000
theorem lx_mem {l : List Lb} {k : Nat} (h : k < l.length) : lx l k ∈ l := by rw [lx_at h]; exact List.getElem_mem h
theorem okP_no_name {l : List Lb} {k : Nat} (hk : k < l.length) (h : nameB (lx l k).1 = false ∨ 256 < (lx l k).2.size) : ¬ OkP l := by
  intro ho
  obtain ⟨h1, h2⟩ := ho.1 _ (lx_mem hk)
  rcases h with h | h
  · rw [h] at h1; cases h1
  · omega
theorem okP_no_dup {l : List Lb} {j k : Nat} (hj : j < k) (hk : k < l.length) (h : (lx l j).1 = (lx l k).1) : ¬ OkP l := by
  intro ho
  have := List.pairwise_iff_getElem.1 ho.2 j k (by omega) hk hj
  rw [lx_at hk, lx_at (by omega)] at h
  exact this h
theorem okP_snoc {l : List Lb} {k : Nat} (hk : k < l.length) (h : OkP (l.take k)) (h1 : nameB (lx l k).1 = true) (h2 : (lx l k).2.size ≤ 256) (h3 : ∀ j, j < k → (lx l j).1 ≠ (lx l k).1) : OkP (l.take (k + 1)) := by
  rw [List.take_succ_eq_append_getElem hk, ← lx_at hk]
  refine ⟨fun x hx => ?_, ?_⟩
  · rcases List.mem_append.1 hx with hx | hx
    · exact h.1 x hx
    · simp at hx; subst hx; exact ⟨h1, h2⟩
  · refine List.pairwise_append.2 ⟨h.2, List.pairwise_singleton _ _, fun x hx y hy => ?_⟩
    simp at hy; subst hy
    obtain ⟨j, hj, rfl⟩ := List.getElem_of_mem hx
    have hj' : j < k := by simp at hj; omega
    have := h3 j hj'
    rw [lx_at (by omega)] at this
    simpa using this
def RSet (l : List Lb) (w : World) (e : Ending) (w' : World) : Prop :=
  Below w.heap.size w w' ∧ ((OkP l ∧ (keepL l).length ≤ 32 ∧ ∃ v', e = .returned (.tuple #[v', .int .i64 0]) ∧ Sl lenc w' v' (insL (keepL l))) ∨ (¬ (OkP l ∧ (keepL l).length ≤ 32) ∧ e = .returned (.tuple #[.slice none 0 0, .int .i64 1])))
end Go.Proofs.YtogjcaakfnfapaaGreatDoor
namespace Go.Proofs.YtogjcaakfnfapaaGreatDoor
open Go Go.RowKit
set_option linter.unusedVariables false
set_option linter.unusedSimpArgs false
set_option maxRecDepth 100000
/-- The table that strconv.Itoa reads. -/
def Tab (w : World) : Prop := Lib.TabIs Tryz.prog w "internal/strconv.uint64pow10" .u64 Lib.pow10Tab
theorem Tab.below {w w' : World} {B : Nat} (h : Tab w) (hb : Below B w w') (hB : w.heap.size ≤ B) : Tab w' := by
  unfold Tab Lib.TabIs World.var? at h ⊢
  cases hg : Tryz.prog.globalNamed "internal/strconv.uint64pow10" with
  | none => rw [hg] at h; cases h
  | some g =>
    rw [hg] at h
    simp only [Option.bind_some] at h ⊢
    have hlt : g < w.heap.size := by
      rcases Nat.lt_or_ge g w.heap.size with h' | h'
      · exact h'
      · rw [Array.getElem?_eq_none h'] at h; cases h
    rw [hb.block g (by omega)]
    exact h
def itoaB (n : Int) : ByteArray := ⟨(Lib.itoa n).toArray⟩
theorem itoa_any (n : Int) (w : World) (h0 : -9223372036854775808 ≤ n) (h1 : n ≤ 9223372036854775807) (ht : Tab w) :
    Calls Tryz.prog 77 #[.int .i64 n] w fun e w' => e = .returned (.string (itoaB n)) ∧ Below w.heap.size w w' :=
  (Tryz.strconv_Itoa n h0 h1 w ht).mono fun e w' ⟨he, k, os, hw⟩ => ⟨he, by rw [hw]; exact ⟨rfl, rfl, rfl, by simp [Sort.grow, World.drewN], fun j hj => by simp [Sort.grow, World.drewN, Array.getElem?_append, hj]⟩⟩
theorem decDigits_len : ∀ (k u : Nat), u < 10 ^ (k + 1) → (Lib.decDigits u).length ≤ k + 1
  | k, u, h => by
    rw [Lib.decDigits]
    split
    · simp
    · rename_i h2
      cases k with
      | zero => omega
      | succ k =>
        have := decDigits_len k (u / 10) (by rw [Nat.pow_succ] at h; omega)
        simp
        omega
theorem itoaB_size {n : Int} (h0 : 0 ≤ n) (h1 : n ≤ 9223372036854775807) : (itoaB n).size ≤ 19 := by
  have hl : (itoaB n).size = (Lib.itoa n).length := by
    show (Lib.itoa n).toArray.size = _
    simp
  rw [hl, Lib.itoa, if_neg (by omega)]
  exact decDigits_len 18 n.toNat (by omega)
/-- A text with its length ahead. -/
def colonS : ByteArray := ⟨#[58]⟩
def pieceS (s : ByteArray) : ByteArray := itoaB s.size ++ colonS ++ s
def pieceB (s : ByteArray) : List UInt8 := (pieceS s).data.toList
def keyBytes (l : List Lb) : List UInt8 := l.flatMap fun x => pieceB x.1 ++ pieceB x.2
def keyL (l : List Lb) : ByteArray := ⟨(keyBytes l).toArray⟩
theorem pieceS_size {s : ByteArray} (h : s.size ≤ 1000000) : (pieceS s).size ≤ s.size + 20 := by
  have := itoaB_size (n := (s.size : Int)) (by omega) (by omega)
  unfold pieceS
  rw [ByteArray.size_append, ByteArray.size_append]
  have : colonS.size = 1 := rfl
  omega
def SizesOk (l : List Lb) : Prop := ∀ x ∈ l, x.1.size ≤ 1000 ∧ x.2.size ≤ 3000
theorem keyBytes_len : ∀ {l : List Lb}, SizesOk l → (keyBytes l).length ≤ l.length * 5000 := by
  intro l
  induction l with
  | nil => intro _; simp [keyBytes]
  | cons x r ih =>
    intro h
    have h1 := h x (by simp)
    have h2 := ih (fun y hy => h y (by simp [hy]))
    have h3 := pieceS_size (s := x.1) (by omega)
    have h4 := pieceS_size (s := x.2) (by omega)
    have e1 : (pieceB x.1).length = (pieceS x.1).size := by unfold pieceB; simp
    have e2 : (pieceB x.2).length = (pieceS x.2).size := by unfold pieceB; simp
    have e : keyBytes (x :: r) = pieceB x.1 ++ pieceB x.2 ++ keyBytes r := rfl
    rw [e, List.length_append, List.length_append, e1, e2, List.length_cons, Nat.succ_mul]
    omega
theorem SizesOk.take {l : List Lb} (h : SizesOk l) (k : Nat) : SizesOk (l.take k) := fun x hx => h x (List.mem_of_mem_take hx)
theorem keyBytes_snoc (l : List Lb) (k : Nat) (h : k < l.length) : keyBytes (l.take (k + 1)) = keyBytes (l.take k) ++ (pieceB (lx l k).1 ++ pieceB (lx l k).2) := by
  unfold keyBytes
  rw [lx_at h, List.take_succ_eq_append_getElem h, List.flatMap_append]
  simp
def halfB (x : Lb) : Nat → List UInt8
  | 0 => []
  | 1 => pieceB x.1
  | _ => pieceB x.1 ++ pieceB x.2
def halfS (x : Lb) : Nat → ByteArray
  | 0 => x.1
  | _ => x.2
abbrev BldT : TypeId := 99
abbrev U8T : TypeId := 5
theorem lit3' (w : World) (o p : Obj) : ((w.alloc p).alloc o).heap[w.heap.size + 1]? = some o := by
  have := heap_new (w.alloc p) o
  rw [show (w.alloc p).heap.size = w.heap.size + 1 by simp] at this
  exact this
set_option maxHeartbeats 4000000 in
theorem key_any (v : Value) (l : List Lb) (w : World) (h : Sl lenc w v l) (hl : l.length ≤ 100000) (hs : SizesOk l) (ht : Tab w) :
    Calls Tryz.prog 54 #[v] w fun e w' => e = .returned (.string (keyL l)) ∧ Below w.heap.size w w' := by
  obtain ⟨a, cap, rfl, hlen, -, hc⟩ := h.split lenc_len
  have HC := Lib.hid hc
  have HZ := Lib.hid hs
  have HT := Lib.hid ht
  clear hc h hs ht
  go_enter Tryz.func54, Tryz.ntmps54
  go_wp2_with fail
  go_loopw [10] (fun i wr => ∃ k : Nat, k ≤ l.length ∧ i = .int .i64 k ∧ Hid (Lib.IsBuilder BldT U8T w.heap.size w.heap.size (Lib.byteCells (keyBytes (l.take k))) wr) ∧ Hid (Below w.heap.size w wr)) (fun i _ => l.length - (intOf i).toNat)
  case atStart => exact ⟨0, Nat.zero_le _, rfl, Lib.fresh_isBuilder _ _ w, (Below.refl _ _).alloc (Nat.le_refl _) _⟩
  case round =>
    obtain ⟨k, hk, rfl, HB, HW⟩ := hrel
    by_cases hlt : k < l.length
    · have hltz : (k : Int) < (l.length : Int) := by omega
      have h00 : (0 : Int) ≤ (k : Int) := by omega
      obtain ⟨b, off, rfl, hk0, hk1⟩ := lab_cells HC.out HW.out (Nat.le_refl _) hlt
      have hlt3 : b < wr.heap.size := World.block_lt_of_cell? wr _ hk0
      have hne : b ≠ wr.heap.size := by omega
      go_wp2_with fail
      have HG0 := Lib.hid (show ((wr.alloc (.cells #[.string (lx l k).1, .string (lx l k).2] 46)).alloc (.cells #[.string (lx l k).1, .string (lx l k).2] 9)).heap[wr.heap.size + 1]? = some (.cells #[.string (halfS (lx l k) 0), .string (halfS (lx l k) 1)] 9 (0, 0)) from lit3' wr _ _)
      have HB0 := Lib.hid (isB_later HB.out (((Below.refl wr.heap.size wr).alloc (Nat.le_refl _) (.cells #[.string (lx l k).1, .string (lx l k).2] 46)).alloc (by simp) (.cells #[.string (lx l k).1, .string (lx l k).2] 9)))
      have hW0 := (HW.out.alloc HW.out.size (.cells #[.string (lx l k).1, .string (lx l k).2] 46)).alloc (by have := HW.out.size; simp; omega) (.cells #[.string (lx l k).1, .string (lx l k).2] 9)
      have HW0 := Lib.hid hW0
      clear hW0
      obtain ⟨g, hg⟩ : ∃ g, g = wr.heap.size + 1 := ⟨_, rfl⟩
      have hwg : w.heap.size < g := by have := HW.out.size; omega
      rw [← hg] at HG0 ⊢
      clear hg hk0 hk1 hlt3 hne
      generalize (wr.alloc (.cells #[.string (lx l k).1, .string (lx l k).2] 46)).alloc (.cells #[.string (lx l k).1, .string (lx l k).2] 9) = w5 at HG0 HB0 HW0 ⊢
      have hsb : ∀ j, (halfS (lx l k) j).size ≤ 3000 := fun j => by
        have := HZ.out _ (lx_mem hlt)
        cases j with
        | zero => show (lx l k).1.size ≤ _; omega
        | succ j => exact this.2
      have hkb := keyBytes_len (HZ.out.take k)
      rw [List.length_take, Nat.min_eq_left hk] at hkb
      have hhb : ∀ j, (halfB (lx l k) j).length ≤ 10000 := fun j => by
        have := HZ.out _ (lx_mem hlt)
        have h3 := pieceS_size (s := (lx l k).1) (by omega)
        have h4 := pieceS_size (s := (lx l k).2) (by omega)
        have e1 : (pieceB (lx l k).1).length = (pieceS (lx l k).1).size := by unfold pieceB; simp
        have e2 : (pieceB (lx l k).2).length = (pieceS (lx l k).2).size := by unfold pieceB; simp
        rcases j with _ | _ | j
        · simp [halfB]
        · simp [halfB]; omega
        · simp [halfB]; omega
      have HSB := Lib.hid hsb
      have HKB := Lib.hid hkb
      have HHB := Lib.hid hhb
      clear hsb hkb hhb
      go_loopw [20] (fun j wr => ∃ m : Nat, m ≤ 2 ∧ j = .int .i64 m ∧ Hid (Lib.IsBuilder BldT U8T w.heap.size w.heap.size (Lib.byteCells (keyBytes (l.take k) ++ halfB (lx l k) m)) wr) ∧ Hid (Below w.heap.size w wr) ∧ Hid (wr.heap[g]? = some (.cells #[.string (halfS (lx l k) 0), .string (halfS (lx l k) 1)] 9 (0, 0)))) (fun j _ => 2 - (intOf j).toNat)
      case atStart => exact ⟨0, Nat.zero_le _, rfl, (by show Lib.IsBuilder _ _ _ _ (Lib.byteCells (keyBytes (l.take k) ++ [])) _; rw [List.append_nil]; exact HB0.out), HW0.out, HG0.out⟩
      case round =>
        obtain ⟨m, hm, rfl, HBm, HWm, HGm⟩ := hrel
        have h0m : (0 : Int) ≤ (m : Int) := by omega
        by_cases hm2 : m < 2
        · have hm2z : (m : Int) < 2 := by omega
          obtain ⟨s, hs⟩ : ∃ s, s = halfS (lx l k) m := ⟨_, rfl⟩
          have hcell : wr.cell? ⟨g, m, none⟩ = some (.string s) := by
            rw [Lib.cell_of_heap HGm.out, hs]
            rcases m with _ | _ | m
            · rfl
            · rfl
            · omega
          have hsz : s.size ≤ 3000 := by rw [hs]; exact HSB.out m
          have HHs := Lib.hid (show halfB (lx l k) (m + 1) = halfB (lx l k) m ++ pieceB s by
            rw [hs]
            rcases m with _ | _ | m
            · rfl
            · rfl
            · omega)
          have HT5 := Lib.hid (HT.out.below HWm.out (Nat.le_refl _))
          clear hs
          obtain ⟨S, hS⟩ : ∃ S, S = itoaB (s.size : Int) := ⟨_, rfl⟩
          have hss : S.size ≤ 19 := by rw [hS]; exact itoaB_size (by omega) (by omega)
          have HS := Lib.hid hS
          have hsum1 : ¬ 9223372036854775807 < S.size + 1 := by omega
          have hsum2 : ¬ 9223372036854775807 < S.size + 1 + s.size := by omega
          have HI := Lib.hid (show Calls Tryz.prog 77 #[.int .i64 (s.size : Int)] wr fun e w' => e = .returned (.string S) ∧ Below wr.heap.size wr w' by rw [hS]; exact itoa_any _ _ (by omega) (by omega) HT5.out)
          have HP := Lib.hid (show pieceS s = S ++ ⟨#[58]⟩ ++ s by rw [hS]; rfl)
          have hpl : (Lib.byteCells (keyBytes (l.take k) ++ halfB (lx l k) m)).length + (S ++ ⟨#[58]⟩ ++ s).size ≤ 140737488355328 := by
            rw [Lib.byteCells_length, List.length_append, ByteArray.size_append, ByteArray.size_append]
            have h1 := HKB.out
            have h2 := HHB.out m
            have h3 : (⟨#[58]⟩ : ByteArray).size = 1 := rfl
            omega
          have HPL := Lib.hid hpl
          clear hpl hS hss
          go_wp2_with fail
          refine HI.out.mono ?_
          rintro e w6 ⟨rfl, hb6⟩
          have HB6 := Lib.hid (isB_later HBm.out hb6)
          have HW6 := Lib.hid (HWm.out.trans (hb6.mono HWm.out.size))
          have HG6 := Lib.hid (show w6.heap[g]? = some (.cells #[.string (halfS (lx l k) 0), .string (halfS (lx l k) 1)] 9 (0, 0)) by rw [hb6.block g ((Array.getElem?_eq_some_iff.1 HGm.out).1)]; exact HGm.out)
          clear hb6
          have HWS := Lib.hid (ws_any w.heap.size w.heap.size _ (S ++ ⟨#[58]⟩ ++ s) w6 HB6.out HPL.out HW6.out.size)
          go_wp2_with fail
          refine HWS.out.mono ?_
          rintro e w7 ⟨rfl, hb7, hw7, hk7⟩
          have HB7 := Lib.hid (show Lib.IsBuilder BldT U8T w.heap.size w.heap.size (Lib.byteCells (keyBytes (l.take k) ++ halfB (lx l k) (m + 1))) w7 by
            rw [HHs.out, ← List.append_assoc, Lib.byteCells_append _ (pieceB s)]
            refine .inr ?_
            rw [Lib.strCells_eq, ← HP.out] at hb7
            exact hb7)
          have HW7 := Lib.hid (HW6.out.trans (hw7.mono (Nat.le_refl _)))
          have HG7 := Lib.hid (hk7 g _ HG6.out (by intro e; injection e with e; omega) (fun c fz e => by injection e with _ e2 _; exact absurd e2 (by decide)))
          clear hb7 hw7 hk7
          go_wp2_with fail
          go_roundw
          case rel => exact ⟨m + 1, by omega, by go_num, HB7.out, HW7.out, HG7.out⟩
          case measure => simp [intOf]; omega
        · obtain rfl : m = 2 := by omega
          have HBX := Lib.hid (show Lib.IsBuilder BldT U8T w.heap.size w.heap.size (Lib.byteCells (keyBytes (l.take (k + 1)))) wr by rw [keyBytes_snoc l k hlt]; exact HBm.out)
          go_wp2_with fail
          go_roundw
          case rel => exact ⟨k + 1, by omega, by go_num, HBX.out, HWm.out⟩
          case measure => simp [intOf]; omega
    · have hltz : ¬ (k : Int) < (l.length : Int) := by omega
      obtain rfl : k = l.length := by omega
      rw [List.take_of_length_le (Nat.le_refl _)] at HB
      have HST := Lib.hid (Tryz.Builder_String_any w.heap.size w.heap.size (keyBytes l) wr HB.out HW.out.size)
      go_wp2_with fail
      refine HST.out.mono ?_
      rintro e w1 ⟨rfl, hb1⟩
      have HB1 := Lib.hid (HW.out.trans (hb1.mono (Nat.le_refl _)))
      clear hb1
      go_wp2_with fail
      go_ret
      exact ⟨rfl, HB1.out⟩
end Go.Proofs.YtogjcaakfnfapaaGreatDoor
namespace Go.Proofs.YtogjcaakfnfapaaGreatDoor
open Go Go.RowKit
set_option linter.unusedVariables false
set_option linter.unusedSimpArgs false
def digI (c : UInt8) : Bool := decide (48 ≤ c.toNat) && decide (c.toNat ≤ 57)
theorem dec_digits (n : Nat) : ∀ b ∈ Lib.decDigits n, digI b = true := by
  fun_induction Lib.decDigits n with
  | case1 u h =>
    intro b hb
    rw [List.mem_singleton] at hb
    subst hb
    unfold digI
    simp only [Bool.and_eq_true, decide_eq_true_eq, UInt8.toNat_ofNat']
    omega
  | case2 u h ih =>
    intro b hb
    rcases List.mem_append.1 hb with hb | hb
    · exact ih b hb
    · rw [List.mem_singleton] at hb
      subst hb
      unfold digI
      simp only [Bool.and_eq_true, decide_eq_true_eq, UInt8.toNat_ofNat']
      omega
theorem dec_ne (n : Nat) : Lib.decDigits n ≠ [] := by
  rw [Lib.decDigits]
  split
  · simp
  · simp
theorem dec_len (n : Nat) : 0 < (Lib.decDigits n).length := List.length_pos_iff.2 (dec_ne n)
theorem decFrom_app (l : List UInt8) : ∀ (acc : Nat) (m : List UInt8), Lib.decFrom acc (l ++ m) = (Lib.decFrom acc l).bind fun a => Lib.decFrom a m := by
  induction l with
  | nil => intro acc m; rfl
  | cons b r ih =>
    intro acc m
    simp only [List.cons_append, Lib.decFrom]
    cases Lib.digitVal b with
    | none => rfl
    | some d => exact ih _ m
theorem digitVal_ofNat {d : Nat} (h : d < 10) : Lib.digitVal (UInt8.ofNat (48 + d)) = some d := by
  unfold Lib.digitVal
  rw [UInt8.toNat_ofNat', if_pos (by omega)]
  congr 1
  omega
theorem decFrom_dec (n : Nat) : Lib.decFrom 0 (Lib.decDigits n) = some n := by
  fun_induction Lib.decDigits n with
  | case1 u h =>
    simp only [Lib.decFrom, digitVal_ofNat h]
    simp
  | case2 u h ih =>
    rw [decFrom_app, ih]
    simp only [Option.bind_some, Lib.decFrom, digitVal_ofNat (Nat.mod_lt u (by omega : 0 < 10))]
    congr 1
    omega
theorem dec_len_le (n : Nat) (h : n < 10000) : (Lib.decDigits n).length ≤ 4 := decDigits_len 3 n (by omega)
theorem atoi_dec (n : Nat) (h : n < 1000000) : Lib.atoiAll (Lib.decDigits n) = .ok (n : Int) := by
  have hl : (Lib.decDigits n).length ≤ 6 := decDigits_len 5 n (by omega)
  rw [Lib.atoiAll_short _ (by omega)]
  have hd := decFrom_dec n
  have hb := dec_digits n
  cases hD : Lib.decDigits n with
  | nil => exact absurd hD (dec_ne n)
  | cons b r =>
    rw [hD] at hd hb
    have hb0 := hb b (by simp)
    unfold digI at hb0
    simp only [Bool.and_eq_true, decide_eq_true_eq] at hb0
    have h45 : (b == 45) = false := by
      rw [beq_eq_false_iff_ne]
      intro e; rw [e] at hb0; exact absurd hb0.1 (by decide)
    have h43 : (b == 43) = false := by
      rw [beq_eq_false_iff_ne]
      intro e; rw [e] at hb0; exact absurd hb0.1 (by decide)
    unfold Lib.atoi
    simp only [h45, h43]
    unfold Lib.decNat
    simp only [List.isEmpty_cons, hd]
    rfl
/-- A text with its length ahead. -/
def PB (t : List UInt8) : List UInt8 := Lib.decDigits t.length ++ 58 :: t
theorem pieceB_PB (s : ByteArray) : pieceB s = PB s.data.toList := by
  unfold pieceB pieceS PB itoaB colonS
  rw [Lib.itoa_nonneg]
  have : s.data.toList.length = s.size := by simp
  rw [this]
  simp only [ByteArray.data_append, Array.toList_append, List.append_assoc]
  rfl
theorem index_colon (D r : List UInt8) (h : ∀ b ∈ D, digI b = true) : Lib.index (D ++ 58 :: r) [58] = (D.length : Int) := by
  refine Lib.index_first (by simp) ?_ fun j hj => ?_
  · unfold Lib.occAt
    rw [List.drop_left]
    simp
  · unfold Lib.occAt
    rw [List.drop_append_of_le_length (by omega), List.drop_eq_getElem_cons hj, List.cons_append]
    have := h D[j] (List.getElem_mem hj)
    unfold digI at this
    simp only [Bool.and_eq_true, decide_eq_true_eq] at this
    have hne : ¬ (58 : UInt8) = D[j] := by
      intro e; rw [← e] at this; exact absurd this.2 (by decide)
    simp [List.isPrefixOf, hne]
def pieceP (s : List UInt8) : Option (List UInt8 × List UInt8) :=
  if (Lib.cut s [58]).2.2 = false then none else
  match Lib.atoiAll (Lib.cut s [58]).1 with
  | .ok n => if n < 0 ∨ ((Lib.cut s [58]).2.1.length : Int) < n then none else some ((Lib.cut s [58]).2.1.take n.toNat, (Lib.cut s [58]).2.1.drop n.toNat)
  | _ => none
theorem pieceP_of (t r : List UInt8) (h : t.length < 1000000) : pieceP (PB t ++ r) = some (t, r) := by
  have e : PB t ++ r = Lib.decDigits t.length ++ 58 :: (t ++ r) := by unfold PB; simp
  have hc : Lib.cut (PB t ++ r) [58] = (Lib.decDigits t.length, t ++ r, true) := by
    have hi := index_colon (Lib.decDigits t.length) (t ++ r) (dec_digits _)
    rw [e]
    unfold Lib.cut
    rw [hi, if_pos (by omega)]
    simp only [Int.toNat_natCast, List.length_cons, List.length_nil, List.take_left]
    congr 2
    rw [List.drop_append, List.drop_of_length_le (by omega), List.nil_append]
    simp
  unfold pieceP
  rw [hc]
  simp only [atoi_dec _ h]
  rw [if_neg (by simp), if_neg (by simp; omega)]
  simp
/-- What a key of right labels is read as. -/
theorem keyBytes_cons (x : Lb) (r : List Lb) : keyBytes (x :: r) = PB x.1.data.toList ++ (PB x.2.data.toList ++ keyBytes r) := by
  unfold keyBytes
  rw [List.flatMap_cons, pieceB_PB, pieceB_PB, List.append_assoc]
theorem keyBytes_ne (x : Lb) (r : List Lb) : keyBytes (x :: r) ≠ [] := by
  rw [keyBytes_cons]
  unfold PB
  simp
theorem sizes_bd {x : Lb} (h : x.1.size ≤ 1000 ∧ x.2.size ≤ 3000) : x.1.data.toList.length < 1000000 ∧ x.2.data.toList.length < 1000000 := by
  simp
  omega
theorem key_inj : ∀ {a b : List Lb}, SizesOk a → SizesOk b → keyBytes a = keyBytes b → a = b := by
  intro a
  induction a with
  | nil =>
    intro b _ _ h
    cases b with
    | nil => rfl
    | cons y t => exact absurd h.symm (keyBytes_ne y t)
  | cons x r ih =>
    intro b ha hb h
    cases b with
    | nil => exact absurd h (keyBytes_ne x r)
    | cons y t =>
      have sx := sizes_bd (ha x (by simp))
      have sy := sizes_bd (hb y (by simp))
      rw [keyBytes_cons, keyBytes_cons] at h
      have e1 := congrArg pieceP h
      rw [pieceP_of _ _ sx.1, pieceP_of _ _ sy.1] at e1
      injection e1 with e1
      injection e1 with e1 e2
      have e3 := congrArg pieceP e2
      rw [pieceP_of _ _ sx.2, pieceP_of _ _ sy.2] at e3
      injection e3 with e3
      injection e3 with e3 e4
      have hxy : x = y := Prod.ext (ba_eq e1) (ba_eq e3)
      rw [hxy, ih (fun z hz => ha z (by simp [hz])) (fun z hz => hb z (by simp [hz])) e4]
end Go.Proofs.YtogjcaakfnfapaaGreatDoor
namespace Go.Proofs.YtogjcaakfnfapaaGreatDoor
open Go Go.RowKit
set_option linter.unusedVariables false
set_option linter.unusedSimpArgs false
instance decBA : DecidableEq ByteArray := fun a b => decidable_of_iff (a.data = b.data) ⟨fun h => ByteArray.ext h, fun h => by rw [h]⟩
instance decLbs : DecidableEq (List Lb) := fun a b => inferInstance
instance decMemG (g : List Lb) (gs : List (List Lb)) : Decidable (g ∈ gs) := @List.instDecidableMemOfLawfulBEq (List Lb) (@instBEqOfDecidableEq _ decLbs) inferInstance g gs
section
variable {β : Type} (gl : β → List Lb)
/-- The groups' labels, in the order in which they come. -/
def firstsG (zs : List β) : List (List Lb) := zs.foldl (fun gs z => if gl z ∈ gs then gs else gs ++ [gl z]) []
theorem firsts_snoc (zs : List β) (z : β) : firstsG gl (zs ++ [z]) = if gl z ∈ firstsG gl zs then firstsG gl zs else firstsG gl zs ++ [gl z] := by
  unfold firstsG; rw [List.foldl_append]; rfl
theorem take_ind {P : List β → Prop} (h0 : P []) (h1 : ∀ l z, P l → P (l ++ [z])) (zs : List β) : P zs := by
  have : ∀ n, n ≤ zs.length → P (zs.take n) := by
    intro n
    induction n with
    | zero => intro _; simpa using h0
    | succ n ih => intro h; rw [List.take_succ_eq_append_getElem (by omega)]; exact h1 _ _ (ih (by omega))
  have := this zs.length (Nat.le_refl _)
  rwa [List.take_length] at this
theorem mem_firsts (zs : List β) : ∀ g, g ∈ firstsG gl zs ↔ ∃ z ∈ zs, gl z = g := by
  refine take_ind (P := fun zs => ∀ g, g ∈ firstsG gl zs ↔ ∃ z ∈ zs, gl z = g) ?_ ?_ zs
  · intro g; simp [firstsG]
  · intro l z ih g
    rw [firsts_snoc]
    split
    · rename_i h
      rw [ih]
      constructor
      · rintro ⟨y, hy, e⟩; exact ⟨y, by simp [hy], e⟩
      · rintro ⟨y, hy, e⟩
        rcases List.mem_append.1 hy with hy | hy
        · exact ⟨y, hy, e⟩
        · rw [List.mem_singleton.1 hy] at e
          rw [← e]; exact (ih _).1 h
    · simp only [List.mem_append, List.mem_singleton, ih]
      constructor
      · rintro (⟨y, hy, e⟩ | e)
        · exact ⟨y, .inl hy, e⟩
        · exact ⟨z, .inr rfl, e.symm⟩
      · rintro ⟨y, hy | hy, e⟩
        · exact .inl ⟨y, hy, e⟩
        · rw [hy] at e; exact .inr e.symm
theorem nodup_firsts (zs : List β) : (firstsG gl zs).Nodup := by
  refine take_ind (P := fun zs => (firstsG gl zs).Nodup) ?_ ?_ zs
  · simp [firstsG]
  · intro l z ih
    rw [firsts_snoc]
    split
    · exact ih
    · rename_i h
      rw [List.nodup_append]
      refine ⟨ih, by simp, fun a ha b hb e => ?_⟩
      rw [List.mem_singleton] at hb
      rw [e, hb] at ha; exact h ha
theorem firsts_take (zs : List β) (k : Nat) (h : k < zs.length) : firstsG gl (zs.take (k + 1)) = if gl zs[k] ∈ firstsG gl (zs.take k) then firstsG gl (zs.take k) else firstsG gl (zs.take k) ++ [gl zs[k]] := by
  rw [List.take_succ_eq_append_getElem h, firsts_snoc]
theorem firsts_len (zs : List β) : (firstsG gl zs).length ≤ zs.length := by
  refine take_ind (P := fun zs => (firstsG gl zs).length ≤ zs.length) ?_ ?_ zs
  · simp [firstsG]
  · intro l z ih
    rw [firsts_snoc]
    split
    · simp; omega
    · simp; omega
/-- A group's members. -/
def membG (zs : List β) (g : List Lb) : List β := zs.filter fun z => decide (gl z = g)
theorem memb_ne {zs : List β} {g : List Lb} (h : g ∈ firstsG gl zs) : membG gl zs g ≠ [] := by
  obtain ⟨z, hz, e⟩ := (mem_firsts gl zs g).1 h
  intro h0
  have : z ∈ membG gl zs g := List.mem_filter.2 ⟨hz, by simpa using e⟩
  rw [h0] at this; cases this
theorem memb_mem {zs : List β} {g : List Lb} {z : β} (h : z ∈ membG gl zs g) : z ∈ zs ∧ gl z = g := by
  have := List.mem_filter.1 h
  exact ⟨this.1, by simpa using this.2⟩
/-- Those whose text is s. -/
def grpB (zs : List β) (s : ByteArray) : List β := zs.filter fun z => (keyL (gl z)).toList == s.toList
theorem keyL_inj {a b : List Lb} (ha : SizesOk a) (hb : SizesOk b) (h : (keyL a).toList = (keyL b).toList) : a = b := by
  refine key_inj ha hb ?_
  have : keyL a = keyL b := ba_ext h
  unfold keyL at this
  injection this with h1
  simpa using congrArg Array.toList h1
theorem grp_memb {zs : List β} {g : List Lb} (h : ∀ z ∈ zs, SizesOk (gl z)) (hg : SizesOk g) : grpB gl zs (keyL g) = membG gl zs g := by
  unfold grpB membG
  refine List.filter_congr fun z hz => ?_
  rw [Bool.eq_iff_iff]
  simp only [beq_iff_eq, decide_eq_true_eq]
  exact ⟨fun e => keyL_inj (h z hz) hg e, fun e => by rw [e]⟩
theorem grp_take (zs : List β) (k : Nat) (h : k < zs.length) : (fun s => grpB gl (zs.take (k + 1)) s) = upd (fun s => grpB gl (zs.take k) s) (keyL (gl zs[k])) (grpB gl (zs.take k) (keyL (gl zs[k])) ++ [zs[k]]) := by
  funext s
  unfold upd
  simp only [List.take_succ_eq_append_getElem h]
  unfold grpB
  rw [List.filter_append]
  by_cases e : s.toList = (keyL (gl zs[k])).toList
  · rw [if_pos e]
    have e2 : s = keyL (gl zs[k]) := ba_ext e
    subst e2
    simp
  · rw [if_neg e]
    have : ((keyL (gl zs[k])).toList == s.toList) = false := by simpa using Ne.symm e
    simp [List.filter_cons, this]
/-- Whether a group was there. -/
theorem grp_had {zs : List β} {k : Nat} (h : k < zs.length) (hs : ∀ z ∈ zs, SizesOk (gl z)) : (!(grpB gl (zs.take k) (keyL (gl zs[k]))).isEmpty) = decide (gl zs[k] ∈ firstsG gl (zs.take k)) := by
  rw [grp_memb gl (fun z hz => hs z (List.mem_of_mem_take hz)) (hs _ (List.getElem_mem h)), Bool.eq_iff_iff]
  simp only [Bool.not_eq_true', List.isEmpty_eq_false_iff, decide_eq_true_eq]
  constructor
  · intro h0
    obtain ⟨z, hz⟩ := List.exists_mem_of_ne_nil _ h0
    obtain ⟨h1, h2⟩ := memb_mem gl hz
    exact (mem_firsts gl _ _).2 ⟨z, h1, h2⟩
  · exact fun h0 => memb_ne gl h0
end
theorem SizesOk.group {l : List Lb} (h : SizesOk l) (how : Int) (names : List ByteArray) : SizesOk (groupL how names l) := by
  intro x hx
  refine h x ?_
  unfold groupL at hx
  have hp : ∀ (ns : List ByteArray) (b : Bool) (l : List Lb), x ∈ pickL ns b l → x ∈ l := fun ns b l hx => by
    unfold pickL at hx
    exact (List.mem_filter.1 hx).1
  split at hx
  · exact hp _ _ _ hx
  · split at hx
    · exact hp _ _ _ (hp _ _ _ hx)
    · cases hx
end Go.Proofs.YtogjcaakfnfapaaGreatDoor
namespace Go.Proofs.YtogjcaakfnfapaaGreatDoor
open Go Go.RowKit Go.Maps
set_option linter.unusedVariables false
set_option linter.unusedSimpArgs false
set_option maxRecDepth 100000
def nx (names : List ByteArray) (k : Nat) : ByteArray := names.getD k ByteArray.empty
theorem nx_at {names : List ByteArray} {k : Nat} (h : k < names.length) : nx names k = names[k] := by simp [nx, h]
/-- A name that may be, and that none ahead of it is. -/
def newN (names : List ByteArray) (k : Nat) : Bool := nameB (nx names k) && !hasL (names.take k) (nx names k)
def onceL (names : List ByteArray) : Bool := decide (names.length ≤ 32) && (List.range names.length).all (newN names)
def chkL (how : Int) (names : List ByteArray) : Int := if how < 0 ∨ 2 < how ∨ (how = 0 ∧ 0 < names.length) ∨ onceL names = false then 1 else 0
theorem once_no {names : List ByteArray} {k : Nat} (h : k < names.length) (h2 : newN names k = false) : onceL names = false := by
  unfold onceL
  have : (List.range names.length).all (newN names) = false := by
    rw [List.all_eq_false]
    exact ⟨k, List.mem_range.2 h, by simp [h2]⟩
  rw [this, Bool.and_false]
theorem once_yes {names : List ByteArray} (h : names.length ≤ 32) (h2 : ∀ k, k < names.length → newN names k = true) : onceL names = true := by
  unfold onceL
  rw [decide_eq_true h, Bool.true_and, List.all_eq_true]
  exact fun k hk => h2 k (List.mem_range.1 hk)
theorem hasL_snoc (names : List ByteArray) (k : Nat) (h : k < names.length) : (fun s => hasL (names.take (k + 1)) s) = upd (fun s => hasL (names.take k) s) names[k] true := by
  funext s
  rw [List.take_succ_eq_append_getElem h]
  unfold hasL upd
  rw [List.any_append]
  by_cases e : s.toList = names[k].toList
  · rw [if_pos e]; simp [e]
  · rw [if_neg e]
    have : (names[k].toList == s.toList) = false := by simpa using Ne.symm e
    simp [this]
theorem upd_bool (f : ByteArray → Bool) (s : ByteArray) : (fun t => Value.bool (upd f s true t)) = upd (fun t => Value.bool (f t)) s (.bool true) := by
  funext t
  unfold upd
  split <;> rfl
theorem hasL_nil : (fun s => hasL (([] : List ByteArray)) s) = fun _ => false := rfl
theorem zero_bool (w : World) : (zeroValue 4).run Tryz.prog w = .ok (.bool false) w := by rfl
set_option maxHeartbeats 4000000 in
theorem once_any (v : Value) (names : List ByteArray) (w : World) (h : Sl senc1 w v names) (hz : ∀ s ∈ names, s.size ≤ maxLen) :
    Calls Tryz.prog 36 #[v] w fun e w' => e = .returned (.bool (onceL names)) ∧ Below w.heap.size w w' := by
  have hmm := @run_makeMap Tryz.prog
  obtain ⟨a, cap, rfl, hlen, hc⟩ := h.strings
  have HC := Lib.hid hc
  have HZ := Lib.hid hz
  have HSN := Lib.hid h
  clear hc h hz
  by_cases hl : names.length ≤ 32
  · have hl1 : ¬ 32 < (names.length : Int) := by omega
    go_enter Tryz.func36, Tryz.ntmps36
    go_wp2_with fail
    go_loopw [12] (fun i wr => ∃ k : Nat, k ≤ names.length ∧ i = .int .i64 k ∧ Hid (∀ j, j < k → newN names j = true) ∧ Hid (MapV wr w.heap.size k (fun s => hasL (names.take k) s) (fun s => .bool (hasL (names.take k) s)) (.bool false)) ∧ Hid (Below w.heap.size w wr)) (fun i _ => names.length - (intOf i).toNat)
    case atStart => exact ⟨0, Nat.zero_le _, rfl, (fun j h => absurd h (Nat.not_lt_zero _)), MapV.made w _, (Below.refl _ _).alloc (Nat.le_refl _) _⟩
    case round =>
      obtain ⟨k, hk, rfl, HJ, HM, HB⟩ := hrel
      have hBz := HB.out.size
      have h00 : (0 : Int) ≤ (k : Int) := by omega
      by_cases hlt : k < names.length
      · have hltz : (k : Int) < (names.length : Int) := by omega
        obtain ⟨b, off, rfl, hd⟩ := HC.out k hlt
        have q0 := cell_below HB.out (Nat.le_refl _) (hd k hlt)
        obtain ⟨x, hx⟩ : ∃ x, x = names[k] := ⟨_, rfl⟩
        have hxs : x.size ≤ maxLen := by rw [hx]; exact HZ.out _ (List.getElem_mem hlt)
        rw [← hx] at q0
        have hrun := HM.out.look Tryz.underlying87 (zero_bool _) hxs
        have HRUN := Lib.hid hrun
        have HXX := Lib.hid hx
        obtain ⟨hd', hh⟩ : ∃ q, q = hasL (names.take k) x := ⟨_, rfl⟩
        have HNW := Lib.hid (show newN names k = (nameB x && !hd') by rw [newN, nx_at hlt, ← hx, hh])
        rw [← hh] at hrun
        have HRU := Lib.hid hrun
        clear hd hrun HRUN hh hx
        have HNM := Lib.hid (fun w => name_any x w)
        cases hd' with
        | true =>
          have HF := Lib.hid (show onceL names = false from once_no hlt (by rw [HNW.out]; simp))
          go_wp2_with (at_lookup; refine wpList_lookup_of _ rfl _ _ _ _ rfl _ _ _ rfl rfl HRU.out ?_)
          go_ret
          exact ⟨by rw [HF.out]; rfl, HB.out⟩
        | false =>
          obtain ⟨nb, hnb⟩ : ∃ q, q = nameB x := ⟨_, rfl⟩
          rw [← hnb] at HNM HNW
          clear hnb
          cases nb with
          | false =>
            have HF := Lib.hid (show onceL names = false from once_no hlt (by rw [HNW.out]; simp))
            go_wp2_with (first | (at_lookup; refine wpList_lookup_of _ rfl _ _ _ _ rfl _ _ _ rfl rfl HRU.out ?_) | (go_at_call 65; refine (HNM.out _).mono ?_; rintro e w1 ⟨rfl, rfl⟩))
            go_ret
            exact ⟨by rw [HF.out]; rfl, HB.out⟩
          | true =>
            have HN2 := Lib.hid (show newN names k = true by rw [HNW.out]; rfl)
            have hput := HM.out.put Tryz.underlying87 (by unfold maxLen; omega) hxs (.bool true)
            have HPUT := Lib.hid hput
            clear hput
            go_wp2_with (first | (at_lookup; refine wpList_lookup_of _ rfl _ _ _ _ rfl _ _ _ rfl rfl HRU.out ?_) | (go_at_call 65; refine (HNM.out _).mono ?_; rintro e w1 ⟨rfl, rfl⟩) | (at_mapUpdate; refine wpList_mapUpdate_of _ rfl _ _ _ _ rfl _ _ _ rfl rfl rfl HPUT.out ?_; rintro w2 ⟨hm2, hg2⟩))
            have HM2 := Lib.hid hm2
            have HB2 := Lib.hid (HB.out.grown hg2 HB.out.size (fun j hj => by injection hj with hj; omega))
            clear hm2 hg2
            go_roundw
            case rel =>
              refine ⟨k + 1, by omega, by go_num, (fun j hj => ?_), ?_, HB2.out⟩
              · by_cases e : j = k
                · subst e; exact HN2.out
                · exact HJ.out j (by omega)
              · have := HM2.out
                rw [HXX.out, ← upd_bool, ← hasL_snoc names k hlt] at this
                exact this
            case measure => simp [intOf]; omega
      · obtain rfl : k = names.length := by omega
        have hltz : ¬ ((names.length : Int) < (names.length : Int)) := by omega
        have HF := Lib.hid (once_yes hl HJ.out)
        go_wp2_with fail
        go_ret
        exact ⟨by rw [HF.out]; rfl, HB.out⟩
  · have HF := Lib.hid (show onceL names = false by unfold onceL; rw [decide_eq_false hl]; rfl)
    have hl1 : 32 < (names.length : Int) := by omega
    go_enter Tryz.func36, Tryz.ntmps36
    go_wp2_with fail
    go_ret
    exact ⟨by rw [HF.out]; rfl, Below.refl _ _⟩
end Go.Proofs.YtogjcaakfnfapaaGreatDoor
