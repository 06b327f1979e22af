/- The guards of chapter 3's laws: Few, names. How slices of whatever elements are opened. The arguments of chapter 3's laws, opened. GlobLabels: the walk. (Several texts in one file, by merge.py.) -/
import Derived.Test.YtnnfhcbopchodaaDoorZA8
import Derived.Test.YtnnfhcbopchodaaDoorZA1
import Derived.ProofKit
import Derived.SizedLaws
import Derived.ChangeSlices
import Derived.Deep.Slices
import Derived.ChangeArms
import Derived.Lib.SmallJoins
import Derived.Test.YtnnfhcbopchodaaDoorZA5
import Derived.Deep.Strs
import Derived.Test.YtnnfhcbopchodaaDoorZA11
import Derived.Test.YtnnfhcbopchodaaDoorZA10
namespace Go.Proofs.YtnnfhcbopchodaaDoor
open Go.RowKit
set_option linter.unusedVariables false
set_option linter.unusedSimpArgs false
set_option maxRecDepth 100000
def fewL (cs : List Lb) : Bool := decide (cs.length ≤ 80) && cs.all fun x => decide (x.1.size ≤ 400) && decide (x.2.size ≤ 2000)
theorem few_no {cs : List Lb} {k : Nat} (h : k < cs.length) (h2 : 400 < (lx cs k).1.size ∨ 2000 < (lx cs k).2.size) : fewL cs = false := by
  have : (cs.all fun x => decide (x.1.size ≤ 400) && decide (x.2.size ≤ 2000)) = false := by
    rw [List.all_eq_false]
    refine ⟨cs[k], List.getElem_mem h, ?_⟩
    rw [lx_at h] at h2
    simp
    omega
  rw [fewL, this, Bool.and_false]
theorem few_len {cs : List Lb} (h : fewL cs = true) : cs.length ≤ 80 := by
  unfold fewL at h
  rw [Bool.and_eq_true] at h
  exact of_decide_eq_true h.1
theorem few_yes {cs : List Lb} (h : cs.length ≤ 80) (h2 : ∀ j, j < cs.length → (lx cs j).1.size ≤ 400 ∧ (lx cs j).2.size ≤ 2000) : fewL cs = true := by
  unfold fewL
  rw [Bool.and_eq_true]
  refine ⟨decide_eq_true h, ?_⟩
  rw [List.all_eq_true]
  intro x hx
  obtain ⟨j, hj, rfl⟩ := List.getElem_of_mem hx
  have := h2 j hj
  rw [lx_at hj] at this
  simp [this]
set_option maxHeartbeats 2000000 in
theorem few_any (v : Value) (cs : List Lb) (w : World) (h : Sl lenc w v cs) :
    Calls Tryd.prog 14 #[v] w fun e w' => e = .returned (.bool (fewL cs)) ∧ w' = w := by
  obtain ⟨a, cap, rfl, hlen, -, hc⟩ := h.split lenc_len
  have HC := Lib.hid hc
  clear hc h
  by_cases hb : 80 < cs.length
  · have hbz : (80 : Int) < (cs.length : Int) := by omega
    have HF := Lib.hid (show fewL cs = false by unfold fewL; rw [show decide (cs.length ≤ 80) = false from decide_eq_false (by omega)]; rfl)
    go_enter Tryd.func14, Tryd.ntmps14
    go_wp2_with fail
    go_ret
    exact ⟨by rw [HF.out] <;> rfl, rfl⟩
  · have hbz : ¬ (80 : Int) < (cs.length : Int) := by omega
    go_enter Tryd.func14, Tryd.ntmps14
    go_wp2_with fail
    go_loopw [3] (fun i wr => ∃ (k : Nat), k ≤ cs.length ∧ i = .int .i64 k ∧ Hid (∀ j, j < k → (lx cs j).1.size ≤ 400 ∧ (lx cs j).2.size ≤ 2000) ∧ wr = w) (fun i _ => cs.length - (intOf i).toNat)
    case atStart => exact ⟨0, Nat.zero_le _, rfl, fun j hj => absurd hj (Nat.not_lt_zero _), rfl⟩
    case round =>
      obtain ⟨k, hk, rfl, HV, rfl⟩ := hrel
      by_cases hlt : k < cs.length
      · have hltz : (k : Int) < (cs.length : Int) := by omega
        have h00 : (0 : Int) ≤ (k : Int) := by omega
        obtain ⟨b, off, rfl, k0, k1⟩ := lab_cells HC.out (Below.refl _ _) (Nat.le_refl _) hlt
        by_cases h1 : 400 < (lx cs k).1.size
        · have HF := Lib.hid (few_no hlt (.inl h1))
          have h1z : (400 : Int) < ((lx cs k).1.size : Int) := by omega
          have h1b : decide ((400 : Int) < ((lx cs k).1.size : Int)) = true := decide_eq_true h1z
          go_wp2_with fail
          go_ret
          exact ⟨by rw [HF.out] <;> rfl, rfl⟩
        · have h1z : ¬ (400 : Int) < ((lx cs k).1.size : Int) := by omega
          have h1b : decide ((400 : Int) < ((lx cs k).1.size : Int)) = false := decide_eq_false h1z
          by_cases h2 : 2000 < (lx cs k).2.size
          · have HF := Lib.hid (few_no hlt (.inr h2))
            have h2z : (2000 : Int) < ((lx cs k).2.size : Int) := by omega
            have h2b : decide ((2000 : Int) < ((lx cs k).2.size : Int)) = true := decide_eq_true h2z
            go_wp2_with fail
            go_ret
            exact ⟨by rw [HF.out] <;> rfl, rfl⟩
          · have h2z : ¬ (2000 : Int) < ((lx cs k).2.size : Int) := by omega
            have h2b : decide ((2000 : Int) < ((lx cs k).2.size : Int)) = false := decide_eq_false h2z
            go_wp2_with fail
            go_roundw
            case rel => exact ⟨k + 1, by omega, by go_num, (fun j hj => by
              by_cases hjk : j = k
              · subst hjk; omega
              · exact HV.out j (by omega)), by trivial⟩
            case measure => simp [intOf]; omega
      · have hltz : ¬ (k : Int) < (cs.length : Int) := by omega
        have HF := Lib.hid (few_yes (by omega) (fun j hj => HV.out j (by omega)))
        go_wp2_with fail
        go_ret
        exact ⟨by rw [HF.out] <;> rfl, rfl⟩
end Go.Proofs.YtnnfhcbopchodaaDoor
namespace Go.Proofs.YtnnfhcbopchodaaDoor
open Go.RowKit Go.ChangeShapes Go.WideShapes
set_option linter.unusedVariables false
set_option linter.unusedSimpArgs false

theorem add_spot {w : World} {x : Addr} {j : Nat} {u : Value} (h : w.cell? (x.add j) = some u) (hs : x.spot = none) : w.cell? ⟨x.block, x.off + j, none⟩ = some u := by
  obtain ⟨b, off, sp⟩ := x
  subst hs
  rw [Addr.add_lit] at h
  exact h

section
variable {H : Type} {enc : TypeId × Value → H} {P : Program} {w : World} {base : Nat} {spare : Nat → Bool} {held : Bool}

theorem cells_get {base n : Nat} {a : Addr} {cs : List Value} (h : w.cells? base a n = some cs) (hs : a.spot = none) : cs.length = n ∧ ∀ i u, cs[i]? = some u → w.cell? ⟨a.block, a.off + i, none⟩ = some u := by
  unfold World.cells? at h
  split at h
  · have hl : cs.length = n := by simpa using mapM_some_length h
    refine ⟨hl, fun i u hu => ?_⟩
    have hi : i < n := by have := (List.getElem?_eq_some_iff.1 hu).1; omega
    have := mapM_some_get h i i (by simp [hi])
    obtain ⟨b, off, sp⟩ := a
    simp only at hs
    subst hs
    rw [Addr.add_lit] at this
    rw [this]; exact hu
  · cases h

theorem cells_first {base n : Nat} {a : Addr} {cs : List Value} (h : w.cells? base a n = some cs) (h0 : 0 < n) : ∃ u, w.cell? a = some u := by
  unfold World.cells? at h
  split at h
  · have hl : cs.length = n := by simpa using mapM_some_length h
    have h3 := mapM_some_get h 0 0 (by simp [h0])
    exact ⟨cs[0], h3.trans (List.getElem?_eq_getElem (by omega))⟩
  · cases h
theorem pick_list {α : Type} {R : Nat → α → Prop} {len : Nat} (one : ∀ i, i < len → ∃ y, R i y) : ∃ xs : List α, xs.length = len ∧ ∀ i (hi : i < xs.length), R i xs[i] := by
  induction len with
  | zero => exact ⟨[], rfl, fun i hi => by simp at hi⟩
  | succ m ih =>
    obtain ⟨xs, hx, hh⟩ := ih (fun i hi => one i (by omega))
    obtain ⟨y, hy⟩ := one m (by omega)
    refine ⟨xs ++ [y], by simp [hx], fun i hi => ?_⟩
    by_cases h' : i < xs.length
    · rw [List.getElem_append_left h']; exact hh i h'
    · have : i = xs.length := by simp at hi; omega
      subst this
      rw [List.getElem_append_right (Nat.le_refl _)]
      simp only [Nat.sub_self, List.getElem_cons_zero]
      rw [hx]; exact hy

theorem open_sl_cs {α : Type} {encd : α → List Value} {sz : Nat} {t e : TypeId} {fuel : Nat} {cs : List Value} {x : DataW H × List MemPlace} {Good : α → Prop} (ht : P.underlying t = some (.slice e)) (hc : P.cellsOf e = sz) (h0 : 0 < sz) (hsz : ∀ x, (encd x).length = sz)
    (elem : ∀ n cs x, DataW.trod enc P w base spare held n e cs = some x → ∃ a : α, cs = encd a ∧ Good a)
    (h : DataW.trod enc P w base spare held fuel t cs = some x) : ∃ v xs, cs = [v] ∧ Sl encd w v xs ∧ ∀ a ∈ xs, Good a := by
  rcases DataW.trod_slice ht h with ⟨rfl, _⟩ | ⟨a, len, cap, elems, rest, n, _, rfl, _, hb, hl, hm, hlen, hel, _⟩
  · exact ⟨_, [], rfl, Sl.nil w, by simp⟩
  · rw [hc] at hel
    have one : ∀ i, i < len → ∃ y : α, Good y ∧ w.cells? base (a.add (i * sz)) sz = some (encd y) := by
      intro i hi
      have h1 := hel i hi
      have h2 : elems[i]? = some elems[i] := List.getElem?_eq_getElem (by omega)
      rw [h2] at h1
      obtain ⟨cs', h3, h4⟩ := Option.bind_eq_some_iff.1 h1
      obtain ⟨y, rfl, hg⟩ := elem _ _ _ h4
      exact ⟨y, hg, h3⟩
    obtain ⟨xs, hx, hh⟩ := pick_list (R := fun i y => Good y ∧ w.cells? base (a.add (i * sz)) sz = some (encd y)) one
    refine ⟨_, xs, rfl, ⟨some a, cap, by rw [hx], ⟨by omega, by unfold maxLen at hm; omega⟩, (fun e => by cases e), fun hne => ?_⟩, fun y hy => ?_⟩
    · have hpos : 0 < xs.length := List.length_pos_iff.2 hne
      have h1 := (hh 0 hpos).2
      have hsp : a.spot = none := by
        rw [Nat.zero_mul] at h1
        have h2 : (a.add 0) = a := rfl
        rw [h2] at h1
        obtain ⟨u, hu⟩ := cells_first h1 h0
        exact World.cell?_spot hu
      obtain ⟨b, off, sp⟩ := a
      simp only at hsp
      subst hsp
      refine ⟨b, off, rfl, fun j u hu => ?_⟩
      have hj : j < xs.length * sz := by rw [← flat_length hsz]; exact (List.getElem?_eq_some_iff.1 hu).1
      have hk : j / sz < xs.length := Nat.div_lt_of_lt_mul (by rw [Nat.mul_comm]; exact hj)
      have hjj : j = j / sz * sz + j % sz := by rw [Nat.mul_comm]; exact (Nat.div_add_mod j sz).symm
      rw [hjj, flat_get hsz xs _ _ (Nat.mod_lt _ h0) hk] at hu
      have h2 := (hh _ hk).2
      rw [Addr.add_lit] at h2
      have h3 := (cells_get h2 rfl).2 _ _ hu
      rw [hjj, ← Nat.add_assoc]
      exact h3
    · obtain ⟨i, hi, rfl⟩ := List.getElem_of_mem hy
      exact (hh i hi).1
theorem open_sl {α : Type} {encd : α → List Value} {sz b0 : Nat} {t e : TypeId} {r : Reach} {v : Value} {d : DataW H} {ps : List MemPlace} {Good : α → Prop} (ht : P.underlying t = some (.slice e)) (hc : P.cellsOf e = sz) (h0 : 0 < sz) (hsz : ∀ x, (encd x).length = sz)
    (elem : ∀ n cs x, DataW.trod enc P w base spare held n e cs = some x → ∃ a : α, cs = encd a ∧ Good a)
    (hval : Value.okWide P w r b0 t v) (h : DataW.Trod enc P w base spare held t v d ps) : ∃ xs, Sl encd w v xs ∧ ∀ a ∈ xs, Good a := by
  obtain ⟨a, len, cap, rfl⟩ := okWide_slice ht hval
  obtain ⟨fuel, hf⟩ := h
  obtain ⟨v', xs, hv, hs, hg⟩ := open_sl_cs ht hc h0 hsz elem hf
  simp [Value.cells] at hv
  subst hv
  exact ⟨xs, hs, hg⟩
end
end Go.Proofs.YtnnfhcbopchodaaDoor
namespace Go.Proofs.YtnnfhcbopchodaaDoor
open Go.RowKit Go.ChangeShapes Go.WideShapes Go.Joins
set_option linter.unusedVariables false
set_option linter.unusedSimpArgs false
set_option maxRecDepth 100000
theorem Tryd.cellsLb : Tryd.prog.cellsOf 88 = 2 := by kernel_rfl
theorem Tryd.cellsI : Tryd.prog.cellsOf 3 = 1 := by kernel_rfl
theorem Tryd.cellsStr : Tryd.prog.cellsOf 9 = 1 := by kernel_rfl
theorem Tryd.cellsStrs : Tryd.prog.cellsOf 28 = 1 := by kernel_rfl
section
variable {H : Type} {enc : TypeId × Value → H} {w : World} {base : Nat} {spare : Nat → Bool} {held : Bool}
theorem elem_label (n : Nat) (cs : List Value) (x : DataW H × List MemPlace) (h : DataW.trod enc Tryd.prog w base spare held n 88 cs = some x) : ∃ a : Lb, cs = lenc a ∧ True := by
  obtain ⟨y0, y1, m, hx, hl, h0, h1⟩ := trod_struct2 Tryd.underlying88 h
  rw [Tryd.cellsLb] at hl
  match cs, hl with
  | [c0, c1], _ =>
    obtain ⟨s1, e0, _⟩ := DataW.trod_string Tryd.underlying9 h0
    obtain ⟨s2, e1, _⟩ := DataW.trod_string Tryd.underlying9 h1
    simp [Tryd.cellsStr] at e0 e1
    subst e0 e1
    exact ⟨(s1, s2), rfl, trivial⟩
theorem elem_str (n : Nat) (cs : List Value) (x : DataW H × List MemPlace) (h : DataW.trod enc Tryd.prog w base spare held n 9 cs = some x) : ∃ a : ByteArray, cs = senc1 a ∧ True := by
  obtain ⟨s1, e0, _⟩ := DataW.trod_string Tryd.underlying9 h
  exact ⟨s1, e0, trivial⟩
theorem open_labels {r : Reach} {b0 : Nat} {v : Value} {d : DataW H} {ps : List MemPlace} (hval : Value.okWide Tryd.prog w r b0 39 v) (h : DataW.Trod enc Tryd.prog w base spare held 39 v d ps) : ∃ xs, Sl lenc w v xs := by
  obtain ⟨xs, h, _⟩ := open_sl Tryd.underlying39 Tryd.cellsLb (by decide) lenc_len elem_label hval h
  exact ⟨xs, h⟩
theorem open_strs {r : Reach} {b0 : Nat} {v : Value} {d : DataW H} {ps : List MemPlace} (hval : Value.okWide Tryd.prog w r b0 28 v) (h : DataW.Trod enc Tryd.prog w base spare held 28 v d ps) : ∃ xs, Sl senc1 w v xs := by
  obtain ⟨xs, h, _⟩ := open_sl Tryd.underlying28 Tryd.cellsStr (by decide) senc1_len elem_str hval h
  exact ⟨xs, h⟩
end
end Go.Proofs.YtnnfhcbopchodaaDoor
namespace Go.Proofs.YtnnfhcbopchodaaDoor
open Go Go.RowKit
set_option linter.unusedVariables false
set_option linter.unusedSimpArgs false
set_option maxRecDepth 100000
theorem few_short {l : List Lb} (h : fewL l = true) : ShortL l := by
  refine ⟨few_len h, fun x hx => ?_⟩
  unfold fewL at h
  rw [Bool.and_eq_true, List.all_eq_true] at h
  have := h.2 x hx
  simp only [Bool.and_eq_true, decide_eq_true_eq] at this
  exact this.2
theorem cmp_self (l : List Lb) : (cmpL l l == 0) = true := by
  rw [(cmpL_eq _ _).2 rfl]
  rfl
set_option maxHeartbeats 8000000 in
theorem globLabels_walk (s : ByteArray) (v : Value) (l : List Lb) (i : Int) (w : World) (hk : KW w) (hsz1 : s.size ≤ 9223372036854775807) (h : Sl lenc w v l) (hi : (Lit.int .i64 i).wf = true) :
    Calls Tryd.prog 5 #[.string s, v, .int .i64 i] w fun e w' => e = .returned (.bool true) ∧ Below w.heap.size w w' := by
  have hi2 : -9223372036854775808 ≤ i ∧ i ≤ 9223372036854775807 := by
    simp [Lit.wf, IntKind.min, IntKind.max, IntKind.signed, IntKind.bits] at hi
    omega
  have HKW := Lib.hid hk
  have HSL := Lib.hid h
  have HI := Lib.hid hi2
  have HZ := Lib.hid hsz1
  clear hk h hi hi2 hsz1
  go_enter Tryd.func5, Tryd.ntmps5
  go_wp2_with fail
  refine (gknown_any _ HKW.out).mono ?_
  rintro e w1 ⟨rfl, hb1⟩
  have HB1 := Lib.hid hb1
  have HS1 := Lib.hid (HSL.out.below hb1 (Nat.le_refl _))
  clear hb1
  by_cases hs : s.size ≤ 16384
  rotate_left
  · go_wp2_with fail
    go_ret
    exact ⟨rfl, HB1.out⟩
  have HFW := Lib.hid (few_any v l w1 HS1.out)
  go_wp2_with fail
  refine HFW.out.mono ?_
  rintro e w1' ⟨rfl, rfl⟩
  by_cases hf : ¬ fewL l = true
  · rw [Bool.eq_false_iff.2 hf]
    go_wp2_with fail
    go_ret
    exact ⟨rfl, HB1.out⟩
  rw [show fewL l = true from Decidable.not_not.1 hf]
  have HSH := Lib.hid (few_short (Decidable.not_not.1 hf))
  clear hf
  have HRG := Lib.hid (rright_any v l w1' HS1.out)
  obtain ⟨rg, hrg⟩ : ∃ rg, rg = rightL l := ⟨_, rfl⟩
  rw [← hrg] at HRG
  clear hrg
  go_wp2_with fail
  refine HRG.out.mono ?_
  rintro e w2 ⟨rfl, n2, rfl⟩
  have HB2 := Lib.hid (below_drewN HB1.out n2)
  have HS2 := Lib.hid (HS1.out.drewN n2)
  generalize w1'.drewN n2 = w2 at HB2 HS2 ⊢
  cases rg with
  | false =>
    go_wp2_with fail
    go_ret
    exact ⟨rfl, HB2.out⟩
  | true =>
  have HL1 := Lib.hid (glabels_any s w2 (HKW.out.below HB2.out) (by omega))
  go_wp2_with fail
  refine HL1.out.mono ?_
  rintro e w3 ⟨hb3, hr3⟩
  have HB3 := Lib.hid (HB2.out.trans (hb3.mono HB2.out.size))
  have HS3 := Lib.hid (HS2.out.below hb3 (Nat.le_refl _))
  clear hb3
  have hq : ∃ (v3 : Value) (x : Int) (L : List Lb), e = .returned (.tuple #[v3, .int .i64 x]) ∧ Sl lenc w3 v3 L ∧ (∀ w e w', LabQ s.data.toList w e w' → Below w.heap.size w w' ∧ ∃ v4, e = .returned (.tuple #[v4, .int .i64 x]) ∧ Sl lenc w' v4 L) ∧ (x = 2 ∨ (x = 0 ∧ okG s.data.toList = true ∧ L = labS s.data.toList)) := by
    rcases hr3 with ⟨hok, v3, rfl, hs3⟩ | ⟨hno, rfl⟩
    · refine ⟨v3, 0, _, rfl, hs3, ?_, .inr ⟨rfl, hok, rfl⟩⟩
      rintro w e w' ⟨hb, ⟨-, v4, rfl, hs4⟩ | ⟨hno, -⟩⟩
      · exact ⟨hb, v4, rfl, hs4⟩
      · rw [hok] at hno; cases hno
    · refine ⟨_, 2, [], rfl, Sl.nil _, ?_, .inl rfl⟩
      rintro w e w' ⟨hb, ⟨hok, -⟩ | ⟨-, rfl⟩⟩
      · rw [hok] at hno; cases hno
      · exact ⟨hb, _, rfl, Sl.nil _⟩
  obtain ⟨v3, x, L, rfl, hs3, hq, hx⟩ := hq
  have HA3 := Lib.hid hs3
  have HQ := Lib.hid hq
  have HX := Lib.hid hx
  clear hr3 hs3 hq hx
  have HL2 := Lib.hid (rlabels_any s w3 (by omega))
  go_wp2_with fail
  refine HL2.out.mono ?_
  intro e w4 hr4
  obtain ⟨hb4, v4, rfl, hs4⟩ := HQ.out _ _ _ hr4
  have HB4 := Lib.hid (HB3.out.trans (hb4.mono HB3.out.size))
  have HS4 := Lib.hid (HS3.out.below hb4 (Nat.le_refl _))
  have HA4 := Lib.hid (HA3.out.below hb4 (Nat.le_refl _))
  have HC4 := Lib.hid hs4
  clear hr4 hb4 hs4
  have hpq : ∃ (pt : ByteArray) (pc : Int), ∀ w e w', PathQ l w e w' → Below w.heap.size w w' ∧ e = .returned (.tuple #[.string pt, .int .i64 pc]) := ⟨_, _, fun _ _ _ h => h⟩
  obtain ⟨pt, pc, hpq⟩ := hpq
  have HPQ := Lib.hid hpq
  clear hpq
  have HP1 := Lib.hid (gpath_any v l w4 HS4.out (HKW.out.below HB4.out) HSH.out)
  go_wp2_with fail
  refine HP1.out.mono ?_
  intro e w5 hr5
  obtain ⟨hb5, rfl⟩ := HPQ.out _ _ _ hr5
  have HB5 := Lib.hid (HB4.out.trans (hb5.mono HB4.out.size))
  have HS5 := Lib.hid (HS4.out.below hb5 (Nat.le_refl _))
  have HA5 := Lib.hid (HA4.out.below hb5 (Nat.le_refl _))
  have HC5 := Lib.hid (HC4.out.below hb5 (Nat.le_refl _))
  clear hr5 hb5
  have HP2 := Lib.hid (rpath_any v l w5 HS5.out HSH.out)
  go_wp2_with fail
  refine HP2.out.mono ?_
  intro e w6 hr6
  obtain ⟨hb6, rfl⟩ := HPQ.out _ _ _ hr6
  have HB6 := Lib.hid (HB5.out.trans (hb6.mono HB5.out.size))
  have HA6 := Lib.hid (HA5.out.below hb6 (Nat.le_refl _))
  have HC6 := Lib.hid (HC5.out.below hb6 (Nat.le_refl _))
  clear hr6 hb6 HP1 HP2 HPQ HL1 HL2 HQ HS1 HS2 HS3 HS4 HS5 HSH HSL HA3 HA4 HA5 HC4 HC5 HRG HFW
  have HSM := Lib.hid (rsame_any v3 v4 L L w6 HA6.out HC6.out)
  rw [cmp_self] at HSM
  go_wp2_with fail
  refine HSM.out.mono ?_
  rintro e w7 ⟨rfl, n7, rfl⟩
  have HB7 := Lib.hid (below_drewN HB6.out n7)
  have HA7 := Lib.hid (HA6.out.drewN n7)
  generalize w6.drewN n7 = w7 at HB7 HA7 ⊢
  clear HSM HA6 HC6
  obtain ⟨nd, hnd⟩ : ∃ nd, nd = ndS i := ⟨_, rfl⟩
  have HN1 := Lib.hid (gnode_any i w7 ((HKW.out.below HB7.out).1) HI.out.1 HI.out.2)
  have HN2 := Lib.hid (fun w => rnode_any i w HI.out.1 HI.out.2)
  rw [← hnd] at HN1
  simp only [← hnd] at HN2
  clear hnd
  go_wp2_with fail
  refine HN1.out.mono ?_
  rintro e w8 ⟨rfl, hb8⟩
  have HB8 := Lib.hid (HB7.out.trans (hb8.mono HB7.out.size))
  have HA8 := Lib.hid (HA7.out.below hb8 (Nat.le_refl _))
  clear hb8 HN1 HA7
  go_wp2_with fail
  refine (HN2.out _).mono ?_
  rintro e w9 ⟨rfl, hb9⟩
  have HB9 := Lib.hid (HB8.out.trans (hb9.mono HB8.out.size))
  have HA9 := Lib.hid (HA8.out.below hb9 (Nat.le_refl _))
  clear hb9 HN2 HA8
  rcases HX.out with hx | ⟨hx, hok, hL⟩
  · subst hx
    go_wp2_with fail
    go_ret
    exact ⟨rfl, HB9.out⟩
  · subst hx hL
    have HP3 := Lib.hid (gpath_any v3 _ w9 HA9.out (HKW.out.below HB9.out) (labS_short hok))
    unfold PathQ at HP3
    rw [if_pos (pathOk_back hok), if_pos (pathOk_back hok), path_back hok, show bsl s.data.toList = s from rfl] at HP3
    clear hok HX HA9
    go_wp2_with fail
    refine HP3.out.mono ?_
    rintro e w10 ⟨hb10, rfl⟩
    have HB10 := Lib.hid (HB9.out.trans (hb10.mono HB9.out.size))
    clear hb10 HP3
    go_wp2_with fail
    go_ret
    exact ⟨by simp, HB10.out⟩
end Go.Proofs.YtnnfhcbopchodaaDoor
