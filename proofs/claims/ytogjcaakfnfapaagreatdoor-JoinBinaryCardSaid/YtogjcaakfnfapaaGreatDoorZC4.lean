/- The guards of chapter 3's laws: Few, names. Points: how a vector reads. Few points. Whether points are a vector: the document's walk. Whether two vectors are the same: the document's walk. Plain law: points in order. The library's stable sort at elements of k cells: swapRange, rotate. The library's stable sort at elements of k cells: symMerge where one part is a single element. (Several texts in one file, by merge.py.) -/
import Derived.Test.YtogjcaakfnfapaaGreatDoorZC3
import Derived.Test.YtogjcaakfnfapaaGreatDoorZC1
import Derived.Deep.LoopGhost
import Derived.BigRegion
import Derived.Deep.DeepCutAuto
import Derived.Shelf.SlSortCmp.QuietGrown
namespace Go.Proofs.YtogjcaakfnfapaaGreatDoor
open Go.RowKit
set_option linter.unusedVariables false
set_option linter.unusedSimpArgs false
set_option maxRecDepth 100000
def fewL (cs : List Lb) : Bool := decide (cs.length ≤ 80) && cs.all fun x => decide (x.1.size ≤ 400) && decide (x.2.size ≤ 2000)
theorem few_no {cs : List Lb} {k : Nat} (h : k < cs.length) (h2 : 400 < (lx cs k).1.size ∨ 2000 < (lx cs k).2.size) : fewL cs = false := by
  have : (cs.all fun x => decide (x.1.size ≤ 400) && decide (x.2.size ≤ 2000)) = false := by
    rw [List.all_eq_false]
    refine ⟨cs[k], List.getElem_mem h, ?_⟩
    rw [lx_at h] at h2
    simp
    omega
  rw [fewL, this, Bool.and_false]
theorem few_len {cs : List Lb} (h : fewL cs = true) : cs.length ≤ 80 := by
  unfold fewL at h
  rw [Bool.and_eq_true] at h
  exact of_decide_eq_true h.1
theorem few_yes {cs : List Lb} (h : cs.length ≤ 80) (h2 : ∀ j, j < cs.length → (lx cs j).1.size ≤ 400 ∧ (lx cs j).2.size ≤ 2000) : fewL cs = true := by
  unfold fewL
  rw [Bool.and_eq_true]
  refine ⟨decide_eq_true h, ?_⟩
  rw [List.all_eq_true]
  intro x hx
  obtain ⟨j, hj, rfl⟩ := List.getElem_of_mem hx
  have := h2 j hj
  rw [lx_at hj] at this
  simp [this]
set_option maxHeartbeats 2000000 in
theorem few_any (v : Value) (cs : List Lb) (w : World) (h : Sl lenc w v cs) :
    Calls Tryz.prog 51 #[v] w fun e w' => e = .returned (.bool (fewL cs)) ∧ w' = w := by
  obtain ⟨a, cap, rfl, hlen, -, hc⟩ := h.split lenc_len
  have HC := Lib.hid hc
  clear hc h
  by_cases hb : 80 < cs.length
  · have hbz : (80 : Int) < (cs.length : Int) := by omega
    have HF := Lib.hid (show fewL cs = false by unfold fewL; rw [show decide (cs.length ≤ 80) = false from decide_eq_false (by omega)]; rfl)
    go_enter Tryz.func51, Tryz.ntmps51
    go_wp2_with fail
    go_ret
    exact ⟨by rw [HF.out] <;> rfl, rfl⟩
  · have hbz : ¬ (80 : Int) < (cs.length : Int) := by omega
    go_enter Tryz.func51, Tryz.ntmps51
    go_wp2_with fail
    go_loopw [3] (fun i wr => ∃ (k : Nat), k ≤ cs.length ∧ i = .int .i64 k ∧ Hid (∀ j, j < k → (lx cs j).1.size ≤ 400 ∧ (lx cs j).2.size ≤ 2000) ∧ wr = w) (fun i _ => cs.length - (intOf i).toNat)
    case atStart => exact ⟨0, Nat.zero_le _, rfl, fun j hj => absurd hj (Nat.not_lt_zero _), rfl⟩
    case round =>
      obtain ⟨k, hk, rfl, HV, rfl⟩ := hrel
      by_cases hlt : k < cs.length
      · have hltz : (k : Int) < (cs.length : Int) := by omega
        have h00 : (0 : Int) ≤ (k : Int) := by omega
        obtain ⟨b, off, rfl, k0, k1⟩ := lab_cells HC.out (Below.refl _ _) (Nat.le_refl _) hlt
        by_cases h1 : 400 < (lx cs k).1.size
        · have HF := Lib.hid (few_no hlt (.inl h1))
          have h1z : (400 : Int) < ((lx cs k).1.size : Int) := by omega
          have h1b : decide ((400 : Int) < ((lx cs k).1.size : Int)) = true := decide_eq_true h1z
          go_wp2_with fail
          go_ret
          exact ⟨by rw [HF.out] <;> rfl, rfl⟩
        · have h1z : ¬ (400 : Int) < ((lx cs k).1.size : Int) := by omega
          have h1b : decide ((400 : Int) < ((lx cs k).1.size : Int)) = false := decide_eq_false h1z
          by_cases h2 : 2000 < (lx cs k).2.size
          · have HF := Lib.hid (few_no hlt (.inr h2))
            have h2z : (2000 : Int) < ((lx cs k).2.size : Int) := by omega
            have h2b : decide ((2000 : Int) < ((lx cs k).2.size : Int)) = true := decide_eq_true h2z
            go_wp2_with fail
            go_ret
            exact ⟨by rw [HF.out] <;> rfl, rfl⟩
          · have h2z : ¬ (2000 : Int) < ((lx cs k).2.size : Int) := by omega
            have h2b : decide ((2000 : Int) < ((lx cs k).2.size : Int)) = false := decide_eq_false h2z
            go_wp2_with fail
            go_roundw
            case rel => exact ⟨k + 1, by omega, by go_num, (fun j hj => by
              by_cases hjk : j = k
              · subst hjk; omega
              · exact HV.out j (by omega)), by trivial⟩
            case measure => simp [intOf]; omega
      · have hltz : ¬ (k : Int) < (cs.length : Int) := by omega
        have HF := Lib.hid (few_yes (by omega) (fun j hj => HV.out j (by omega)))
        go_wp2_with fail
        go_ret
        exact ⟨by rw [HF.out] <;> rfl, rfl⟩
end Go.Proofs.YtogjcaakfnfapaaGreatDoor
namespace Go.Proofs.YtogjcaakfnfapaaGreatDoor
open Go Go.RowKit
set_option linter.unusedVariables false
set_option linter.unusedSimpArgs false
set_option maxRecDepth 100000
/-- A point as it lies: its labels' slice, its value's bits. -/
abbrev RPt := Value × Nat
def penc (p : RPt) : List Value := [p.1, .float .f64 p.2]
theorem penc_len (p : RPt) : (penc p).length = 2 := rfl
/-- A point as it reads. -/
abbrev Pt := List Lb × Nat
/-- A vector: raw points, and what each reads as. -/
def VS (w : World) (v : Value) (ps : List Pt) : Prop := ∃ raw : List RPt, Sl penc w v raw ∧ raw.length = ps.length ∧ ∀ k (h : k < raw.length) (h2 : k < ps.length), Sl lenc w raw[k].1 ps[k].1 ∧ raw[k].2 = ps[k].2
theorem VS.below {w w' : World} {B : Nat} {v : Value} {ps : List Pt} (h : VS w v ps) (hb : Below B w w') (hB : w.heap.size ≤ B) : VS w' v ps := by
  obtain ⟨raw, h1, h2, h3⟩ := h
  exact ⟨raw, h1.below hb hB, h2, fun k a b => ⟨(h3 k a b).1.below hb hB, (h3 k a b).2⟩⟩
theorem VS.nil (w : World) : VS w (.slice none 0 0) [] := ⟨[], Sl.nil _, rfl, fun k h => absurd h (Nat.not_lt_zero _)⟩
theorem VS.split {w : World} {v : Value} {ps : List Pt} (h : VS w v ps) :
    ∃ a cap, v = .slice a ps.length cap ∧ (ps.length ≤ cap ∧ cap ≤ 9223372036854775807) ∧
      ∀ k (hk : k < ps.length), ∃ b off lv, a = some ⟨b, off, none⟩ ∧ w.cell? ⟨b, off + k * 2, none⟩ = some lv ∧ w.cell? ⟨b, off + k * 2 + 1, none⟩ = some (.float .f64 ps[k].2) ∧ Sl lenc w lv ps[k].1 := by
  obtain ⟨raw, h1, h2, h3⟩ := h
  obtain ⟨a, cap, rfl, hm, -, hc⟩ := h1.split penc_len
  rw [h2] at hm ⊢
  refine ⟨a, cap, rfl, hm, fun k hk => ?_⟩
  obtain ⟨b, off, rfl, hd⟩ := hc k (by omega)
  obtain ⟨h4, h5⟩ := h3 k (by omega) hk
  exact ⟨b, off, _, rfl, hd 0 _ rfl, by rw [← h5]; exact hd 1 _ rfl, h4⟩
end Go.Proofs.YtogjcaakfnfapaaGreatDoor
namespace Go.Proofs.YtogjcaakfnfapaaGreatDoor
open Go Go.RowKit
set_option linter.unusedVariables false
set_option linter.unusedSimpArgs false
set_option maxRecDepth 100000
def vfewL (ps : List Pt) : Bool := decide (ps.length ≤ 60) && ps.all fun p => fewL p.1
theorem vfew_no {ps : List Pt} {k : Nat} (h : k < ps.length) (h2 : fewL ps[k].1 = false) : vfewL ps = false := by
  have : (ps.all fun p => fewL p.1) = false := by
    rw [List.all_eq_false]
    exact ⟨_, List.getElem_mem h, by simpa using h2⟩
  unfold vfewL
  rw [this]
  simp
set_option maxHeartbeats 2000000 in
theorem vfew_any (v : Value) (ps : List Pt) (w : World) (h : VS w v ps) :
    Calls Tryz.prog 19 #[v] w fun e w' => e = .returned (.bool (vfewL ps)) ∧ w' = w := by
  obtain ⟨a, cap, rfl, hlen, hc⟩ := h.split
  have HC := Lib.hid hc
  clear hc h
  by_cases hb : 60 < ps.length
  · have hbz : (60 : Int) < (ps.length : Int) := by omega
    have HF := Lib.hid (show vfewL ps = false by unfold vfewL; rw [show decide (ps.length ≤ 60) = false from decide_eq_false (by omega)]; rfl)
    go_enter Tryz.func19, Tryz.ntmps19
    go_wp2_with fail
    go_ret
    exact ⟨by rw [HF.out] <;> rfl, rfl⟩
  · have hbz : ¬ (60 : Int) < (ps.length : Int) := by omega
    go_enter Tryz.func19, Tryz.ntmps19
    go_wp2_with fail
    go_loopw [3] (fun i wr => ∃ (k : Nat), k ≤ ps.length ∧ i = .int .i64 k ∧ Hid (∀ j (hj : j < ps.length), j < k → fewL ps[j].1 = true) ∧ wr = w) (fun i _ => ps.length - (intOf i).toNat)
    case atStart => exact ⟨0, Nat.zero_le _, rfl, fun j _ hj => absurd hj (Nat.not_lt_zero _), rfl⟩
    case round =>
      obtain ⟨k, hk, rfl, HV, rfl⟩ := hrel
      by_cases hlt : k < ps.length
      · have hltz : (k : Int) < (ps.length : Int) := by omega
        have h00 : (0 : Int) ≤ (k : Int) := by omega
        obtain ⟨b, off, lv, rfl, k0, k1, hsl⟩ := HC.out k hlt
        have HFW := Lib.hid (few_any lv ps[k].1 _ hsl)
        clear hsl
        go_wp2_with fail
        refine HFW.out.mono ?_
        by_cases hf : fewL ps[k].1 = true
        · rw [hf]
          rintro e w1 ⟨rfl, rfl⟩
          have HFF := Lib.hid hf
          clear hf HFW
          go_wp2_with fail
          go_roundw
          case rel => exact ⟨k + 1, by omega, by go_num, (fun j hj hjk => by
            by_cases hjk2 : j = k
            · subst hjk2; exact HFF.out
            · exact HV.out j hj (by omega)), by trivial⟩
          case measure => simp [intOf]; omega
        · have hf2 : fewL ps[k].1 = false := by simpa using hf
          have HF := Lib.hid (vfew_no hlt hf2)
          rw [hf2]
          rintro e w1 ⟨rfl, rfl⟩
          clear hf hf2 HFW
          go_wp2_with fail
          go_ret
          exact ⟨by rw [HF.out] <;> rfl, rfl⟩
      · have hltz : ¬ (k : Int) < (ps.length : Int) := by omega
        have HF := Lib.hid (show vfewL ps = true by
          unfold vfewL
          rw [Bool.and_eq_true, List.all_eq_true]
          refine ⟨decide_eq_true (by omega), fun p hp => ?_⟩
          obtain ⟨j, hj, rfl⟩ := List.mem_iff_getElem.1 hp
          exact HV.out j hj (by omega))
        go_wp2_with fail
        go_ret
        exact ⟨by rw [HF.out] <;> rfl, rfl⟩
end Go.Proofs.YtogjcaakfnfapaaGreatDoor
namespace Go.Proofs.YtogjcaakfnfapaaGreatDoor
open Go Go.RowKit
set_option linter.unusedVariables false
set_option linter.unusedSimpArgs false
set_option maxRecDepth 100000
def VRight (ps : List Pt) : Prop := ∀ k (h : k < ps.length), rightL ps[k].1 = true ∧ (0 < k → cmpL (ps[k - 1]'(by omega)).1 ps[k].1 < 0)
noncomputable def vrightL (ps : List Pt) : Bool := @decide (VRight ps) (Classical.propDecidable _)
theorem vright_no {ps : List Pt} {k : Nat} (h : k < ps.length) (h2 : rightL ps[k].1 = false ∨ (0 < k ∧ ¬ cmpL (ps[k - 1]'(by omega)).1 ps[k].1 < 0)) : vrightL ps = false := by
  unfold vrightL
  refine @decide_eq_false _ (Classical.propDecidable _) fun hv => ?_
  obtain ⟨a, b⟩ := hv k h
  rcases h2 with h2 | ⟨h2, h3⟩
  · rw [a] at h2; cases h2
  · exact h3 (b h2)
theorem vright_yes {ps : List Pt} (h : VRight ps) : vrightL ps = true := @decide_eq_true _ (Classical.propDecidable _) h
set_option maxHeartbeats 4000000 in
theorem rvright_any (v : Value) (ps : List Pt) (w : World) (h : VS w v ps) :
    Calls Tryz.prog 20 #[v] w fun e w' => e = .returned (.bool (vrightL ps)) ∧ ∃ n, w' = w.drewN n := by
  obtain ⟨a, cap, rfl, hlen, hc⟩ := h.split
  have HC := Lib.hid hc
  clear hc h
  go_enter Tryz.func20, Tryz.ntmps20
  go_wp2_with fail
  go_loopw [3] (fun i wr => ∃ (k n : Nat), k ≤ ps.length ∧ i = .int .i64 k ∧ Hid (∀ j (hj : j < ps.length), j < k → rightL ps[j].1 = true ∧ (0 < j → cmpL (ps[j - 1]'(by omega)).1 ps[j].1 < 0)) ∧ wr = w.drewN n) (fun i _ => ps.length - (intOf i).toNat)
  case atStart => exact ⟨0, 0, Nat.zero_le _, rfl, fun j _ hj => absurd hj (Nat.not_lt_zero _), rfl⟩
  case round =>
    obtain ⟨k, n, hk, rfl, HV, rfl⟩ := hrel
    have h00 : (0 : Int) ≤ (k : Int) := by omega
    by_cases hlt : k < ps.length
    · have hltz : (k : Int) < (ps.length : Int) := by omega
      obtain ⟨b, off, lv, rfl, k0, k1, hsl⟩ := HC.out k hlt
      have HFR := Lib.hid (fun m => rright_any lv ps[k].1 (w.drewN m) (hsl.below (below_drewN (Below.refl _ _) m) (Nat.le_refl _)))
      obtain ⟨rk, hrk⟩ : ∃ r, r = rightL ps[k].1 := ⟨_, rfl⟩
      rw [← hrk] at HFR
      have HSL := Lib.hid hsl
      clear hsl
      cases rk with
      | false =>
        have HF := Lib.hid (vright_no hlt (.inl hrk.symm))
        clear hrk
        go_wp2_with fail
        go_quiet ((go_at_call 52; refine qd (HFR.out _)))
        go_wp2_with fail
        go_ret
        exact ⟨by rw [HF.out] <;> rfl, _, World.drewN_drewN _ _ _⟩
      | true =>
        have HRK := Lib.hid hrk.symm
        clear hrk
        by_cases hk0 : k = 0
        · have HK0 := Lib.hid hk0
          have hkz : ¬ (0 : Int) < (k : Int) := by omega
          clear hk0
          go_wp2_with fail
          have hk0 := HK0.out
          have hkb : decide ((0 : Int) < (k : Int)) = false := decide_eq_false (by omega)
          have hkn : decide (0 < k) = false := decide_eq_false (by omega)
          clear hkz hk0
          go_quiet ((go_at_call 52; refine qd (HFR.out _)))
          go_wp2_with fail
          go_roundw
          case rel => exact ⟨k + 1, _, by omega, by go_num, (fun j hj hj1 => by
            by_cases hjk : j = k
            · subst hjk; exact ⟨HRK.out, fun h => absurd h (by have := HK0.out; omega)⟩
            · exact HV.out j hj (by omega)), rfl⟩
          case measure => simp [intOf]; omega
        · have hkz : (0 : Int) < (k : Int) := by omega
          have hkb : decide ((0 : Int) < (k : Int)) = true := decide_eq_true hkz
          have hkn : decide (0 < k) = true := decide_eq_true (by omega)
          obtain ⟨m, hmk⟩ : ∃ m, k = m + 1 := ⟨k - 1, by omega⟩
          have hm1 : m < ps.length := by omega
          obtain ⟨b', off', lv', hbb, k0', k1', hsl'⟩ := HC.out m hm1
          injection hbb with hbb
          injection hbb with hbb1 hbb2
          subst hbb1 hbb2
          obtain ⟨cc, hcc⟩ : ∃ c, c = cmpL ps[m].1 ps[k].1 := ⟨_, rfl⟩
          have HCP := Lib.hid (fun q => rcompare_any lv' lv ps[m].1 ps[k].1 (w.drewN q) (hsl'.below (below_drewN (Below.refl _ _) q) (Nat.le_refl _)) (HSL.out.below (below_drewN (Below.refl _ _) q) (Nat.le_refl _)))
          rw [← hcc] at HCP
          have hmz0 : (0 : Int) ≤ (m : Int) := by omega
          have hmz : (m : Int) < (ps.length : Int) := by omega
          have hw : IntKind.i64.wrap ((k : Int) - 1) = (m : Int) := by rw [IntKind.wrap_i64] <;> omega
          have HCC := Lib.hid hcc
          have HMK := Lib.hid hmk
          clear hcc hmk hk0 hsl'
          by_cases hneg : cc < 0
          · have HN := Lib.hid hneg
            go_wp2_with fail
            have hcb : decide ((0 : Int) ≤ cc) = false := decide_eq_false (by have := HN.out; omega)
            clear hneg
            go_quiet ((first | (go_at_call 52; refine qd (HFR.out _)) | (go_at_call 53; refine qd (HCP.out _))))
            go_wp2_with fail
            go_roundw
            case rel => exact ⟨k + 1, _, by omega, by go_num, (fun j hj hj1 => by
              by_cases hjk : j = k
              · subst hjk
                refine ⟨HRK.out, fun _ => ?_⟩
                have h1 := HN.out
                rw [HCC.out] at h1
                have h2 := HMK.out
                subst h2
                exact h1
              · exact HV.out j hj (by omega)), rfl⟩
            case measure => simp [intOf]; omega
          · have HF := Lib.hid (show vrightL ps = false from vright_no hlt (.inr ⟨by omega, by
              rw [HCC.out] at hneg
              have h2 := HMK.out
              subst h2
              exact hneg⟩))
            go_wp2_with fail
            have hcb : decide ((0 : Int) ≤ cc) = true := decide_eq_true (by omega)
            clear hneg
            go_quiet ((first | (go_at_call 52; refine qd (HFR.out _)) | (go_at_call 53; refine qd (HCP.out _))))
            go_wp2_with fail
            go_ret
            exact ⟨by rw [HF.out] <;> rfl, _, World.drewN_drewN _ _ _⟩
    · have hltz : ¬ (k : Int) < (ps.length : Int) := by omega
      have HF := Lib.hid (show vrightL ps = true from vright_yes fun j hj => HV.out j hj (by omega))
      go_wp2_with fail
      go_ret
      exact ⟨by rw [HF.out] <;> rfl, n, rfl⟩
end Go.Proofs.YtogjcaakfnfapaaGreatDoor
namespace Go.Proofs.YtogjcaakfnfapaaGreatDoor
open Go Go.RowKit
set_option linter.unusedVariables false
set_option linter.unusedSimpArgs false
set_option maxRecDepth 100000
def VSame (ps qs : List Pt) : Prop := ps.length = qs.length ∧ ∀ k (h : k < ps.length) (h2 : k < qs.length), cmpL ps[k].1 qs[k].1 = 0 ∧ fsame ps[k].2 qs[k].2 = true
noncomputable def vsameL (ps qs : List Pt) : Bool := @decide (VSame ps qs) (Classical.propDecidable _)
theorem vsame_no {ps qs : List Pt} (h : ¬ VSame ps qs) : vsameL ps qs = false := @decide_eq_false _ (Classical.propDecidable _) h
theorem vsame_yes {ps qs : List Pt} (h : VSame ps qs) : vsameL ps qs = true := @decide_eq_true _ (Classical.propDecidable _) h
set_option maxHeartbeats 4000000 in
theorem rvsame_any (v u : Value) (ps qs : List Pt) (w : World) (h : VS w v ps) (h' : VS w u qs) :
    Calls Tryz.prog 11 #[v, u] w fun e w' => e = .returned (.bool (vsameL ps qs)) ∧ ∃ n, w' = w.drewN n := by
  obtain ⟨a, cap, rfl, hlen, hc⟩ := h.split
  obtain ⟨a2, cap2, rfl, hlen2, hc2⟩ := h'.split
  have HC := Lib.hid hc
  have HC2 := Lib.hid hc2
  clear hc hc2 h h'
  by_cases hl : ps.length = qs.length
  · have HL := Lib.hid hl
    obtain ⟨N, hN⟩ : ∃ N, N = ps.length := ⟨_, rfl⟩
    have hN2 : N = qs.length := hN.trans hl
    have HN := Lib.hid hN
    have HN2 := Lib.hid hN2
    rw [← hN] at hlen ⊢
    rw [← hN2] at hlen2 ⊢
    clear hl hN hN2
    go_enter Tryz.func11, Tryz.ntmps11
    go_wp2_with fail
    go_loopw [5] (fun i wr => ∃ (k n : Nat), k ≤ N ∧ i = .int .i64 k ∧ Hid (∀ j (hj : j < ps.length) (hj2 : j < qs.length), j < k → cmpL ps[j].1 qs[j].1 = 0 ∧ fsame ps[j].2 qs[j].2 = true) ∧ wr = w.drewN n) (fun i _ => N - (intOf i).toNat)
    case atStart => exact ⟨0, 0, Nat.zero_le _, rfl, fun j _ _ hj => absurd hj (Nat.not_lt_zero _), rfl⟩
    case round =>
      obtain ⟨k, n, hk, rfl, HV, rfl⟩ := hrel
      have h00 : (0 : Int) ≤ (k : Int) := by omega
      by_cases hlt : k < N
      · have hltz : (k : Int) < (N : Int) := by omega
        have hp : k < ps.length := by rw [← HN.out]; exact hlt
        have hq : k < qs.length := by rw [← HN2.out]; exact hlt
        obtain ⟨b, off, lv, rfl, k0, k1, hsl⟩ := HC.out k hp
        obtain ⟨b2, off2, lv2, rfl, k2, k3, hsl2⟩ := HC2.out k hq
        have HFS := Lib.hid (fun m => rsame_any lv lv2 ps[k].1 qs[k].1 (w.drewN m) (hsl.below (below_drewN (Below.refl _ _) m) (Nat.le_refl _)) (hsl2.below (below_drewN (Below.refl _ _) m) (Nat.le_refl _)))
        have HFF := Lib.hid (fun m => rfsame_any ps[k].2 qs[k].2 (w.drewN m))
        clear hsl hsl2
        obtain ⟨c, hc⟩ : ∃ c, c = (cmpL ps[k].1 qs[k].1 == 0) := ⟨_, rfl⟩
        obtain ⟨f, hf⟩ : ∃ f, f = fsame ps[k].2 qs[k].2 := ⟨_, rfl⟩
        rw [← hc] at HFS
        rw [← hf] at HFF
        have HCC := Lib.hid hc
        have HCF := Lib.hid hf
        clear hc hf
        cases c with
        | false =>
          have HF := Lib.hid (vsame_no (ps := ps) (qs := qs) fun h => by
            have h1 := (h.2 k hp hq).1
            have h2 := HCC.out
            rw [h1] at h2
            cases h2)
          go_wp2_with fail
          go_quiet ((first | (go_at_call 28; refine qd (HFS.out _)) | (go_at_call 34; first | refine qs (HFF.out _) | refine quiet_same (HFF.out _) | exact (HFF.out _).mono fun _ _ ⟨he, hw⟩ => ⟨he, by rw [← hw]; exact ⟨_, rfl⟩⟩)))
          go_wp2_with fail
          go_ret
          exact ⟨by rw [HF.out] <;> rfl, _, World.drewN_drewN _ _ _⟩
        | true =>
          cases f with
          | false =>
            have HF := Lib.hid (vsame_no (ps := ps) (qs := qs) fun h => by
              have h1 := (h.2 k hp hq).2
              have h2 := HCF.out
              rw [h1] at h2
              cases h2)
            go_wp2_with fail
            go_quiet ((first | (go_at_call 28; refine qd (HFS.out _)) | (go_at_call 34; first | refine qs (HFF.out _) | refine quiet_same (HFF.out _) | exact (HFF.out _).mono fun _ _ ⟨he, hw⟩ => ⟨he, by rw [← hw]; exact ⟨_, rfl⟩⟩)))
            go_wp2_with fail
            go_ret
            exact ⟨by rw [HF.out] <;> rfl, _, World.drewN_drewN _ _ _⟩
          | true =>
            go_wp2_with fail
            go_quiet ((first | (go_at_call 28; refine qd (HFS.out _)) | (go_at_call 34; first | refine qs (HFF.out _) | refine quiet_same (HFF.out _) | exact (HFF.out _).mono fun _ _ ⟨he, hw⟩ => ⟨he, by rw [← hw]; exact ⟨_, rfl⟩⟩)))
            go_wp2_with fail
            go_roundw
            case rel => exact ⟨k + 1, _, by omega, by go_num, (fun j hj hj2 hj1 => by
              by_cases hjk : j = k
              · subst hjk
                exact ⟨by simpa using HCC.out.symm, HCF.out.symm⟩
              · exact HV.out j hj hj2 (by omega)), rfl⟩
            case measure => simp [intOf]; omega
      · have hltz : ¬ (k : Int) < (N : Int) := by omega
        have HF := Lib.hid (show vsameL ps qs = true from vsame_yes ⟨HL.out, fun j hj hj2 => HV.out j hj hj2 (by have := HN.out; omega)⟩)
        go_wp2_with fail
        go_ret
        exact ⟨by rw [HF.out] <;> rfl, n, rfl⟩
  · have HF := Lib.hid (vsame_no (ps := ps) (qs := qs) fun h => hl h.1)
    have hz : ¬ (ps.length : Int) = (qs.length : Int) := by omega
    have hzb : ((ps.length : Int) == (qs.length : Int)) = false := by simpa using hz
    have hzc : ((ps.length : Int) != (qs.length : Int)) = true := by simpa using hz
    go_enter Tryz.func11, Tryz.ntmps11
    go_wp2_with fail
    go_ret
    exact ⟨by rw [HF.out] <;> rfl, 0, rfl⟩
end Go.Proofs.YtogjcaakfnfapaaGreatDoor
namespace Go.Proofs.YtogjcaakfnfapaaGreatDoor
open Go Go.RowKit
set_option linter.unusedVariables false
set_option linter.unusedSimpArgs false
def canonP (p : Pt) : Pt := (p.1, canon p.2)
/-- In order, each labels' list once. -/
def Strict (q : List Pt) : Prop := q.Pairwise fun a b => cmpL a.1 b.1 < 0
def Weak (q : List Pt) : Prop := q.Pairwise fun a b => cmpL a.1 b.1 ≤ 0
theorem cmpL_refl (x : List Lb) : cmpL x x = 0 := (cmpL_eq x x).2 rfl
theorem strict_nodup {q : List Pt} (h : Strict q) : (q.map (·.1)).Nodup := by
  rw [List.Nodup, List.pairwise_map]
  refine h.imp ?_
  intro a b hab he
  rw [he, cmpL_refl] at hab
  exact absurd hab (by omega)
theorem weak_strict {q : List Pt} (h : Weak q) (hn : (q.map (·.1)).Nodup) : Strict q := by
  rw [List.Nodup, List.pairwise_map] at hn
  refine (List.Pairwise.and h hn).imp ?_
  rintro a b ⟨h1, h2⟩
  have : cmpL a.1 b.1 ≠ 0 := fun e => h2 ((cmpL_eq _ _).1 e)
  omega
theorem no_strict {q r : List Pt} (h : ¬ (q.map (·.1)).Nodup) (hp : q.Perm r) : ∀ t : List Pt, t.Perm r → ¬ Strict t := by
  intro t ht hs
  exact h (((hp.trans ht.symm).map _).nodup_iff.2 (strict_nodup hs))
theorem strictp_unique : ∀ {q r : List Pt}, q.Perm r → Strict q → Strict r → q = r := by
  intro q
  induction q with
  | nil => intro r hp _ _; exact hp.nil_eq
  | cons a q ih =>
    intro r hp hq hr
    cases r with
    | nil => exact absurd hp.length_eq (by simp)
    | cons b r =>
      have hab : a = b := by
        have h1 : a ∈ b :: r := hp.subset (by simp)
        have h2 : b ∈ a :: q := hp.symm.subset (by simp)
        rcases List.mem_cons.1 h1 with h1 | h1
        · exact h1
        · rcases List.mem_cons.1 h2 with h2 | h2
          · exact h2.symm
          · have e1 := (List.pairwise_cons.1 hq).1 b h2
            have e2 := (List.pairwise_cons.1 hr).1 a h1
            have e3 := cmpL_neg a.1 b.1
            omega
      subst hab
      rw [ih ((List.perm_cons a).1 hp) (List.pairwise_cons.1 hq).2 (List.pairwise_cons.1 hr).2]
theorem weak_adj {q : List Pt} (h : Weak q) (ha : ∀ k (h0 : k + 1 < q.length), cmpL q[k].1 q[k + 1].1 ≠ 0) : Strict q := by
  unfold Strict
  rw [List.pairwise_iff_getElem]
  intro i j hi hj hij
  have hw := List.pairwise_iff_getElem.1 h
  have h1 := hw i (i + 1) hi (by omega) (by omega)
  have h2 := ha i (by omega)
  rcases Nat.lt_or_ge (i + 1) j with h3 | h3
  · have h4 := hw (i + 1) j (by omega) hj h3
    exact (cmpL_trans _ _ _ h1 h4).2 (.inl (by omega))
  · obtain rfl : j = i + 1 := by omega
    omega
theorem adj_dup {q : List Pt} {k : Nat} (h : k + 1 < q.length) (he : cmpL q[k].1 q[k + 1].1 = 0) : ¬ (q.map (·.1)).Nodup := by
  intro hn
  rw [List.Nodup, List.pairwise_map, List.pairwise_iff_getElem] at hn
  exact hn k (k + 1) (by omega) h (by omega) ((cmpL_eq _ _).1 he)
/-- What a call that puts points in order answers. -/
def NR (ps : List Pt) (e : Ending) (w' : World) : Prop :=
  ((∃ p ∈ ps, rightL p.1 = false) ∧ e = .returned (.tuple #[.slice none 0 0, .int .i64 1])) ∨
  ((∀ p ∈ ps, rightL p.1 = true) ∧ (∀ t : List Pt, t.Perm (ps.map canonP) → ¬ Strict t) ∧ e = .returned (.tuple #[.slice none 0 0, .int .i64 4])) ∨
  ((∀ p ∈ ps, rightL p.1 = true) ∧ ∃ q v', q.Perm (ps.map canonP) ∧ Strict q ∧ e = .returned (.tuple #[v', .int .i64 0]) ∧ VS w' v' q)
end Go.Proofs.YtogjcaakfnfapaaGreatDoor
namespace Go.Proofs.YtogjcaakfnfapaaGreatDoor
open Go.Shelf Go.RowKit Go.Lib Go.Sort
set_option linter.unusedVariables false
set_option linter.unusedSimpArgs false
set_option maxRecDepth 100000

section
variable {α : Type} [Inhabited α] {enc : α → List Value}
set_option maxHeartbeats 4000000 in
theorem swapRange_P (k : Nat) (zE : ∀ w, (Go.sizeOf 50).run Tryz.prog w = .ok k w) (blk off cap a b n : Nat) (d0 d : Array α) (w0 w : World) (fv : Value)
    (R : RowK enc k w0 blk off d0) (hs : d0.size = d.size) (S : SWK enc k w0 blk off d w) (ha : a + n ≤ d.size) (hb : b + n ≤ d.size) (hsz : d.size < 4611686018427387904) :
    Calls Tryz.prog 101 #[.slice (some ⟨blk, off, none⟩) d.size cap, .int .i64 a, .int .i64 b, .int .i64 n, fv] w fun e w' => e = .returned (.tuple #[]) ∧ SWK enc k w0 blk off (swapFrom a b n 0 d) w' := by
  have S0 : Aside (SWK enc k w0 blk off d w) := S
  have mixed : Tryz.prog.follows .mixedOrders = true := by kernel_rfl
  clear S
  go_enter Tryz.func101, Tryz.ntmps101
  go_wp2_with fail
  go_loopg [10] n (fun g1 iv wr => ∃ (i : Nat) (dk : Array α), iv = .int .i64 i ∧ i ≤ n ∧ n - i ≤ g1 ∧ dk.size = d.size ∧ Aside (SWK enc k w0 blk off dk wr) ∧ Hid (swapFrom a b n i dk = swapFrom a b n 0 d))
  case atStart => exact ⟨0, d, rfl, by omega, by omega, rfl, S0, rfl⟩
  case round =>
    clear S0
    obtain ⟨i, dk, rfl, hi, hg, hds, S1, HE⟩ := hrel
    by_cases hlt : i < n
    · have hltz : (i : Int) < (n : Int) := by omega
      have ea : ((a : Int) + (i : Int)).toNat = a + i := by omega
      have pa : (0 : Int) ≤ (a : Int) + (i : Int) := by omega
      have ba : (a : Int) + (i : Int) < (d.size : Int) := by omega
      have ra : IntKind.i64.wrap ((a : Int) + (i : Int)) = (a : Int) + (i : Int) := by rw [IntKind.wrap_i64]; omega
      have ec : ((b : Int) + (i : Int)).toNat = b + i := by omega
      have pc : (0 : Int) ≤ (b : Int) + (i : Int) := by omega
      have bc : (b : Int) + (i : Int) < (d.size : Int) := by omega
      have rc : IntKind.i64.wrap ((b : Int) + (i : Int)) = (b : Int) + (i : Int) := by rw [IntKind.wrap_i64]; omega
      have S2 : Aside (SWK enc k w0 blk off (swp dk (a + i) (b + i)) ((wr.drew.setCells blk (off + (a + i) * k) (enc dk[b + i]!)).setCells blk (off + (b + i) * k) (enc dk[a + i]!))) := S1.out.swapped R (a + i) (b + i) (by omega) (by omega)
      have l1 := S1.out.ld1 R (by omega) Tryz.prog (a + i) (by omega)
      have l2 := S1.out.ld1 R (by omega) Tryz.prog (b + i) (by omega)
      have s1 := S1.out.st1 R (by omega) Tryz.prog (a + i) (by omega) dk[b + i]!
      have s2 := S1.out.st2 R (by omega) Tryz.prog (a + i) (b + i) (by omega) (by omega) dk[b + i]! dk[a + i]!
      have n1 : (enc dk[a + i]!).length = k := R.hk _
      have n2 : (enc dk[b + i]!).length = k := R.hk _
      generalize enc dk[a + i]! = cI at S2 l1 s2 n1
      generalize enc dk[b + i]! = cJ at S2 l2 s1 s2 n2
      clear S1
      go_wp2_with fail
      go_big_region_o
      clear l1 l2 s1 s2
      generalize (wr.drew.setCells blk (off + (a + i) * k) cJ).setCells blk (off + (b + i) * k) cI = w2 at S2 ⊢
      go_wp2_with fail
      go_roundg (n - (i + 1))
      case measure => omega
      case rel =>
        have he := HE.out
        rw [swapFrom, dif_pos hlt] at he
        exact ⟨i + 1, swp dk (a + i) (b + i), by simp, by omega, Nat.le_refl _, by rw [size_swp]; exact hds, S2, he⟩
    · obtain rfl : i = n := by omega
      go_wp2_with fail
      go_end0
      refine ⟨rfl, ?_⟩
      have he := HE.out
      rw [swapFrom, dif_neg (by omega)] at he
      rw [← he]
      exact S1.out

/-- A row of the sort's, its part from a to b turned at m. -/
def Turned (enc : α → List Value) (k : Nat) (w0 : World) (blk off a m b : Nat) (d : Array α) (w : World) : Prop := ∃ d', SWK enc k w0 blk off d' w ∧ d'.size = d.size ∧ PermIn a b d d' ∧ ∀ x, d'[x]! = rot a m b d x
def RotRel (enc : α → List Value) (k : Nat) (w0 : World) (blk off a m b : Nat) (d : Array α) (iv jv : Value) (wr : World) : Prop := ∃ (i j : Nat) (dk : Array α), iv = .int .i64 i ∧ jv = .int .i64 j ∧ 0 < i ∧ 0 < j ∧ a + i ≤ m ∧ m + j ≤ b ∧ dk.size = d.size ∧ SWK enc k w0 blk off dk wr ∧ PermIn a b d dk ∧ ∀ x, rot (m - i) m (m + j) dk x = rot a m b d x
set_option maxHeartbeats 4000000 in
theorem rotate_P (k : Nat) (zE : ∀ w, (Go.sizeOf 50).run Tryz.prog w = .ok k w) (blk off cap a m b : Nat) (d0 d : Array α) (w0 w : World) (fv : Value)
    (R : RowK enc k w0 blk off d0) (hs : d0.size = d.size) (S : SWK enc k w0 blk off d w) (ham : a < m) (hmb : m < b) (hb : b ≤ d.size) (hsz : d.size < 4611686018427387904) :
    Calls Tryz.prog 96 #[.slice (some ⟨blk, off, none⟩) d.size cap, .int .i64 a, .int .i64 m, .int .i64 b, fv] w fun e w' => e = .returned (.tuple #[]) ∧ Turned enc k w0 blk off a m b d w' := by
  have S0 : Aside (SWK enc k w0 blk off d w) := S
  have hsw := fun (x y n : Nat) (dk : Array α) (wk : World) (h : d0.size = dk.size) (hS : SWK enc k w0 blk off dk wk) (h1 : x + n ≤ dk.size) (h2 : y + n ≤ dk.size) (h3 : dk.size < 4611686018427387904) => swapRange_P k zE blk off cap x y n d0 dk w0 wk fv R h hS h1 h2 h3
  have HSW := Lib.hid hsw
  have HS := Lib.hid hs
  clear S hsw hs
  go_enter Tryz.func96, Tryz.ntmps96
  go_wp2_with fail
  go_loopw [10, 11] (fun iv jv wr => RotRel enc k w0 blk off a m b d iv jv wr) (fun iv jv _ => (intOf iv).toNat + (intOf jv).toNat)
  case atStart => exact ⟨m - a, b - m, d, by go_num, by go_num, by omega, by omega, by omega, by omega, rfl, S0.out, permIn_refl _ _ _, fun x => by rw [show m - (m - a) = a by omega, show m + (b - m) = b by omega]⟩
  case round =>
    clear S0
    obtain ⟨i, j, dk, rfl, rfl, hi, hj, hai, hjb, hds, hS, hP, hR⟩ := hrel
    have HSS := Lib.hid hS
    have HP := Lib.hid hP
    have HR := Lib.hid hR
    have HDS := Lib.hid hds
    have hmi : m - i + i = m := by omega
    have hm0 : (i : Int) ≤ (m : Int) := by omega
    have hb0 : (m : Int) + (j : Int) ≤ (d.size : Int) := by omega
    clear hS hP hR hds hmi
    by_cases h1 : j < i
    · have n1 : ((i : Int) == (j : Int)) = false := by simp; omega
      have n2 : (j : Int) < (i : Int) := by omega
      have HC := Lib.hid (show Calls Tryz.prog 101 #[.slice (some ⟨blk, off, none⟩) d.size cap, .int .i64 ((m : Int) - (i : Int)), .int .i64 m, .int .i64 j, fv] wr fun e w' => e = .returned (.tuple #[]) ∧ SWK enc k w0 blk off (swapFrom (m - i) m j 0 dk) w' by
        have h := HSW.out (m - i) m j dk wr (by rw [HDS.out]; exact HS.out) HSS.out (by have := HDS.out; omega) (by have := HDS.out; omega) (by have := HDS.out; omega)
        rw [show ((m - i : Nat) : Int) = (m : Int) - (i : Int) by omega, HDS.out] at h
        exact h)
      have hne : (i : Int) ≠ (j : Int) := by omega
      go_wp2_with fail
      refine HC.out.mono ?_
      rintro e w2 ⟨rfl, hs2⟩
      have HS2 := Lib.hid hs2
      clear hs2
      go_wp2_with fail
      go_roundw
      case rel =>
        exact ⟨i - j, j, swapFrom (m - i) m j 0 dk, by congr 1; omega, rfl, by omega, hj, by omega, hjb, by rw [swapFrom_size]; exact HDS.out, HS2.out,
          permIn_trans _ _ _ _ _ HP.out (swapFrom_perm (m - i) m j a b (by omega) (by omega) (by omega) (by omega) 0 dk (by have := HDS.out; omega)),
          fun x => (rot_more m i j dk (by omega) h1 hj (by have := HDS.out; omega) x).symm.trans (HR.out x)⟩
      case measure => simp [intOf]; omega
    · by_cases h2 : i < j
      · have n1 : ((i : Int) == (j : Int)) = false := by simp; omega
        have n2 : ¬ (j : Int) < (i : Int) := by omega
        have n3 : (i : Int) ≤ (j : Int) := by omega
        have HC := Lib.hid (show Calls Tryz.prog 101 #[.slice (some ⟨blk, off, none⟩) d.size cap, .int .i64 ((m : Int) - (i : Int)), .int .i64 ((m : Int) + (j : Int) - (i : Int)), .int .i64 i, fv] wr fun e w' => e = .returned (.tuple #[]) ∧ SWK enc k w0 blk off (swapFrom (m - i) (m + j - i) i 0 dk) w' by
          have h := HSW.out (m - i) (m + j - i) i dk wr (by rw [HDS.out]; exact HS.out) HSS.out (by have := HDS.out; omega) (by have := HDS.out; omega) (by have := HDS.out; omega)
          rw [show ((m - i : Nat) : Int) = (m : Int) - (i : Int) by omega, show ((m + j - i : Nat) : Int) = (m : Int) + (j : Int) - (i : Int) by omega, HDS.out] at h
          exact h)
        have hne : (i : Int) ≠ (j : Int) := by omega
        go_wp2_with fail
        refine HC.out.mono ?_
        rintro e w2 ⟨rfl, hs2⟩
        have HS2 := Lib.hid hs2
        clear hs2
        go_wp2_with fail
        go_roundw
        case rel =>
          exact ⟨i, j - i, swapFrom (m - i) (m + j - i) i 0 dk, rfl, by congr 1; omega, hi, by omega, hai, by omega, by rw [swapFrom_size]; exact HDS.out, HS2.out,
            permIn_trans _ _ _ _ _ HP.out (swapFrom_perm (m - i) (m + j - i) i a b (by omega) (by omega) (by omega) (by omega) 0 dk (by have := HDS.out; omega)),
            fun x => (rot_less m i j dk (by omega) h2 hi (by have := HDS.out; omega) x).symm.trans (HR.out x)⟩
        case measure => simp [intOf]; omega
      · obtain rfl : i = j := by omega
        have HC := Lib.hid (show Calls Tryz.prog 101 #[.slice (some ⟨blk, off, none⟩) d.size cap, .int .i64 ((m : Int) - (i : Int)), .int .i64 m, .int .i64 i, fv] wr fun e w' => e = .returned (.tuple #[]) ∧ SWK enc k w0 blk off (swapFrom (m - i) m i 0 dk) w' by
          have h := HSW.out (m - i) m i dk wr (by rw [HDS.out]; exact HS.out) HSS.out (by have := HDS.out; omega) (by have := HDS.out; omega) (by have := HDS.out; omega)
          rw [show ((m - i : Nat) : Int) = (m : Int) - (i : Int) by omega, HDS.out] at h
          exact h)
        clear h1 h2
        go_wp2_with fail
        refine HC.out.mono ?_
        rintro e w2 ⟨rfl, hs2⟩
        have HS2 := Lib.hid hs2
        clear hs2
        go_wp2_with fail
        go_end0
        exact ⟨rfl, swapFrom (m - i) m i 0 dk, HS2.out, by rw [swapFrom_size]; exact HDS.out,
          permIn_trans _ _ _ _ _ HP.out (swapFrom_perm (m - i) m i a b (by omega) (by omega) (by omega) (by omega) 0 dk (by have := HDS.out; omega)),
          fun x => (rot_end m i dk (by omega) (by have := HDS.out; omega) x).trans (HR.out x)⟩
end
end Go.Proofs.YtogjcaakfnfapaaGreatDoor
namespace Go.Proofs.YtogjcaakfnfapaaGreatDoor
open Go.Shelf Go.RowKit Go.Lib Go.Sort
set_option linter.unusedVariables false
set_option linter.unusedSimpArgs false
set_option maxRecDepth 100000

section
variable {α : Type} [Inhabited α] {enc : α → List Value}
def SrchA (enc : α → List Value) (k : Nat) (w0 : World) (blk off : Nat) (lt : α → α → Bool) (a m b : Nat) (d : Array α) (iv jv : Value) (wr : World) : Prop := ∃ i j : Nat, iv = .int .i64 i ∧ jv = .int .i64 j ∧ m ≤ i ∧ i ≤ j ∧ j ≤ b ∧ (i = m ∨ lt d[i - 1]! d[a]! = true) ∧ (j = b ∨ lt d[j]! d[a]! = false) ∧ SWK enc k w0 blk off d wr
def ShftA (enc : α → List Value) (k : Nat) (w0 : World) (blk off a i : Nat) (d : Array α) (kv : Value) (wr : World) : Prop := ∃ (q : Nat) (dk : Array α), kv = .int .i64 q ∧ a ≤ q ∧ q + 1 ≤ i ∧ dk.size = d.size ∧ PermIn a i d dk ∧ (∀ x, dk[x]! = if a ≤ x ∧ x < q then d[x + 1]! else if x = q then d[a]! else d[x]!) ∧ SWK enc k w0 blk off dk wr
/-- A test's answer, of a pair such as the sort tests (Q: the first one stood behind the second). -/
structure Tests (Q : α → α → Prop) (cf : α → α → Int) (lt : α → α → Bool) : Prop where
  lo : ∀ p q, Q p q → cf p q < 0 → lt p q = true
  hi : ∀ p q, Q p q → 0 ≤ cf p q → lt p q = false
def Across (Q : α → α → Prop) (a m b : Nat) (d : Array α) : Prop := ∀ i j, a ≤ i → i < m → m ≤ j → j < b → Q d[j]! d[i]!
/-- A row of the sort's, its part from a to b in order. -/
def Merged (enc : α → List Value) (k : Nat) (w0 : World) (blk off : Nat) (lt : α → α → Bool) (a b : Nat) (d : Array α) (w : World) : Prop := ∃ d', SWK enc k w0 blk off d' w ∧ d'.size = d.size ∧ PermIn a b d d' ∧ SortedIn lt a b d'
theorem shiftA_step {a i q : Nat} {d dk : Array α} (hq : a ≤ q) (hi : q + 1 < i) (his : i ≤ d.size) (hs : dk.size = d.size) (h : ∀ x, dk[x]! = if a ≤ x ∧ x < q then d[x + 1]! else if x = q then d[a]! else d[x]!) :
    ∀ x, (swp dk q (q + 1))[x]! = if a ≤ x ∧ x < q + 1 then d[x + 1]! else if x = q + 1 then d[a]! else d[x]! := by
  intro x
  by_cases c1 : x = q
  · subst c1
    rw [swp_left _ _ _ (by omega) (by omega), h, if_neg (by omega), if_neg (by omega), if_pos (by omega)]
  · by_cases c2 : x = q + 1
    · subst c2
      rw [swp_right _ _ _ (by omega), h, if_neg (by omega), if_pos rfl, if_neg (by omega), if_pos rfl]
    · rw [swp_other _ _ _ _ c1 c2, h]
      by_cases c3 : a ≤ x ∧ x < q
      · rw [if_pos c3, if_pos (by omega)]
      · rw [if_neg c3, if_neg c1, if_neg (by omega), if_neg c2]
theorem shiftA_rot {a i : Nat} {d dk : Array α} (hi : a + 1 ≤ i) (h : ∀ x, dk[x]! = if a ≤ x ∧ x < i - 1 then d[x + 1]! else if x = i - 1 then d[a]! else d[x]!) : ∀ x, dk[x]! = rot a (a + 1) i d x := by
  intro x
  rw [h, rot]
  repeat' split
  all_goals first | (exfalso; omega) | rfl | (congr 1; omega)
/-- What the way with one element ahead comes to. -/
theorem mergeA_end {lt : α → α → Bool} {a m b i : Nat} {d d1 : Array α} (hS : SWO lt) (hm : m = a + 1) (hmi : m ≤ i) (hib : i ≤ b) (hb : b ≤ d.size) (hsz : d1.size = d.size) (h2 : SortedIn lt m b d) (hlo : i = m ∨ lt d[i - 1]! d[a]! = true) (hhi : i = b ∨ lt d[i]! d[a]! = false) (hp : PermIn a i d d1) (hr : ∀ x, d1[x]! = rot a m i d x) :
    PermIn a b d d1 ∧ SortedIn lt a b d1 := by
  have h1 : SortedIn lt a m d := fun x y hx hxy hy => by omega
  obtain ⟨-, e2, -, e4, -, s2, s3, s4, hx⟩ := merge_turn hS (Nat.le_refl a) (by omega) hmi hib h1 h2 (.inl rfl) (by rcases hlo with h | h; exact .inr (.inl h); exact .inr (.inr h)) hr
  refine ⟨permIn_mono _ _ a i a b (Nat.le_refl _) hib (by omega) hp, sorted_join s2 (sorted_join s3 s4 ?_) hx⟩
  intro x y hx1 hx2 hy1 hy2
  rw [e4 x hx1 hx2, e2 y hy1 hy2]
  have hxa : x - (i - m) = a := by omega
  rw [hxa]
  rcases hhi with h | h
  · omega
  · exact hS.ntrans _ _ _ (sorted_le hS h2 (i := i) (j := y) (by omega) hy1 hy2) h

set_option maxHeartbeats 8000000 in
theorem mergeA_P (k : Nat) (zE : ∀ w, (Go.sizeOf 50).run Tryz.prog w = .ok k w) (g : Nat) (cb : Array Value) (eg : ∀ args w, (callFunc g args).run Tryz.prog w = .ok (.enter g args) w) (cf : α → α → Int) (blk off cap a m b : Nat) (d0 d : Array α) (w0 w : World)
    (R : RowK enc k w0 blk off d0) (hs : d0.size = d.size) (S : SWK enc k w0 blk off d w) (hC : CmpLays Tryz.prog g cb enc k cf blk off d0.size w0) {lt : α → α → Bool} {Q : α → α → Prop} (hT : Tests Q cf lt) (hQ : Across Q a m b d) (hS : SWO lt) (ham : m = a + 1) (hmb : m < b) (hb : b ≤ d.size) (hsz : d.size < 4611686018427387904) (h2 : SortedIn lt m b d) :
    Calls Tryz.prog 88 #[.slice (some ⟨blk, off, none⟩) d.size cap, .int .i64 a, .int .i64 m, .int .i64 b, .func (.func g) #[] cb] w fun e w' => e = .returned (.tuple #[]) ∧ Merged enc k w0 blk off lt a b d w' := by
  have S0 : Aside (SWK enc k w0 blk off d w) := S
  have mixed : Tryz.prog.follows .mixedOrders = true := by kernel_rfl
  have HC := Lib.hid hC
  have HSW := Lib.hid hS
  have HT := Lib.hid hT
  have HQ := Lib.hid hQ
  have HS := Lib.hid hs
  have HM := Lib.hid ham
  have H2 := Lib.hid h2
  have t1 : ((m : Int) - (a : Int) == 1) = true := by simp; omega
  have t2 : (m : Int) - (a : Int) = 1 := by omega
  have T2 := Lib.hid t2
  have ma : a < m := by omega
  clear S hC hT hQ hS hs ham h2 t2
  go_enter Tryz.func88, Tryz.ntmps88
  go_wp2_with fail
  go_loopw [10, 11] (fun iv jv wr => SrchA enc k w0 blk off lt a m b d iv jv wr) (fun iv jv _ => (intOf jv).toNat - (intOf iv).toNat)
  case atStart => exact ⟨m, b, rfl, rfl, Nat.le_refl _, by omega, Nat.le_refl _, .inl rfl, .inl rfl, S0.out⟩
  case round =>
    clear S0
    obtain ⟨i, j, rfl, rfl, hmi, hij, hjb, hlo, hhi, hSr⟩ := hrel
    have S1 := Lib.hid hSr
    have HLO := Lib.hid hlo
    have HHI := Lib.hid hhi
    clear hSr hlo hhi
    by_cases hlt : i < j
    · have hltz : (i : Int) < (j : Int) := by omega
      have p0 : (0 : Int) ≤ ((i : Int) + (j : Int)) / 2 := by omega
      have p1 : ((i : Int) + (j : Int)) / 2 < (d.size : Int) := by omega
      have p2 : (((i : Int) + (j : Int)) / 2).toNat = (i + j) / 2 := by omega
      have p3 : (a : Int) < (d.size : Int) := by omega
      have p4 : (0 : Int) ≤ (a : Int) := by omega
      obtain ⟨xh, hxh⟩ : ∃ x, d[(i + j) / 2]! = x := ⟨_, rfl⟩
      obtain ⟨xa, hxa⟩ : ∃ x, d[a]! = x := ⟨_, rfl⟩
      have lj := fun n' os' => S1.out.ld R HS.out.symm Tryz.prog ((i + j) / 2) (by omega) n' os'
      have lp := fun n' os' => S1.out.ld R HS.out.symm Tryz.prog a (by omega) n' os'
      rw [hxh] at lj
      rw [hxa] at lp
      have hcg := fun n' os' => S1.out.cmp HC.out HS.out.symm xh xa n' os'
      have HXH := Lib.hid hxh
      have HXA := Lib.hid hxa
      have HQX := Lib.hid (show Q xh xa by rw [← hxh, ← hxa]; exact HQ.out a ((i + j) / 2) (Nat.le_refl _) (by omega) (by omega) (by omega))
      clear hxh hxa
      by_cases hlv : cf xh xa < 0
      · go_wp2_with fail
        go_quiet_grown (first | (go_at_fn g; refine Calls.grown_of (hcg _ _)))
        go_wp2_with fail
        go_roundw
        case rel => exact ⟨(i + j) / 2 + 1, j, by congr 1, rfl, by omega, by omega, hjb, .inr (by rw [show (i + j) / 2 + 1 - 1 = (i + j) / 2 by omega, HXH.out, HXA.out]; exact HT.out.lo _ _ HQX.out hlv), HHI.out, S1.out.grown nq osq⟩
        case measure => simp [intOf]; omega
      · have hlv2 : 0 ≤ cf xh xa := by omega
        clear hlv
        go_wp2_with fail
        go_quiet_grown (first | (go_at_fn g; refine Calls.grown_of (hcg _ _)))
        go_wp2_with fail
        go_roundw
        case rel => exact ⟨i, (i + j) / 2, rfl, by congr 1, hmi, by omega, by omega, HLO.out, .inr (by rw [HXH.out, HXA.out]; exact HT.out.hi _ _ HQX.out hlv2), S1.out.grown nq osq⟩
        case measure => simp [intOf]; omega
    · obtain rfl : i = j := by omega
      have hltz : ¬ (i : Int) < (i : Int) := by omega
      clear hlt
      go_wp2_with fail
      obtain ⟨wo, hwo⟩ : ∃ wo, wo = wr := ⟨_, rfl⟩
      rw [← hwo] at S1 ⊢
      clear hwo
      go_loopw [13] (fun kv wk => ShftA enc k w0 blk off a i d kv wk) (fun kv _ => i - (intOf kv).toNat)
      case atStart => exact ⟨a, d, rfl, Nat.le_refl _, by have := HM.out; omega, rfl, permIn_refl _ _ _, fun x => by split; omega; split; (subst_vars; rfl); rfl, S1.out⟩
      case round =>
        obtain ⟨q, dk, rfl, haq, hqi, hds, hP, hX, hSk⟩ := hrel
        have S2 := Lib.hid hSk
        have HP := Lib.hid hP
        have HX := Lib.hid hX
        have HDS := Lib.hid hds
        clear hSk hP hX hds S1
        by_cases hq : q + 1 < i
        · have hqz : (q : Int) < (i : Int) - 1 := by omega
          have hz1 : dk.size = d.size := HDS.out
          have ea : ((q : Int)).toNat = q := by omega
          have pa : (0 : Int) ≤ (q : Int) := by omega
          have ba : (q : Int) < (d.size : Int) := by omega
          have ec : ((q : Int) + 1).toNat = q + 1 := by omega
          have pc : (0 : Int) ≤ (q : Int) + 1 := by omega
          have bc : (q : Int) + 1 < (d.size : Int) := by omega
          have rc : IntKind.i64.wrap ((q : Int) + 1) = (q : Int) + 1 := by rw [IntKind.wrap_i64]; omega
          have S3 : Aside (SWK enc k w0 blk off (swp dk q (q + 1)) ((wr.drew.setCells blk (off + q * k) (enc dk[q + 1]!)).setCells blk (off + (q + 1) * k) (enc dk[q]!))) := S2.out.swapped R q (q + 1) (by omega) (by omega)
          have l1 := S2.out.ld1 R (by have := HS.out; omega) Tryz.prog q (by omega)
          have l2 := S2.out.ld1 R (by have := HS.out; omega) Tryz.prog (q + 1) (by omega)
          have s1 := S2.out.st1 R (by have := HS.out; omega) Tryz.prog q (by omega) dk[q + 1]!
          have s2 := S2.out.st2 R (by have := HS.out; omega) Tryz.prog q (q + 1) (by omega) (by omega) dk[q + 1]! dk[q]!
          have n1 : (enc dk[q]!).length = k := R.hk _
          have n2 : (enc dk[q + 1]!).length = k := R.hk _
          generalize enc dk[q]! = cI at S3 l1 s2 n1
          generalize enc dk[q + 1]! = cJ at S3 l2 s1 s2 n2
          have HQQ := Lib.hid hq
          clear S2 hz1 hq
          go_wp2_with fail
          go_big_region_o
          clear l1 l2 s1 s2
          generalize (wr.drew.setCells blk (off + q * k) cJ).setCells blk (off + (q + 1) * k) cI = w2 at S3 ⊢
          go_wp2_with fail
          go_roundw
          case rel => exact ⟨q + 1, swp dk q (q + 1), by go_num, by omega, by have := HQQ.out; omega, by rw [size_swp]; exact HDS.out, permIn_trans _ _ _ _ _ HP.out (swp_permIn dk a i q (q + 1) (by omega) (by omega) (by omega) (by have := HQQ.out; omega) (by have := HDS.out; omega)), shiftA_step haq HQQ.out (by omega) HDS.out HX.out, S3.out⟩
          case measure => simp [intOf]; omega
        · have hqz : ¬ (q : Int) < (i : Int) - 1 := by omega
          have hqi2 : i ≤ q + 1 := by omega
          clear hq
          go_wp2_with fail
          refine bodyPost_ret (v := .tuple #[]) (results_none rfl _ _ _) rfl ?_
          obtain rfl : q = i - 1 := by omega
          have hM := HM.out
          have hX2 := shiftA_rot (by omega) HX.out
          rw [← hM] at hX2
          have hlo2 := HLO.out
          have hhi2 := HHI.out
          obtain ⟨r1, r2⟩ := mergeA_end HSW.out hM hmi hjb hb HDS.out H2.out hlo2 hhi2 HP.out hX2
          exact ⟨rfl, dk, S2.out, HDS.out, r1, r2⟩

def SrchB (enc : α → List Value) (k : Nat) (w0 : World) (blk off : Nat) (lt : α → α → Bool) (a m : Nat) (d : Array α) (iv jv : Value) (wr : World) : Prop := ∃ i j : Nat, iv = .int .i64 i ∧ jv = .int .i64 j ∧ a ≤ i ∧ i ≤ j ∧ j ≤ m ∧ (i = a ∨ lt d[m]! d[i - 1]! = false) ∧ (j = m ∨ lt d[m]! d[j]! = true) ∧ SWK enc k w0 blk off d wr
def ShftB (enc : α → List Value) (k : Nat) (w0 : World) (blk off m i : Nat) (d : Array α) (kv : Value) (wr : World) : Prop := ∃ (q : Nat) (dk : Array α), kv = .int .i64 q ∧ i ≤ q ∧ q ≤ m ∧ dk.size = d.size ∧ PermIn i (m + 1) d dk ∧ (∀ x, dk[x]! = if q < x ∧ x ≤ m then d[x - 1]! else if x = q then d[m]! else d[x]!) ∧ SWK enc k w0 blk off dk wr
theorem shiftB_step {m q : Nat} {d dk : Array α} (hq : q + 1 ≤ m) (his : m < d.size) (hs : dk.size = d.size) (h : ∀ x, dk[x]! = if q + 1 < x ∧ x ≤ m then d[x - 1]! else if x = q + 1 then d[m]! else d[x]!) :
    ∀ x, (swp dk (q + 1) q)[x]! = if q < x ∧ x ≤ m then d[x - 1]! else if x = q then d[m]! else d[x]! := by
  intro x
  by_cases c1 : x = q + 1
  · subst c1
    rw [swp_left _ _ _ (by omega) (by omega), h, if_neg (by omega), if_neg (by omega), if_pos (by omega)]
    rfl
  · by_cases c2 : x = q
    · subst c2
      rw [swp_right _ _ _ (by omega), h, if_neg (by omega), if_pos rfl, if_neg (by omega), if_pos rfl]
    · rw [swp_other _ _ _ _ c1 c2, h]
      by_cases c3 : q + 1 < x ∧ x ≤ m
      · rw [if_pos c3, if_pos (by omega)]
      · rw [if_neg c3, if_neg c1, if_neg (by omega), if_neg c2]
theorem shiftB_rot {m i : Nat} {d dk : Array α} (hi : i ≤ m) (h : ∀ x, dk[x]! = if i < x ∧ x ≤ m then d[x - 1]! else if x = i then d[m]! else d[x]!) : ∀ x, dk[x]! = rot i m (m + 1) d x := by
  intro x
  rw [h, rot]
  repeat' split
  all_goals first | (exfalso; omega) | rfl | (congr 1; omega)
theorem mergeB_end {lt : α → α → Bool} {a m b i : Nat} {d d1 : Array α} (hS : SWO lt) (ham : a < m) (hmb : b = m + 1) (hai : a ≤ i) (him : i ≤ m) (hb : b ≤ d.size) (hsz : d1.size = d.size) (h1 : SortedIn lt a m d) (hlo : i = a ∨ lt d[m]! d[i - 1]! = false) (hhi : i = m ∨ lt d[m]! d[i]! = true) (hp : PermIn i (m + 1) d d1) (hr : ∀ x, d1[x]! = rot i m (m + 1) d x) :
    PermIn a b d d1 ∧ SortedIn lt a b d1 := by
  subst hmb
  have h2 : SortedIn lt m (m + 1) d := fun x y hx hxy hy => by omega
  obtain ⟨e1, -, e3, -, s1, s2, s3, -, hx⟩ := merge_turn hS hai him (Nat.le_succ m) (Nat.le_refl _) h1 h2 (.inr (.inl rfl)) (by rcases hhi with h | h; exact .inl h; exact .inr (.inr h)) hr
  rw [show i + (m + 1 - m) = i + 1 by omega] at s2 s3 hx e3
  refine ⟨permIn_mono _ _ i (m + 1) a (m + 1) hai (Nat.le_refl _) hb hp, sorted_join (sorted_join s1 s2 ?_) s3 hx⟩
  intro x y hx1 hx2 hy1 hy2
  rw [e1 x hx1 hx2, e3 y hy1 hy2, show y - i + m = m by omega]
  rcases hlo with h | h
  · omega
  · exact hS.ntrans _ _ _ h (sorted_le hS h1 (i := x) (j := i - 1) hx1 (by omega) (by omega))

set_option maxHeartbeats 8000000 in
theorem mergeB_P (k : Nat) (zE : ∀ w, (Go.sizeOf 50).run Tryz.prog w = .ok k w) (g : Nat) (cb : Array Value) (eg : ∀ args w, (callFunc g args).run Tryz.prog w = .ok (.enter g args) w) (cf : α → α → Int) (blk off cap a m b : Nat) (d0 d : Array α) (w0 w : World)
    (R : RowK enc k w0 blk off d0) (hs : d0.size = d.size) (S : SWK enc k w0 blk off d w) (hC : CmpLays Tryz.prog g cb enc k cf blk off d0.size w0) {lt : α → α → Bool} {Q : α → α → Prop} (hT : Tests Q cf lt) (hQ : Across Q a m b d) (hS : SWO lt) (ham : a + 1 < m) (hmb : b = m + 1) (hb : b ≤ d.size) (hsz : d.size < 4611686018427387904) (h1 : SortedIn lt a m d) :
    Calls Tryz.prog 88 #[.slice (some ⟨blk, off, none⟩) d.size cap, .int .i64 a, .int .i64 m, .int .i64 b, .func (.func g) #[] cb] w fun e w' => e = .returned (.tuple #[]) ∧ Merged enc k w0 blk off lt a b d w' := by
  have S0 : Aside (SWK enc k w0 blk off d w) := S
  have mixed : Tryz.prog.follows .mixedOrders = true := by kernel_rfl
  have HC := Lib.hid hC
  have HSW := Lib.hid hS
  have HT := Lib.hid hT
  have HQ := Lib.hid hQ
  have HS := Lib.hid hs
  have HM := Lib.hid hmb
  have H1 := Lib.hid h1
  have t1 : ((m : Int) - (a : Int) == 1) = false := by simp; omega
  have t2 : ((b : Int) - (m : Int) == 1) = true := by simp; omega
  have t3 : (m : Int) - (a : Int) ≠ 1 := by omega
  have mb : m < b := by omega
  have mb2 : b ≤ m + 1 := by omega
  clear S hC hT hQ hS hs hmb h1
  go_enter Tryz.func88, Tryz.ntmps88
  go_wp2_with fail
  go_loopw [14, 15] (fun iv jv wr => SrchB enc k w0 blk off lt a m d iv jv wr) (fun iv jv _ => (intOf jv).toNat - (intOf iv).toNat)
  case atStart => exact ⟨a, m, rfl, rfl, Nat.le_refl _, by omega, Nat.le_refl _, .inl rfl, .inl rfl, S0.out⟩
  case round =>
    clear S0
    obtain ⟨i, j, rfl, rfl, hai, hij, hjm, hlo, hhi, hSr⟩ := hrel
    have S1 := Lib.hid hSr
    have HLO := Lib.hid hlo
    have HHI := Lib.hid hhi
    clear hSr hlo hhi
    by_cases hlt : i < j
    · have hltz : (i : Int) < (j : Int) := by omega
      have p0 : (0 : Int) ≤ ((i : Int) + (j : Int)) / 2 := by omega
      have p1 : ((i : Int) + (j : Int)) / 2 < (d.size : Int) := by omega
      have p2 : (((i : Int) + (j : Int)) / 2).toNat = (i + j) / 2 := by omega
      have p3 : (m : Int) < (d.size : Int) := by omega
      have p4 : (0 : Int) ≤ (m : Int) := by omega
      obtain ⟨xh, hxh⟩ : ∃ x, d[(i + j) / 2]! = x := ⟨_, rfl⟩
      obtain ⟨xm, hxm⟩ : ∃ x, d[m]! = x := ⟨_, rfl⟩
      have lj := fun n' os' => S1.out.ld R HS.out.symm Tryz.prog ((i + j) / 2) (by omega) n' os'
      have lp := fun n' os' => S1.out.ld R HS.out.symm Tryz.prog m (by omega) n' os'
      rw [hxh] at lj
      rw [hxm] at lp
      have hcg := fun n' os' => S1.out.cmp HC.out HS.out.symm xm xh n' os'
      have HXH := Lib.hid hxh
      have HXM := Lib.hid hxm
      have HQX := Lib.hid (show Q xm xh by rw [← hxh, ← hxm]; exact HQ.out ((i + j) / 2) m (by omega) (by omega) (by omega) (by omega))
      clear hxh hxm
      by_cases hlv : cf xm xh < 0
      · have hb1 : decide (cf xm xh < 0) = true := by simpa using hlv
        go_wp2_with fail
        go_quiet_grown (first | (go_at_fn g; refine Calls.grown_of (hcg _ _)))
        go_wp2_with fail
        go_roundw
        case rel => exact ⟨i, (i + j) / 2, rfl, by congr 1, hai, by omega, by omega, HLO.out, .inr (by rw [HXH.out, HXM.out]; exact HT.out.lo _ _ HQX.out hlv), S1.out.grown nq osq⟩
        case measure => simp [intOf]; omega
      · have hlv2 : 0 ≤ cf xm xh := by omega
        have hb1 : decide (cf xm xh < 0) = false := by simp; omega
        clear hlv
        go_wp2_with fail
        go_quiet_grown (first | (go_at_fn g; refine Calls.grown_of (hcg _ _)))
        go_wp2_with fail
        go_roundw
        case rel => exact ⟨(i + j) / 2 + 1, j, by congr 1, rfl, by omega, by omega, hjm, .inr (by rw [show (i + j) / 2 + 1 - 1 = (i + j) / 2 by omega, HXH.out, HXM.out]; exact HT.out.hi _ _ HQX.out hlv2), HHI.out, S1.out.grown nq osq⟩
        case measure => simp [intOf]; omega
    · obtain rfl : i = j := by omega
      have hltz : ¬ (i : Int) < (i : Int) := by omega
      clear hlt
      go_wp2_with fail
      obtain ⟨wo, hwo⟩ : ∃ wo, wo = wr := ⟨_, rfl⟩
      rw [← hwo] at S1 ⊢
      clear hwo
      go_loopw [17] (fun kv wk => ShftB enc k w0 blk off m i d kv wk) (fun kv _ => (intOf kv).toNat)
      case atStart => exact ⟨m, d, rfl, hjm, Nat.le_refl _, rfl, permIn_refl _ _ _, fun x => by split; omega; split; (subst_vars; rfl); rfl, S1.out⟩
      case round =>
        obtain ⟨q, dk, rfl, hiq, hqm, hds, hP, hX, hSk⟩ := hrel
        have S2 := Lib.hid hSk
        have HP := Lib.hid hP
        have HX := Lib.hid hX
        have HDS := Lib.hid hds
        clear hSk hP hX hds S1
        by_cases hq : i < q
        · obtain ⟨q, rfl⟩ : ∃ n, q = n + 1 := ⟨q - 1, by omega⟩
          have hqz : (i : Int) < (q : Int) + 1 := by omega
          have hz1 : dk.size = d.size := HDS.out
          have ea : ((q : Int)).toNat = q := by omega
          have pa : (0 : Int) ≤ (q : Int) := by omega
          have ba : (q : Int) < (d.size : Int) := by omega
          have ra : IntKind.i64.wrap (q : Int) = (q : Int) := by rw [IntKind.wrap_i64]; omega
          have ec : ((q : Int) + 1).toNat = q + 1 := by omega
          have pc : (0 : Int) ≤ (q : Int) + 1 := by omega
          have bc : (q : Int) + 1 < (d.size : Int) := by omega
          have S3 : Aside (SWK enc k w0 blk off (swp dk (q + 1) q) ((wr.drew.setCells blk (off + (q + 1) * k) (enc dk[q]!)).setCells blk (off + q * k) (enc dk[q + 1]!))) := S2.out.swapped R (q + 1) q (by omega) (by omega)
          have l1 := S2.out.ld1 R (by have := HS.out; omega) Tryz.prog q (by omega)
          have l2 := S2.out.ld1 R (by have := HS.out; omega) Tryz.prog (q + 1) (by omega)
          have s1 := S2.out.st1 R (by have := HS.out; omega) Tryz.prog (q + 1) (by omega) dk[q]!
          have s2 := S2.out.st2 R (by have := HS.out; omega) Tryz.prog (q + 1) q (by omega) (by omega) dk[q]! dk[q + 1]!
          have n1 : (enc dk[q]!).length = k := R.hk _
          have n2 : (enc dk[q + 1]!).length = k := R.hk _
          generalize enc dk[q]! = cI at S3 l1 s1 s2 n1
          generalize enc dk[q + 1]! = cJ at S3 l2 s2 n2
          have HQQ := Lib.hid hq
          have HQQM := Lib.hid hqm
          clear S2 hz1 hq hqm
          go_wp2_with fail
          go_big_region_o
          clear l1 l2 s1 s2
          generalize (wr.drew.setCells blk (off + (q + 1) * k) cI).setCells blk (off + q * k) cJ = w2 at S3 ⊢
          go_wp2_with fail
          go_roundw
          case rel => exact ⟨q, swp dk (q + 1) q, rfl, by have := HQQ.out; omega, by have := HQQM.out; omega, by rw [size_swp]; exact HDS.out, permIn_trans _ _ _ _ _ HP.out (swp_permIn dk i (m + 1) (q + 1) q (by have := HQQ.out; omega) (by have := HQQM.out; omega) (by have := HQQ.out; omega) (by have := HQQM.out; omega) (by have := HDS.out; omega)), shiftB_step HQQM.out (by omega) HDS.out HX.out, S3.out⟩
          case measure => first | (simp [intOf]; done) | (simp [intOf]; omega)
        · have hqz : ¬ (i : Int) < (q : Int) := by omega
          have hqi2 : q ≤ i := by omega
          clear hq
          go_wp2_with fail
          refine bodyPost_ret (v := .tuple #[]) (results_none rfl _ _ _) rfl ?_
          obtain rfl : q = i := by omega
          have hX2 := shiftB_rot hjm HX.out
          obtain ⟨r1, r2⟩ := mergeB_end HSW.out (by omega) HM.out hai hjm hb HDS.out H1.out HLO.out HHI.out HP.out hX2
          exact ⟨rfl, dk, S2.out, HDS.out, r1, r2⟩
end
end Go.Proofs.YtogjcaakfnfapaaGreatDoor
