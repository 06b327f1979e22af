/- The walk of VectorMaps. -/
import Derived.Test.YtkflhfdpdgnbfaaVw3
namespace Go.Proofs.Ytkflhfdpdgnbfaa
open Go Go.RowKit
set_option linter.unusedVariables false
set_option linter.unusedSimpArgs false
set_option maxRecDepth 100000
theorem vright_two {ps : List Pt} (h : vrightL ps = true) : Strict ps ∧ ∀ p ∈ ps, rightL p.1 = true := by
  have hv : VRight ps := by
    unfold vrightL at h
    exact @of_decide_eq_true _ (Classical.propDecidable _) h
  refine ⟨?_, fun p hp => ?_⟩
  · have hadj : ∀ k (h0 : k + 1 < ps.length), cmpL ps[k].1 ps[k + 1].1 < 0 := fun k h0 => (hv (k + 1) h0).2 (by omega)
    unfold Strict
    rw [List.pairwise_iff_getElem]
    intro i j hi hj hij
    induction j with
    | zero => omega
    | succ j ih =>
      by_cases hj2 : i = j
      · subst hj2; exact hadj i hj
      · have h1 := ih (by omega) (by omega)
        exact (cmpL_trans _ _ _ (by omega) (by have := hadj j hj; omega)).2 (.inl h1)
  · obtain ⟨k, hk, rfl⟩ := List.mem_iff_getElem.1 hp
    exact (hv k hk).1
theorem nror_pair {ok : Bool} {ps : List Pt} {e : Ending} {w : World} (h : NRor ok ps e w) : ∃ v n, e = .returned (.tuple #[v, .int .i64 n]) := by
  unfold NRor at h
  split at h
  · rcases h with ⟨-, rfl⟩ | ⟨-, -, rfl⟩ | ⟨-, q, v', -, -, rfl, -⟩ <;> exact ⟨_, _, rfl⟩
  · exact ⟨_, _, h⟩
theorem nror_two {ok : Bool} {ps : List Pt} {v : Value} {n : Int} {f : Ending} {w w' : World} (h : NRor ok ps (.returned (.tuple #[v, .int .i64 n])) w) (h' : NRor ok ps f w') (hb : Below w.heap.size w w') :
    ∃ u q, f = .returned (.tuple #[u, .int .i64 n]) ∧ VS w' v q ∧ VS w' u q := by
  unfold NRor at h h'
  split at h
  · rename_i hok
    rw [if_pos hok] at h'
    obtain ⟨v2, u, q, m, e1, e2, h1, h2, -⟩ := nr_two h h' hb (Below.refl _ _)
    injection e1 with e1
    injection e1 with e1
    have e1' := congrArg Array.toList e1
    simp at e1'
    obtain ⟨rfl, rfl⟩ := e1'
    exact ⟨u, q, e2, h1, h2⟩
  · rename_i hok
    rw [if_neg hok] at h'
    injection h with e1
    injection e1 with e1
    have e1' := congrArg Array.toList e1
    simp at e1'
    obtain ⟨rfl, rfl⟩ := e1'
    exact ⟨_, [], h', VS.nil _, VS.nil _⟩
set_option maxHeartbeats 8000000 in
theorem vectorMaps_walk (v : Value) (ps : List Pt) (fn op : Int) (x : Nat) (left flag : Bool) (name value : ByteArray) (w : World) (hw0 : VS w v ps ∧ ∀ p ∈ ps, (Lit.float .f64 p.2).wf = true) (hw1 : (Lit.int .i64 fn).wf = true) (hw2 : (Lit.int .i64 op).wf = true) (hw3 : (Lit.float .f64 x).wf = true) (hw4 : name.size ≤ 9223372036854775807) (hw5 : value.size ≤ 9223372036854775807) :
    Calls Try.prog 6 #[v, .int .i64 fn, .int .i64 op, .float .f64 x, .bool left, .bool flag, .string name, .string value] w fun e w' => e = .returned (.bool true) ∧ Below w.heap.size w w' := by
  have hvs := hw0.1
  have HWF := Lib.hid (show ∀ p ∈ ps, p.2 < 18446744073709551616 from fun p hp => wf_f (hw0.2 p hp))
  have HK := Lib.hid (known_any w)
  have HVS := Lib.hid hvs
  obtain ⟨a, cap, rfl, hlen, -⟩ := hvs.split
  obtain ⟨N, hN⟩ : ∃ N, N = ps.length := ⟨_, rfl⟩
  rw [← hN] at HVS hlen ⊢
  have HN := Lib.hid hN
  clear hvs hw0 hN hw1 hw2 hw3 hw4 hw5
  have HRT := Lib.hid (fun w' (hb : Below w.heap.size w w') => lright_any _ ps w' (HVS.out.below hb (Nat.le_refl _)))
  obtain ⟨rr, hrr⟩ : ∃ r, r = (vfewL ps && vrightL ps) := ⟨_, rfl⟩
  rw [← hrr] at HRT
  have HRR := Lib.hid hrr
  clear hrr
  by_cases hgd : rr = true ∧ name.size ≤ 300 ∧ value.size ≤ 600
  · obtain ⟨hr1, hn3, hv6⟩ := hgd
    subst hr1
    have hfw : vfewL ps = true ∧ vrightL ps = true := by have := HRR.out.symm; rwa [Bool.and_eq_true] at this
    have HST := Lib.hid (vright_two hfw.2)
    have hl60 : ps.length ≤ 60 := (few_all hfw.1).1
    have hlz : ∀ p ∈ ps, p.1.length ≤ 100000 := fun p hp => by have := ((right_iff _).1 (HST.out.2 p hp)).2.2; omega
    have hlz2 : ∀ p ∈ ps, p.1.length ≤ 1000000 := fun p hp => by have := hlz p hp; omega
    have hl5 : ps.length ≤ 100000 := by omega
    have HM := Lib.hid (fun w' (hb : Below w.heap.size w w') => map_any _ ps fn x w' (HVS.out.below hb (Nat.le_refl _)) hl5 hlz2)
    have HRM := Lib.hid (fun w' (hb : Below w.heap.size w w') => rmap_any _ ps fn x w' (HVS.out.below hb (Nat.le_refl _)) hl5 hlz2 HWF.out)
    have HS := Lib.hid (fun w' (hb : Below w.heap.size w w') => scaled_any _ ps x left flag op w' (HVS.out.below hb (Nat.le_refl _)) hl5 hlz2)
    have HRS := Lib.hid (fun w' (hb : Below w.heap.size w w') => rscaled_any _ ps x left flag op w' (HVS.out.below hb (Nat.le_refl _)) hl5 hlz2)
    have HL := Lib.hid (fun w' (hb : Below w.heap.size w w') => label_any _ ps name value w' (HVS.out.below hb (Nat.le_refl _)) hl5 hlz)
    have HRL := Lib.hid (fun w' (hb : Below w.heap.size w w') => rlabel_any _ ps name value w' (HVS.out.below hb (Nat.le_refl _)) hl5 hlz)
    have hz1 : ¬ (300 : Int) < (name.size : Int) := by omega
    have hz1b : decide ((300 : Int) < (name.size : Int)) = false := decide_eq_false hz1
    have hz1c : decide (300 < name.size) = false := decide_eq_false (by omega)
    have hz2 : ¬ (600 : Int) < (value.size : Int) := by omega
    have hz2b : decide ((600 : Int) < (value.size : Int)) = false := decide_eq_false hz2
    have hz2c : decide (600 < value.size) = false := decide_eq_false (by omega)
    clear hfw hlz hlz2 hl5 hl60
    go_enter Try.func6, Try.ntmps6
    go_wp2_with fail
    refine HK.out.mono ?_
    rintro e w1 ⟨rfl, hb1⟩
    have HB1 := Lib.hid hb1
    clear hb1
    go_wp2_with fail
    refine (HRT.out _ HB1.out).mono ?_
    rintro e w2 ⟨rfl, n2, rfl⟩
    have HB2 := Lib.hid (below_drewN HB1.out n2)
    generalize w1.drewN n2 = w2 at HB2 ⊢
    go_wp2_with fail
    refine (HM.out _ HB2.out).mono ?_
    rintro e w3 ⟨hb3, hn3'⟩
    have HB3 := Lib.hid (HB2.out.trans (hb3.mono HB2.out.size))
    obtain ⟨v3, n3, rfl⟩ := nror_pair hn3'
    have HN3 := Lib.hid hn3'
    clear hb3 hn3'
    go_wp2_with fail
    refine (HRM.out _ HB3.out).mono ?_
    rintro e w4 ⟨hb4, hn4⟩
    have HB4 := Lib.hid (HB3.out.trans (hb4.mono HB3.out.size))
    obtain ⟨u3, q3, rfl, hv3, hu3⟩ := nror_two HN3.out hn4 hb4
    have HP3 := Lib.hid (And.intro hv3 hu3)
    clear hb4 hn4 hv3 hu3 HN3
    go_wp2_with fail
    refine (HS.out _ HB4.out).mono ?_
    rintro e w5 ⟨hb5, hn5⟩
    have HB5 := Lib.hid (HB4.out.trans (hb5.mono HB4.out.size))
    have HP3 := Lib.hid (And.intro (HP3.out.1.below hb5 (Nat.le_refl _)) (HP3.out.2.below hb5 (Nat.le_refl _)))
    obtain ⟨v5, n5, rfl⟩ := nror_pair hn5
    have HN5 := Lib.hid hn5
    clear hb5 hn5
    go_wp2_with fail
    refine (HRS.out _ HB5.out).mono ?_
    rintro e w6 ⟨hb6, hn6⟩
    have HB6 := Lib.hid (HB5.out.trans (hb6.mono HB5.out.size))
    have HP3 := Lib.hid (And.intro (HP3.out.1.below hb6 (Nat.le_refl _)) (HP3.out.2.below hb6 (Nat.le_refl _)))
    obtain ⟨u5, q5, rfl, hv5, hu5⟩ := nror_two HN5.out hn6 hb6
    have HP5 := Lib.hid (And.intro hv5 hu5)
    clear hb6 hn6 hv5 hu5 HN5
    go_wp2_with fail
    refine (HL.out _ HB6.out).mono ?_
    rintro e w7 ⟨hb7, hn7⟩
    have HB7 := Lib.hid (HB6.out.trans (hb7.mono HB6.out.size))
    have HP3 := Lib.hid (And.intro (HP3.out.1.below hb7 (Nat.le_refl _)) (HP3.out.2.below hb7 (Nat.le_refl _)))
    have HP5 := Lib.hid (And.intro (HP5.out.1.below hb7 (Nat.le_refl _)) (HP5.out.2.below hb7 (Nat.le_refl _)))
    obtain ⟨v7, n7, rfl⟩ := nror_pair hn7
    have HN7 := Lib.hid hn7
    clear hb7 hn7
    go_wp2_with fail
    refine (HRL.out _ HB7.out).mono ?_
    rintro e w8 ⟨hb8, hn8⟩
    have HB8 := Lib.hid (HB7.out.trans (hb8.mono HB7.out.size))
    have HP3 := Lib.hid (And.intro (HP3.out.1.below hb8 (Nat.le_refl _)) (HP3.out.2.below hb8 (Nat.le_refl _)))
    have HP5 := Lib.hid (And.intro (HP5.out.1.below hb8 (Nat.le_refl _)) (HP5.out.2.below hb8 (Nat.le_refl _)))
    obtain ⟨u7, q7, rfl, hv7, hu7⟩ := nror_two HN7.out hn8 hb8
    clear hb8 hn8 HN7
    have HC3 := Lib.hid (fun n => lsame_any v3 u3 q3 q3 n3 n3 (w8.drewN n) HP3.out.1 HP3.out.2)
    have HC5 := Lib.hid (fun n => lsame_any v5 u5 q5 q5 n5 n5 (w8.drewN n) HP5.out.1 HP5.out.2)
    have HC7 := Lib.hid (fun n => lsame_any v7 u7 q7 q7 n7 n7 (w8.drewN n) hv7 hu7)
    rw [vsame_refl, show (n3 == n3) = true by simp] at HC3
    rw [vsame_refl, show (n5 == n5) = true by simp] at HC5
    rw [vsame_refl, show (n7 == n7) = true by simp] at HC7
    clear hv7 hu7
    go_wp2_with fail
    refine (HC3.out 0).mono ?_
    rintro e w9 ⟨rfl, m1, rfl⟩
    rw [World.drewN_drewN]
    go_wp2_with fail
    refine (HC5.out _).mono ?_
    rintro e w9 ⟨rfl, m2, rfl⟩
    rw [World.drewN_drewN]
    go_wp2_with fail
    refine (HC7.out _).mono ?_
    rintro e w9 ⟨rfl, m3, rfl⟩
    rw [World.drewN_drewN]
    go_wp2_with fail
    go_ret
    exact ⟨rfl, below_drewN HB8.out _⟩
  · have hfour : (rr = false) ∨ (rr = true ∧ 300 < name.size) ∨ (rr = true ∧ ¬ 300 < name.size ∧ 600 < value.size) := by
      cases rr
      · exact .inl rfl
      · by_cases h1 : 300 < name.size
        · exact .inr (.inl ⟨rfl, h1⟩)
        · refine .inr (.inr ⟨rfl, h1, ?_⟩)
          by_cases h2 : 600 < value.size
          · exact h2
          · exact absurd ⟨rfl, by omega, by omega⟩ hgd
    clear hgd
    rcases hfour with rfl | ⟨rfl, h1⟩ | ⟨rfl, h1, h2⟩
    case' inr.inl =>
      have h1z : (300 : Int) < (name.size : Int) := by omega
      have h1b : decide ((300 : Int) < (name.size : Int)) = true := decide_eq_true h1z
      have h1c : decide (300 < name.size) = true := decide_eq_true h1
    case' inr.inr =>
      have h1z : ¬ (300 : Int) < (name.size : Int) := by omega
      have h1b : decide ((300 : Int) < (name.size : Int)) = false := decide_eq_false h1z
      have h1c : decide (300 < name.size) = false := decide_eq_false h1
      have h2z : (600 : Int) < (value.size : Int) := by omega
      have h2b : decide ((600 : Int) < (value.size : Int)) = true := decide_eq_true h2z
      have h2c : decide (600 < value.size) = true := decide_eq_true h2
    all_goals
      clear HRR
      go_enter Try.func6, Try.ntmps6
      go_wp2_with fail
      refine HK.out.mono ?_
      rintro e w1 ⟨rfl, hb1⟩
      have HB1 := Lib.hid hb1
      clear hb1
      go_wp2_with fail
      refine (HRT.out _ HB1.out).mono ?_
      rintro e w2 ⟨rfl, n2, rfl⟩
      have HB2 := Lib.hid (below_drewN HB1.out n2)
      generalize w1.drewN n2 = w2 at HB2 ⊢
      go_wp2_with fail
      go_ret
      exact ⟨rfl, HB2.out⟩
end Go.Proofs.Ytkflhfdpdgnbfaa
