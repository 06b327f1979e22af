/- The walk of VectorNormal. -/
import Derived.Test.YtkflhfdpdgnbfaaVl0
namespace Go.Proofs.Ytkflhfdpdgnbfaa
open Go Go.RowKit
set_option linter.unusedVariables false
set_option linter.unusedSimpArgs false
set_option maxRecDepth 100000
set_option maxHeartbeats 4000000 in
theorem vectorNormal_walk (v : Value) (ps : List Pt) (w : World) (hw0 : VS w v ps ∧ ∀ p ∈ ps, (Lit.float .f64 p.2).wf = true) :
    Calls Try.prog 3 #[v] w fun e w' => e = .returned (.bool true) ∧ Below w.heap.size w w' := by
  have hvs := hw0.1
  have HK := Lib.hid (known_any w)
  have HVS := Lib.hid hvs
  obtain ⟨a, cap, rfl, hlen, -⟩ := hvs.split
  obtain ⟨N, hN⟩ : ∃ N, N = ps.length := ⟨_, rfl⟩
  rw [← hN] at HVS hlen ⊢
  have HN := Lib.hid hN
  clear hvs hw0 hN
  obtain ⟨fw, hfw⟩ : ∃ b, b = vfewL ps := ⟨_, rfl⟩
  cases fw with
  | false =>
    go_enter Try.func3, Try.ntmps3
    go_wp2_with fail
    refine HK.out.mono ?_
    rintro e w1 ⟨rfl, hb1⟩
    have HB1 := Lib.hid hb1
    have HF := Lib.hid (vfew_any _ ps w1 (HVS.out.below hb1 (Nat.le_refl _)))
    rw [← hfw] at HF
    clear hb1 hfw
    go_wp2_with fail
    refine HF.out.mono ?_
    rintro e w2 ⟨rfl, rfl⟩
    go_wp2_with fail
    go_ret
    exact ⟨rfl, HB1.out⟩
  | true =>
    have hl60 := (few_all hfw.symm).1
    have HL := Lib.hid (show ps.length ≤ 100000 by omega)
    clear hl60
    go_enter Try.func3, Try.ntmps3
    go_wp2_with fail
    refine HK.out.mono ?_
    rintro e w1 ⟨rfl, hb1⟩
    have HB1 := Lib.hid hb1
    have HF := Lib.hid (vfew_any _ ps w1 (HVS.out.below hb1 (Nat.le_refl _)))
    rw [← hfw] at HF
    have HNM := Lib.hid (normal_any _ ps w1 (HVS.out.below hb1 (Nat.le_refl _)) HL.out)
    clear hb1 hfw
    go_wp2_with fail
    refine HF.out.mono ?_
    rintro e w2 ⟨rfl, rfl⟩
    go_wp2_with fail
    refine HNM.out.mono ?_
    rintro e3 w3 ⟨hb3, hn3⟩
    have HB3 := Lib.hid (HB1.out.trans (hb3.mono HB1.out.size))
    have HRN := Lib.hid (rnormal_any _ ps w3 (HVS.out.below HB3.out (Nat.le_refl _)) HL.out)
    have HRT := Lib.hid (fun w' (hb : Below w.heap.size w w') => vright_any _ ps w' (HVS.out.below hb (Nat.le_refl _)))
    have HRR := Lib.hid (fun w' (hb : Below w.heap.size w w') => rvright_any _ ps w' (HVS.out.below hb (Nat.le_refl _)))
    have HN3 := Lib.hid hn3
    obtain ⟨v3, n3, rfl⟩ : ∃ v3 n3, e3 = .returned (.tuple #[v3, .int .i64 n3]) := by
      rcases hn3 with ⟨-, rfl⟩ | ⟨-, -, rfl⟩ | ⟨-, q, v', -, -, rfl, -⟩
      · exact ⟨_, _, rfl⟩
      · exact ⟨_, _, rfl⟩
      · exact ⟨_, _, rfl⟩
    clear hb3 hn3 HF HNM
    go_wp2_with fail
    refine HRN.out.mono ?_
    rintro e4 w4 ⟨hb4, hn4⟩
    have HB4 := Lib.hid (HB3.out.trans (hb4.mono HB3.out.size))
    obtain ⟨v, u, q, n, he3, rfl, hv, hu, hcase⟩ := nr_two HN3.out hn4 hb4 (Below.refl _ _)
    injection he3 with he3
    injection he3 with he3
    have he3' := congrArg Array.toList he3
    simp at he3'
    obtain ⟨rfl, rfl⟩ := he3'
    have HS := Lib.hid (lsame_any v3 u q q n3 n3 w4 hv hu)
    rw [vsame_refl] at HS
    have HVR := Lib.hid (fun w' (hb : Below w4.heap.size w4 w') => vright_any v3 q w' (hv.below hb (Nat.le_refl _)))
    have HVW := Lib.hid hv
    obtain ⟨rr, hrr⟩ : ∃ r, r = vrightL ps := ⟨_, rfl⟩
    rw [← hrr] at HRT HRR
    have hz4 : w.heap.size ≤ w4.heap.size := HB4.out.size
    rcases hcase with ⟨rfl, hst, hrq, -⟩ | ⟨hne, rfl, rfl, -⟩
    · have hvq : vrightL q = true := strict_vright hst hrq
      rw [hvq] at HVR
      clear hb4 hn4 he3 hst hrq hvq hrr hv hu HN3
      cases rr
      all_goals
        go_wp2_with fail
        refine HS.out.mono ?_
        rintro e w5 ⟨rfl, n5, rfl⟩
        have HB5 := Lib.hid (below_drewN HB4.out n5)
        have HB45 := Lib.hid (below_drewN (Below.refl w4.heap.size w4) n5)
        generalize w4.drewN n5 = w5 at HB5 HB45 ⊢
        go_wp2_with fail
        refine (HRT.out _ HB5.out).mono ?_
        rintro e w6 ⟨rfl, hb6⟩
        have HB6 := Lib.hid (HB5.out.trans (hb6.mono HB5.out.size))
        have HB46 := Lib.hid (HB45.out.trans (hb6.mono HB45.out.size))
        clear hb6
        go_wp2_with fail
        refine (HRR.out _ HB6.out).mono ?_
        rintro e w7 ⟨rfl, n7, rfl⟩
        have HB7 := Lib.hid (below_drewN HB6.out n7)
        have HB47 := Lib.hid (below_drewN HB46.out n7)
        generalize w6.drewN n7 = w7 at HB7 HB47 ⊢
        go_wp2_with fail
        refine (HVR.out _ HB47.out).mono ?_
        rintro e w8 ⟨rfl, hb8⟩
        have HB8 := Lib.hid (HB7.out.trans (hb8.mono HB7.out.size))
        clear hb8
        go_wp2_with fail
        go_ret
        exact ⟨rfl, HB8.out⟩
    · have hnb : (n3 == 0) = false := by simpa using hne
      have hnb2 : (n3 != 0) = true := by simpa using hne
      have hee : (n3 == n3) = true := by simp
      rw [hee] at HS
      clear hb4 hn4 he3 hrr hv hu HN3 hee
      cases rr
      all_goals
        go_wp2_with fail
        refine HS.out.mono ?_
        rintro e w5 ⟨rfl, n5, rfl⟩
        have HB5 := Lib.hid (below_drewN HB4.out n5)
        generalize w4.drewN n5 = w5 at HB5 ⊢
        go_wp2_with fail
        refine (HRT.out _ HB5.out).mono ?_
        rintro e w6 ⟨rfl, hb6⟩
        have HB6 := Lib.hid (HB5.out.trans (hb6.mono HB5.out.size))
        clear hb6
        go_wp2_with fail
        refine (HRR.out _ HB6.out).mono ?_
        rintro e w7 ⟨rfl, n7, rfl⟩
        have HB7 := Lib.hid (below_drewN HB6.out n7)
        generalize w6.drewN n7 = w7 at HB7 ⊢
        go_wp2_with fail
        go_ret
        exact ⟨rfl, HB7.out⟩
end Go.Proofs.Ytkflhfdpdgnbfaa
