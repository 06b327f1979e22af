/- The walks of StampSums, StampAligns, StampNumbers. -/
import Derived.Test.YtkflhfdpdgnbfaaDoorSt6
namespace Go.Proofs.YtkflhfdpdgnbfaaDoor
open Go Go.RowKit
set_option linter.unusedVariables false
set_option linter.unusedSimpArgs false
set_option maxRecDepth 100000

theorem i64_wf {a : Int} (h : (Lit.int .i64 a).wf = true) : i64B a := by
  unfold i64B
  simp [Lit.wf, IntKind.min, IntKind.max, IntKind.signed, IntKind.bits] at h
  omega
set_option maxHeartbeats 2000000 in
theorem sums_walk (a b : Int) (w : World) (ht : Tab w) (ha : i64B a) (hb : i64B b) :
    Calls Tryd.prog 6 #[.int .i64 a, .int .i64 b] w fun e w' => e = .returned (.bool true) ∧ Below w.heap.size w w' := by
  have HT := Lib.hid ht
  have h1 := fun w => plus_any a b w ha hb
  have h2 := fun w => plus_any b a w hb ha
  by_cases hg : isB a = true ∧ isB b = true ∧ isB (a + b) = true
  · have hab := isB_t hg.2.2
    have e1 : sumV a b (a + b) = (a + b, 0) := by rw [sumV, if_pos hg]
    have e2 : sumV b a (b + a) = (a + b, 0) := by rw [sumV, Int.add_comm b a, if_pos ⟨hg.2.1, hg.1, hg.2.2⟩]
    have h3 := fun w => minus_any (a + b) b w (by omega) hb
    have e3 : sumV (a + b) b (a + b - b) = (a, 0) := by rw [sumV, show a + b - b = a by omega, if_pos ⟨hg.2.2, hg.2.1, hg.1⟩]
    rw [e1] at h1
    rw [e2] at h2
    rw [e3] at h3
    have H1 := Lib.hid h1
    have H2 := Lib.hid h2
    have H3 := Lib.hid h3
    clear ht h1 h2 h3 e1 e2 e3 hg hab ha hb
    go_enter Tryd.func6, Tryd.ntmps6
    go_wp2_with fail
    refine (known_any _ HT.out).mono ?_
    rintro e w1 ⟨rfl, hb1⟩
    have HB1 := Lib.hid hb1
    clear hb1
    go_wp2_with fail
    refine (H1.out _).mono ?_
    rintro e w2 ⟨rfl, rfl⟩
    go_wp2_with fail
    refine (H2.out _).mono ?_
    rintro e w2 ⟨rfl, rfl⟩
    go_wp2_with fail
    refine (H3.out _).mono ?_
    rintro e w2 ⟨rfl, rfl⟩
    go_wp2_with fail
    go_ret
    exact ⟨rfl, HB1.out⟩
  · have e1 : sumV a b (a + b) = (0, 1) := by rw [sumV, if_neg hg]
    have e2 : sumV b a (b + a) = (0, 1) := by rw [sumV, Int.add_comm b a, if_neg (fun h => hg ⟨h.2.1, h.1, h.2.2⟩)]
    rw [e1] at h1
    rw [e2] at h2
    have H1 := Lib.hid h1
    have H2 := Lib.hid h2
    clear ht h1 h2 e1 e2 hg ha hb
    go_enter Tryd.func6, Tryd.ntmps6
    go_wp2_with fail
    refine (known_any _ HT.out).mono ?_
    rintro e w1 ⟨rfl, hb1⟩
    have HB1 := Lib.hid hb1
    clear hb1
    go_wp2_with fail
    refine (H1.out _).mono ?_
    rintro e w2 ⟨rfl, rfl⟩
    go_wp2_with fail
    refine (H2.out _).mono ?_
    rintro e w2 ⟨rfl, rfl⟩
    go_wp2_with fail
    go_ret
    exact ⟨rfl, HB1.out⟩

set_option maxHeartbeats 2000000 in
theorem aligns_walk (t s : Int) (w : World) (ht : Tab w) (ha : i64B t) (hb : i64B s) :
    Calls Tryd.prog 5 #[.int .i64 t, .int .i64 s] w fun e w' => e = .returned (.bool true) ∧ Below w.heap.size w w' := by
  have HT := Lib.hid ht
  have h1 := fun w => align_any t s w ha hb
  by_cases hg : isB t = true ∧ 1 ≤ s ∧ s ≤ 1125899906842624 ∧ -1125899906842624 ≤ t - t % s
  · obtain ⟨g1, g2, g3, g4⟩ := hg
    have ⟨t1, t2⟩ := isB_t g1
    have e1 : alignV t s = (t - t % s, 0) := by rw [alignV, if_pos ⟨g1, g2, g3, g4⟩]
    have m1 := Int.emod_nonneg t (b := s) (by omega)
    have m2 := Int.emod_lt_of_pos t (b := s) (by omega)
    have hz : (t - t % s) % s = 0 := by
      have := Int.mul_ediv_add_emod t s
      rw [show t - t % s = s * (t / s) by omega, Int.mul_emod_right]
    have hz2 : (t - t % s).tmod s = 0 := by
      have := tmod_mod2 (t - t % s) s
      rw [hz] at this
      have h := Int.mul_ediv_add_emod t s
      rw [show t - t % s = s * (t / s) by omega, Int.mul_tmod_right]
    obtain ⟨A, hA⟩ : ∃ A, A = t - t % s := ⟨_, rfl⟩
    rw [← hA] at e1 hz hz2 g4
    have h2 := fun w => align_any A s w (by unfold i64B at *; omega) hb
    have hAB : isB A = true := by simp [isB]; omega
    have e2 : alignV A s = (A, 0) := by rw [alignV, hz, if_pos ⟨hAB, g2, g3, by omega⟩]; simp
    rw [e1] at h1
    rw [e2] at h2
    have H1 := Lib.hid h1
    have H2 := Lib.hid h2
    have a1 : A ≤ t := by omega
    have a2 : t - A < s := by omega
    have a3 : s ≠ 0 := by omega
    have Z := Lib.hid hz2
    clear ht h1 h2 e1 e2 ha hb hz m1 m2 hA hAB g1 hz2
    go_enter Tryd.func5, Tryd.ntmps5
    go_wp2_with fail
    refine (known_any _ HT.out).mono ?_
    rintro e w1 ⟨rfl, hb1⟩
    have HB1 := Lib.hid hb1
    clear hb1
    go_wp2_with fail
    refine (H1.out _).mono ?_
    rintro e w2 ⟨rfl, rfl⟩
    go_wp2_with fail
    refine (H2.out _).mono ?_
    rintro e w2 ⟨rfl, rfl⟩
    by_cases hp : 0 ≤ A
    · have hz3 : A % s = 0 := by have := Z.out; rwa [Int.tmod_eq_emod_of_nonneg hp] at this
      have b1 : (A % s == 0) = true := by simpa using hz3
      clear hz3
      go_wp2_with fail
      go_ret
      exact ⟨rfl, HB1.out⟩
    · have b1 : (A.tmod s == 0) = true := by simpa using Z.out
      go_wp2_with fail
      go_ret
      exact ⟨rfl, HB1.out⟩
  · have e1 : alignV t s = (0, 1) := by rw [alignV, if_neg hg]
    rw [e1] at h1
    have H1 := Lib.hid h1
    clear ht h1 e1 hg ha hb
    go_enter Tryd.func5, Tryd.ntmps5
    go_wp2_with fail
    refine (known_any _ HT.out).mono ?_
    rintro e w1 ⟨rfl, hb1⟩
    have HB1 := Lib.hid hb1
    clear hb1
    go_wp2_with fail
    refine (H1.out _).mono ?_
    rintro e w2 ⟨rfl, rfl⟩
    go_wp2_with fail
    go_ret
    exact ⟨rfl, HB1.out⟩

set_option maxHeartbeats 4000000 in
theorem numbers_walk (a b c : Int) (w : World) (ht : Tab w) (ha : i64B a) (hb : i64B b) (hc : i64B c) :
    Calls Tryd.prog 7 #[.int .i64 a, .int .i64 b, .int .i64 c] w fun e w' => e = .returned (.bool true) ∧ Below w.heap.size w w' := by
  have HT := Lib.hid ht
  have h1 := fun w => plus_any a b w ha hb
  have h2 := fun w => rplus_any a b w ha hb
  have h3 := fun w => minus_any a b w ha hb
  have h4 := fun w => rminus_any a b w ha hb
  have h5 := fun w => align_any a b w ha hb
  have h6 := fun w => ralign_any a b w ha hb
  have h7 := fun w => within_any a b c w ha hb hc
  have h8 := fun w => rwithin_any a b c w ha hb hc
  obtain ⟨p, e, hp⟩ : ∃ p e, sumV a b (a + b) = (p, e) := ⟨_, _, rfl⟩
  obtain ⟨m, g, hm⟩ : ∃ m g, sumV a b (a - b) = (m, g) := ⟨_, _, rfl⟩
  obtain ⟨x, i, hx⟩ : ∃ x i, alignV a b = (x, i) := ⟨_, _, rfl⟩
  obtain ⟨u, hu⟩ : ∃ u, cutV a b = u := ⟨_, rfl⟩
  obtain ⟨v, hv⟩ : ∃ v, cutV a c = v := ⟨_, rfl⟩
  rw [hp] at h1 h2
  rw [hm] at h3 h4
  rw [hx] at h5 h6
  rw [hu, hv] at h7 h8
  have H1 := Lib.hid h1
  have H2 := Lib.hid h2
  have H3 := Lib.hid h3
  have H4 := Lib.hid h4
  have H5 := Lib.hid h5
  have H6 := Lib.hid h6
  have H7 := Lib.hid h7
  have H8 := Lib.hid h8
  clear ht h1 h2 h3 h4 h5 h6 h7 h8 hp hm hx hu hv ha hb hc
  go_enter Tryd.func7, Tryd.ntmps7
  go_wp2_with fail
  refine (known_any _ HT.out).mono ?_
  rintro e w1 ⟨rfl, hb1⟩
  have HB1 := Lib.hid hb1
  clear hb1
  go_wp2_with fail
  refine (H1.out _).mono ?_
  rintro e w2 ⟨rfl, rfl⟩
  go_wp2_with fail
  refine (H2.out _).mono ?_
  rintro e w2 ⟨rfl, rfl⟩
  go_wp2_with fail
  refine (H3.out _).mono ?_
  rintro e w2 ⟨rfl, rfl⟩
  go_wp2_with fail
  refine (H4.out _).mono ?_
  rintro e w2 ⟨rfl, rfl⟩
  go_wp2_with fail
  refine (H5.out _).mono ?_
  rintro e w2 ⟨rfl, rfl⟩
  go_wp2_with fail
  refine (H6.out _).mono ?_
  rintro e w2 ⟨rfl, rfl⟩
  go_wp2_with fail
  refine (H7.out _).mono ?_
  rintro e w2 ⟨rfl, rfl⟩
  go_wp2_with fail
  refine (H8.out _).mono ?_
  rintro e w2 ⟨rfl, rfl⟩
  go_wp2_with fail
  go_ret
  exact ⟨rfl, HB1.out⟩
theorem stampSums_walk (a b : Int) (w : World) (ht : Tab w) (ha : (Lit.int .i64 a).wf = true) (hb : (Lit.int .i64 b).wf = true) :
    Calls Tryd.prog 6 #[.int .i64 a, .int .i64 b] w fun e w' => e = .returned (.bool true) ∧ Below w.heap.size w w' := sums_walk a b w ht (i64_wf ha) (i64_wf hb)
theorem stampAligns_walk (a b : Int) (w : World) (ht : Tab w) (ha : (Lit.int .i64 a).wf = true) (hb : (Lit.int .i64 b).wf = true) :
    Calls Tryd.prog 5 #[.int .i64 a, .int .i64 b] w fun e w' => e = .returned (.bool true) ∧ Below w.heap.size w w' := aligns_walk a b w ht (i64_wf ha) (i64_wf hb)
theorem stampNumbers_walk (a b c : Int) (w : World) (ht : Tab w) (ha : (Lit.int .i64 a).wf = true) (hb : (Lit.int .i64 b).wf = true) (hc : (Lit.int .i64 c).wf = true) :
    Calls Tryd.prog 7 #[.int .i64 a, .int .i64 b, .int .i64 c] w fun e w' => e = .returned (.bool true) ∧ Below w.heap.size w w' := numbers_walk a b c w ht (i64_wf ha) (i64_wf hb) (i64_wf hc)
end Go.Proofs.YtkflhfdpdgnbfaaDoor
