/- vector.Same; the law's Right. -/
import Derived.Test.YtkflhfdpdgnbfaaVl0
namespace Go.Proofs.Ytkflhfdpdgnbfaa
open Go Go.RowKit
set_option linter.unusedVariables false
set_option linter.unusedSimpArgs false
set_option maxRecDepth 100000
set_option maxHeartbeats 2000000 in
theorem same1_any (v1 v2 : Value) (b1 b2 : Nat) (l1 l2 : List Lb) (w : World) (h1 : Sl lenc w v1 l1) (h2 : Sl lenc w v2 l2) :
    Calls Try.prog 43 #[.agg #[v1, .float .f64 b1], .agg #[v2, .float .f64 b2]] w fun e w' => e = .returned (.bool (cmpL l1 l2 == 0 && fsame b1 b2)) ∧ Below w.heap.size w w' := by
  have HC := Lib.hid (fun w' (hb : Below w.heap.size w w') => compare_any v1 v2 l1 l2 w' (h1.below hb (Nat.le_refl _)) (h2.below hb (Nat.le_refl _)))
  obtain ⟨a1, cap1, rfl, -, -⟩ := h1
  obtain ⟨a2, cap2, rfl, -, -⟩ := h2
  obtain ⟨n1, hn1⟩ : ∃ n, n = l1.length := ⟨_, rfl⟩
  obtain ⟨n2, hn2⟩ : ∃ n, n = l2.length := ⟨_, rfl⟩
  rw [← hn1, ← hn2] at HC ⊢
  clear hn1 hn2
  obtain ⟨c, hc⟩ : ∃ c, c = cmpL l1 l2 := ⟨_, rfl⟩
  rw [← hc] at HC ⊢
  clear hc
  by_cases h0 : c = 0
  case' pos => have h0b : (c == 0) = true := by simpa using h0
  case' neg => have h0b : (c == 0) = false := by simpa using h0
  all_goals
    rw [h0b]
    go_enter Try.func43, Try.ntmps43
    go_wp2_with fail
    refine (HC.out _ (((Below.refl _ _).alloc (Nat.le_refl _) _).alloc (by simp) _)).mono ?_
    rintro e w1 ⟨rfl, hg⟩
    have q1 : w1.cell? ⟨w.heap.size, 1, none⟩ = some (.float .f64 b1) := cell_below hg.below (Nat.le_refl _) (by simp)
    have q2 : w1.cell? ⟨w.heap.size + 1, 1, none⟩ = some (.float .f64 b2) := cell_below hg.below (Nat.le_refl _) (by simp)
    have HG := Lib.hid (show Below w.heap.size w w1 from (((Below.refl _ _).alloc (Nat.le_refl _) _).alloc (by simp) _).trans (hg.below.mono (by simp; omega)))
    clear hg
    go_wp2_with (go_at_call 44; refine (same_any _ _ _).mono ?_; rintro e w2 ⟨rfl, rfl⟩)
    go_ret
    exact ⟨rfl, HG.out⟩
set_option maxHeartbeats 4000000 in
theorem vequal_any (v u : Value) (ps qs : List Pt) (w : World) (h : VS w v ps) (h' : VS w u qs) :
    Calls Try.prog 42 #[v, u, .func (.func 43) #[] #[]] w fun e w' => e = .returned (.bool (vsameL ps qs)) ∧ Below w.heap.size w w' := by
  obtain ⟨a, cap, rfl, hlen, hc⟩ := h.split
  obtain ⟨a2, cap2, rfl, hlen2, hc2⟩ := h'.split
  have HC := Lib.hid hc
  have HC2 := Lib.hid hc2
  clear hc hc2 h h'
  by_cases hl : ps.length = qs.length
  · have HL := Lib.hid hl
    obtain ⟨N, hN⟩ : ∃ N, N = ps.length := ⟨_, rfl⟩
    have hN2 : N = qs.length := hN.trans hl
    have HN := Lib.hid hN
    have HN2 := Lib.hid hN2
    rw [← hN] at hlen ⊢
    rw [← hN2] at hlen2 ⊢
    clear hl hN hN2
    go_enter Try.func42, Try.ntmps42
    go_wp2_with fail
    go_loopw [17] (fun i wr => ∃ (k : Nat), k ≤ N ∧ i = .int .i64 k ∧ Hid (∀ j (hj : j < ps.length) (hj2 : j < qs.length), j < k → cmpL ps[j].1 qs[j].1 = 0 ∧ fsame ps[j].2 qs[j].2 = true) ∧ Hid (Below w.heap.size w wr)) (fun i _ => N - (intOf i).toNat)
    case atStart => exact ⟨0, Nat.zero_le _, rfl, fun j _ _ hj => absurd hj (Nat.not_lt_zero _), Below.refl _ _⟩
    case round =>
      obtain ⟨k, hk, rfl, HV, HB⟩ := hrel
      have hBz := HB.out.size
      have h00 : (0 : Int) ≤ (k : Int) := by omega
      by_cases hlt : k < N
      · have hltz : (k : Int) < (N : Int) := by omega
        have hp : k < ps.length := by rw [← HN.out]; exact hlt
        have hq : k < qs.length := by rw [← HN2.out]; exact hlt
        obtain ⟨b, off, lv, rfl, k0, k1, hsl⟩ := HC.out k hp
        obtain ⟨b2, off2, lv2, rfl, k2, k3, hsl2⟩ := HC2.out k hq
        have p0 := cell_below HB.out (Nat.le_refl _) k0
        have p1 := cell_below HB.out (Nat.le_refl _) k1
        have p2 := cell_below HB.out (Nat.le_refl _) k2
        have p3 := cell_below HB.out (Nat.le_refl _) k3
        obtain ⟨x, hx⟩ : ∃ x, x = ps[k].2 := ⟨_, rfl⟩
        obtain ⟨y, hy⟩ : ∃ y, y = qs[k].2 := ⟨_, rfl⟩
        have HS1 := Lib.hid (fun w' (hb : Below w.heap.size w w') => same1_any lv lv2 ps[k].2 qs[k].2 ps[k].1 qs[k].1 w' (hsl.below hb (Nat.le_refl _)) (hsl2.below hb (Nat.le_refl _)))
        obtain ⟨a3, n3, c3, rfl⟩ : ∃ a n c, lv = .slice a n c := by
          obtain ⟨a2, c2, e, -⟩ := hsl
          exact ⟨a2, _, c2, e⟩
        obtain ⟨a4, n4, c4, rfl⟩ : ∃ a n c, lv2 = .slice a n c := by
          obtain ⟨a2, c2, e, -⟩ := hsl2
          exact ⟨a2, _, c2, e⟩
        have hlt2 : b2 < wr.heap.size := World.block_lt_of_cell? wr _ p2
        have hne : b2 ≠ wr.heap.size := by omega
        obtain ⟨r, hr⟩ : ∃ r, r = (cmpL ps[k].1 qs[k].1 == 0 && fsame ps[k].2 qs[k].2) := ⟨_, rfl⟩
        rw [← hr, ← hx, ← hy] at HS1
        rw [← hx] at p1
        rw [← hy] at p3
        have HRR := Lib.hid hr
        clear hsl hsl2 k0 k1 k2 k3 hx hy hr
        have HB2 := Lib.hid (show ∀ o1 o2, Below w.heap.size w ((wr.alloc o1).alloc o2) from fun o1 o2 => (HB.out.alloc hBz _).alloc (by simp; omega) _)
        cases r with
        | false =>
          have HF := Lib.hid (vsame_no (ps := ps) (qs := qs) fun h => by
            have h1 := h.2 k hp hq
            have h2 := HRR.out
            rw [h1.1, h1.2] at h2
            cases h2)
          go_wp2_with fail
          refine (HS1.out _ (HB2.out _ _)).mono ?_
          rintro e w3 ⟨rfl, hb3⟩
          have HB3 := Lib.hid ((HB2.out _ _).trans (hb3.mono (by simp; omega)))
          clear hb3
          go_wp2_with fail
          go_ret
          exact ⟨by rw [HF.out] <;> rfl, HB3.out⟩
        | true =>
          go_wp2_with fail
          refine (HS1.out _ (HB2.out _ _)).mono ?_
          rintro e w3 ⟨rfl, hb3⟩
          have HB3 := Lib.hid ((HB2.out _ _).trans (hb3.mono (by simp; omega)))
          clear hb3
          go_wp2_with fail
          go_roundw
          case rel => exact ⟨k + 1, by omega, by go_num, (fun j hj hj2 hj1 => by
            by_cases hjk : j = k
            · subst hjk
              have h2 := HRR.out.symm
              rw [Bool.and_eq_true] at h2
              exact ⟨by simpa using h2.1, h2.2⟩
            · exact HV.out j hj hj2 (by omega)), HB3.out⟩
          case measure => simp [intOf]; omega
      · have hltz : ¬ (k : Int) < (N : Int) := by omega
        have HF := Lib.hid (show vsameL ps qs = true from vsame_yes ⟨HL.out, fun j hj hj2 => HV.out j hj hj2 (by have := HN.out; omega)⟩)
        go_wp2_with fail
        go_ret
        exact ⟨by rw [HF.out] <;> rfl, HB.out⟩
  · have HF := Lib.hid (vsame_no (ps := ps) (qs := qs) fun h => hl h.1)
    have hz : ¬ (ps.length : Int) = (qs.length : Int) := by omega
    have hzb : ((ps.length : Int) == (qs.length : Int)) = false := by simpa using hz
    have hzc : ((ps.length : Int) != (qs.length : Int)) = true := by simpa using hz
    go_enter Try.func42, Try.ntmps42
    go_wp2_with fail
    go_ret
    exact ⟨by rw [HF.out] <;> rfl, Below.refl _ _⟩
theorem csame_any (v u : Value) (ps qs : List Pt) (w : World) (h : VS w v ps) (h' : VS w u qs) :
    Calls Try.prog 16 #[v, u] w fun e w' => e = .returned (.bool (vsameL ps qs)) ∧ Below w.heap.size w w' := by
  have HE := Lib.hid (vequal_any v u ps qs w h h')
  clear h h'
  go_enter Try.func16, Try.ntmps16
  go_wp2_with fail
  refine HE.out.mono ?_
  rintro e w1 ⟨rfl, hb⟩
  have HB := Lib.hid hb
  clear hb
  go_wp2_with fail
  go_ret
  exact ⟨rfl, HB.out⟩
theorem lright_any (v : Value) (ps : List Pt) (w : World) (h : VS w v ps) :
    Calls Try.prog 14 #[v] w fun e w' => e = .returned (.bool (vfewL ps && vrightL ps)) ∧ ∃ n, w' = w.drewN n := by
  have HF := Lib.hid (vfew_any v ps w h)
  have HR := Lib.hid (rvright_any v ps w h)
  clear h
  obtain ⟨f, hf⟩ : ∃ f, f = vfewL ps := ⟨_, rfl⟩
  rw [← hf] at HF ⊢
  clear hf
  cases f with
  | false =>
    go_enter Try.func14, Try.ntmps14
    go_wp2_with fail
    refine HF.out.mono ?_
    rintro e w1 ⟨rfl, rfl⟩
    go_wp2_with fail
    go_ret
    exact ⟨rfl, 0, rfl⟩
  | true =>
    go_enter Try.func14, Try.ntmps14
    go_wp2_with fail
    refine HF.out.mono ?_
    rintro e w1 ⟨rfl, rfl⟩
    go_wp2_with fail
    refine HR.out.mono ?_
    rintro e w2 ⟨rfl, n, rfl⟩
    go_wp2_with fail
    go_ret
    exact ⟨rfl, n, rfl⟩
end Go.Proofs.Ytkflhfdpdgnbfaa
