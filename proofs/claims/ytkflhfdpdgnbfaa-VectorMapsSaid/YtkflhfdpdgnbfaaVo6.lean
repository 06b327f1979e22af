/- Whether points are a vector: the code's walk; the law's same. -/
import Derived.Test.YtkflhfdpdgnbfaaVo5
import Derived.Test.YtkflhfdpdgnbfaaVn8
namespace Go.Proofs.Ytkflhfdpdgnbfaa
open Go Go.RowKit Go.Sort
set_option linter.unusedVariables false
set_option linter.unusedSimpArgs false
set_option maxRecDepth 100000
theorem below_grow {w w' : World} (n : Nat) (os : Array Obj) (h : w' = grow (w.drewN n) os) : Below w.heap.size w w' := by
  subst h; exact Grew.below ⟨n, os, rfl⟩
theorem grown_of' {P : Program} {f : FuncId} {args : Array Value} {w : World} {n : Nat} {os : Array Obj} {v : Value}
    (h : Calls P f args (grow (w.drewN n) os) fun e w' => e = .returned v ∧ Grew (grow (w.drewN n) os) w') : Calls P f args (grow (w.drewN n) os) fun e w'' => e = .returned v ∧ ∃ p : GrownBy, w'' = grow (w.drewN p.n) p.os :=
  Calls.grown_of (h.mono fun _ _ ⟨he, q, os', hq⟩ => ⟨he, q, os', hq⟩)
set_option maxHeartbeats 1000000 in
theorem vright_any (v : Value) (ps : List Pt) (w : World) (h : VS w v ps) :
    Calls Try.prog 12 #[v] w fun e w' => e = .returned (.bool (vrightL ps)) ∧ Below w.heap.size w w' := by
  obtain ⟨a, cap, rfl, hlen, hc⟩ := h.split
  have HC := Lib.hid hc
  clear hc h
  have mixed : Try.prog.follows .mixedOrders = true := by kernel_rfl
  go_enter Try.func12, Try.ntmps12
  go_wp2_with fail
  go_loopw [7] (fun i wr => ∃ (k : Nat), k ≤ ps.length ∧ i = .int .i64 k ∧ Hid (∀ j (hj : j < ps.length), j < k → rightL ps[j].1 = true ∧ (0 < j → cmpL (ps[j - 1]'(by omega)).1 ps[j].1 < 0)) ∧ Hid (Below w.heap.size w wr)) (fun i _ => ps.length - (intOf i).toNat)
  case atStart => exact ⟨0, Nat.zero_le _, rfl, fun j _ hj => absurd hj (Nat.not_lt_zero _), Below.refl _ _⟩
  case round =>
    obtain ⟨k, hk, rfl, HV, HB⟩ := hrel
    have hBz := HB.out.size
    have h00 : (0 : Int) ≤ (k : Int) := by omega
    by_cases hlt : k < ps.length
    · have hltz : (k : Int) < (ps.length : Int) := by omega
      obtain ⟨b, off, lv, rfl, k0, k1, hsl⟩ := HC.out k hlt
      have p0 := cell_below HB.out (Nat.le_refl _) k0
      have p1 := cell_below HB.out (Nat.le_refl _) k1
      have hslr := hsl.below HB.out (Nat.le_refl _)
      obtain ⟨a2, n2, c2, rfl⟩ : ∃ a2 n2 c2, lv = .slice a2 n2 c2 := by
        obtain ⟨a2, c2, e, -⟩ := hsl
        exact ⟨a2, _, c2, e⟩
      obtain ⟨x, hx⟩ : ∃ x, x = ps[k].2 := ⟨_, rfl⟩
      rw [← hx] at p1
      have HSR := Lib.hid hslr
      obtain ⟨rk, hrk⟩ : ∃ r, r = rightL ps[k].1 := ⟨_, rfl⟩
      clear hsl hslr k0 k1 hx
      obtain ⟨w1, hw1⟩ : ∃ w1, w1 = wr.alloc (.cells #[.slice a2 n2 c2, .float .f64 x] 35) := ⟨_, rfl⟩
      have q0 : w1.cell? ⟨wr.heap.size, 0, none⟩ = some (.slice a2 n2 c2) := by rw [hw1]; simp
      have hz1 : w1.heap.size = wr.heap.size + 1 := by rw [hw1]; simp
      have hb1 : Below wr.heap.size wr w1 := by rw [hw1]; exact (Below.refl _ _).alloc (Nat.le_refl _) _
      have hsl1 := HSR.out.below hb1 (Nat.le_refl _)
      have gb : ∀ n os, Below w1.heap.size w1 (grow (w1.drewN n) os) := fun n os => below_grow n os rfl
      have g0 : ∀ n os, (grow (w1.drewN n) os).cell? ⟨wr.heap.size, 0, none⟩ = some (.slice a2 n2 c2) := fun n os => cell_grown (by simp [hz1]) q0 n os
      have HFR := Lib.hid (fun n os => right_any (.slice a2 n2 c2) ps[k].1 (grow (w1.drewN n) os) (hsl1.below (gb n os) (Nat.le_refl _)))
      rw [← hrk] at HFR
      have HB1 := Lib.hid (HB.out.trans (hb1.mono hBz))
      have hzz : w.heap.size ≤ w1.heap.size := by omega
      have HW1 := Lib.hid hw1
      have HSL1 := Lib.hid hsl1
      clear hw1 q0 hb1 hsl1 hz1
      cases rk with
      | false =>
        have HF := Lib.hid (vright_no hlt (.inl hrk.symm))
        clear hrk
        go_wp2_with fail
        rw [← HW1.out]
        refine wp_region_quiet_grown mixed (by kernel_rfl) ?_
        repeat (go_big_quiet_step (first | (go_at_call 27; with_reducible refine grown_of' (HFR.out _ _))))
        refine wpQuiet_nil ?_
        intro _ hw'
        obtain ⟨⟨nq, osq⟩, hw''⟩ := hw'
        subst hw''
        go_wp2_with fail
        go_ret
        exact ⟨by rw [HF.out] <;> rfl, HB1.out.trans ((gb _ _).mono hzz)⟩
      | true =>
        have HRK := Lib.hid hrk.symm
        clear hrk
        by_cases hk0 : k = 0
        · have HK0 := Lib.hid hk0
          have hkz : ¬ (0 : Int) < (k : Int) := by omega
          clear hk0
          go_wp2_with fail
          rw [← HW1.out]
          have hk0 := HK0.out
          have hkb : decide ((0 : Int) < (k : Int)) = false := decide_eq_false (by omega)
          have hkn : decide (0 < k) = false := decide_eq_false (by omega)
          clear hkz hk0
          refine wp_region_quiet_grown mixed (by kernel_rfl) ?_
          repeat (go_big_quiet_step (first | (go_at_call 27; with_reducible refine grown_of' (HFR.out _ _))))
          refine wpQuiet_nil ?_
          intro _ hw'
          obtain ⟨⟨nq, osq⟩, hw''⟩ := hw'
          subst hw''
          go_wp2_with fail
          go_roundw
          case rel => exact ⟨k + 1, by omega, by go_num, (fun j hj hj1 => by
            by_cases hjk : j = k
            · subst hjk; exact ⟨HRK.out, fun h => absurd h (by have := HK0.out; omega)⟩
            · exact HV.out j hj (by omega)), HB1.out.trans ((gb _ _).mono hzz)⟩
          case measure => simp [intOf]; omega
        · have hkz : (0 : Int) < (k : Int) := by omega
          have hkb : decide ((0 : Int) < (k : Int)) = true := decide_eq_true hkz
          have hkn : decide (0 < k) = true := decide_eq_true (by omega)
          obtain ⟨m, hmk⟩ : ∃ m, k = m + 1 := ⟨k - 1, by omega⟩
          have hm1 : m < ps.length := by omega
          obtain ⟨b', off', lv', hbb, k0', k1', hsl'⟩ := HC.out m hm1
          injection hbb with hbb
          injection hbb with hbb1 hbb2
          subst hbb1 hbb2
          have hb01 : Below wr.heap.size wr w1 := by rw [HW1.out]; exact (Below.refl _ _).alloc (Nat.le_refl _) _
          have r0 : w1.cell? ⟨b, off + m * 2, none⟩ = some lv' := cell_below hb01 (Nat.le_refl _) (cell_below HB.out (Nat.le_refl _) k0')
          have hsl1' : Sl lenc w1 lv' ps[m].1 := (hsl'.below HB.out (Nat.le_refl _)).below hb01 (Nat.le_refl _)
          have gr0 : ∀ n os, (grow (w1.drewN n) os).cell? ⟨b, off + m * 2, none⟩ = some lv' := fun n os => cell_grown (World.block_lt_of_cell? w1 _ r0) r0 n os
          obtain ⟨cc, hcc⟩ : ∃ c, c = cmpL ps[m].1 ps[k].1 := ⟨_, rfl⟩
          have HCP := Lib.hid (fun n os => compare_any lv' (.slice a2 n2 c2) ps[m].1 ps[k].1 (grow (w1.drewN n) os) (hsl1'.below (gb n os) (Nat.le_refl _)) (HSL1.out.below (gb n os) (Nat.le_refl _)))
          rw [← hcc] at HCP
          have hmz0 : (0 : Int) ≤ (m : Int) := by omega
          have hmz : (m : Int) < (ps.length : Int) := by omega
          have hw : IntKind.i64.wrap ((k : Int) - 1) = (m : Int) := by rw [IntKind.wrap_i64] <;> omega
          have HCC := Lib.hid hcc
          have HMK := Lib.hid hmk
          clear hcc hmk hk0 hsl' hb01 r0 hsl1' k0' k1'
          by_cases hneg : cc < 0
          · have HN := Lib.hid hneg
            go_wp2_with fail
            rw [← HW1.out]
            have hcb : decide ((0 : Int) ≤ cc) = false := decide_eq_false (by have := HN.out; omega)
            clear hneg
            refine wp_region_quiet_grown mixed (by kernel_rfl) ?_
            repeat (go_big_quiet_step (first | (go_at_call 27; with_reducible refine grown_of' (HFR.out _ _)) | (go_at_call 32; with_reducible refine grown_of' (HCP.out _ _))))
            refine wpQuiet_nil ?_
            intro _ hw'
            obtain ⟨⟨nq, osq⟩, hw''⟩ := hw'
            subst hw''
            go_wp2_with fail
            go_roundw
            case rel => exact ⟨k + 1, by omega, by go_num, (fun j hj hj1 => by
              by_cases hjk : j = k
              · subst hjk
                refine ⟨HRK.out, fun _ => ?_⟩
                have h1 := HN.out
                rw [HCC.out] at h1
                have h2 := HMK.out
                subst h2
                exact h1
              · exact HV.out j hj (by omega)), HB1.out.trans ((gb _ _).mono hzz)⟩
            case measure => simp [intOf]; omega
          · have HF := Lib.hid (show vrightL ps = false from vright_no hlt (.inr ⟨by omega, by
              rw [HCC.out] at hneg
              have h2 := HMK.out
              subst h2
              exact hneg⟩))
            go_wp2_with fail
            rw [← HW1.out]
            have hcb : decide ((0 : Int) ≤ cc) = true := decide_eq_true (by omega)
            clear hneg
            refine wp_region_quiet_grown mixed (by kernel_rfl) ?_
            repeat (go_big_quiet_step (first | (go_at_call 27; with_reducible refine grown_of' (HFR.out _ _)) | (go_at_call 32; with_reducible refine grown_of' (HCP.out _ _))))
            refine wpQuiet_nil ?_
            intro _ hw'
            obtain ⟨⟨nq, osq⟩, hw''⟩ := hw'
            subst hw''
            go_wp2_with fail
            go_ret
            exact ⟨by rw [HF.out] <;> rfl, HB1.out.trans ((gb _ _).mono hzz)⟩
    · have hltz : ¬ (k : Int) < (ps.length : Int) := by omega
      have HF := Lib.hid (show vrightL ps = true from vright_yes fun j hj => HV.out j hj (by omega))
      go_wp2_with fail
      go_ret
      exact ⟨by rw [HF.out] <;> rfl, HB.out⟩
theorem lsame_any (v u : Value) (ps qs : List Pt) (e f : Int) (w : World) (h : VS w v ps) (h' : VS w u qs) :
    Calls Try.prog 11 #[v, .int .i64 e, u, .int .i64 f] w fun en w' => en = .returned (.bool (vsameL ps qs && e == f)) ∧ ∃ n, w' = w.drewN n := by
  have HS := Lib.hid (rvsame_any v u ps qs w h h')
  clear h h'
  obtain ⟨s, hs⟩ : ∃ s, s = vsameL ps qs := ⟨_, rfl⟩
  rw [← hs] at HS ⊢
  clear hs
  cases s with
  | true =>
    go_enter Try.func11, Try.ntmps11
    go_wp2_with fail
    refine HS.out.mono ?_
    rintro en w1 ⟨rfl, n, rfl⟩
    go_wp2_with fail
    go_ret
    exact ⟨rfl, n, rfl⟩
  | false =>
    go_enter Try.func11, Try.ntmps11
    go_wp2_with fail
    refine HS.out.mono ?_
    rintro en w1 ⟨rfl, n, rfl⟩
    go_wp2_with fail
    go_ret
    exact ⟨rfl, n, rfl⟩
end Go.Proofs.Ytkflhfdpdgnbfaa
