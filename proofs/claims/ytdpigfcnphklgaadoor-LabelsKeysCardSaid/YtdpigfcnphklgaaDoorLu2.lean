/- What stands behind a stroke: the walks. -/
import Derived.Test.YtdpigfcnphklgaaDoorLu1
namespace Go.Proofs.YtdpigfcnphklgaaDoor
open Go Go.RowKit
set_option linter.unusedVariables false
set_option linter.unusedSimpArgs false
set_option maxRecDepth 100000
theorem rdigit16_any (c : Int) (w : World) (h0 : 0 ≤ c) (h1 : c ≤ 255) : Calls Tryd.prog 67 #[.int .u8 c] w fun e w' => e = .returned (.int .i64 (hexV c.toNat)) ∧ w = w' := by
  have hct : ((c.toNat : Nat) : Int) = c := by omega
  by_cases a1 : 48 ≤ c ∧ c ≤ 57
  · have HV := Lib.hid (show hexV c.toNat = c - 48 by rw [hexV, if_pos (by omega), hct])
    obtain ⟨b1, b2⟩ := a1
    clear hct
    go_enter Tryd.func67, Tryd.ntmps67
    go_wp2_with fail
    go_ret
    exact ⟨ret_i (by rw [HV.out]), rfl⟩
  · by_cases a2 : 97 ≤ c ∧ c ≤ 102
    · have HV := Lib.hid (show hexV c.toNat = c - 97 + 10 by rw [hexV, if_neg (by omega), if_pos (by omega), hct])
      obtain ⟨b1, b2⟩ := a2
      have b3 : ¬ c ≤ 57 := by omega
      have b4 : 48 ≤ c := by omega
      clear hct a1
      go_enter Tryd.func67, Tryd.ntmps67
      go_wp2_with fail
      go_ret
      exact ⟨ret_i (by rw [HV.out]), rfl⟩
    · have HV := Lib.hid (show hexV c.toNat = -1 by rw [hexV, if_neg (by omega), if_neg (by omega)])
      clear hct
      by_cases b1 : 48 ≤ c <;> by_cases b2 : c ≤ 57 <;> by_cases b3 : 97 ≤ c <;> by_cases b4 : c ≤ 102
      all_goals first | (exfalso; omega) | skip
      all_goals
        clear a1 a2
        go_enter Tryd.func67, Tryd.ntmps67
        go_wp2_with fail
        go_ret
        exact ⟨ret_i (by rw [HV.out]), rfl⟩
theorem idx_fin : ∀ n : Fin 256, Lib.indexByte hexD ((n.1 : Nat)).toUInt8 = hexV n.1 := by decide +kernel
theorem idx16_any (c : Int) (w : World) (h0 : 0 ≤ c) (h1 : c ≤ 255) : Calls Tryd.prog 94 #[.string ⟨#[48, 49, 50, 51, 52, 53, 54, 55, 56, 57, 97, 98, 99, 100, 101, 102]⟩, .int .u8 c] w fun e w' => e = .returned (.int .i64 (hexV c.toNat)) ∧ w = w' := by
  refine (Tryd.strings_IndexByte _ c w).mono ?_
  rintro e w' ⟨rfl, rfl⟩
  refine ⟨ret_i ?_, rfl⟩
  have := idx_fin ⟨c.toNat, by omega⟩
  exact this
theorem hexV_bd (c : Nat) : -1 ≤ hexV c ∧ hexV c ≤ 15 := by
  unfold hexV
  split
  · omega
  · split <;> omega
theorem or_fin : ∀ a b : Fin 16, bits .or .i64 ((a.1 : Nat) * 16 : Int) (b.1 : Nat) = 16 * ((a.1 : Nat) : Int) + (b.1 : Nat) := by decide +kernel
theorem or_bits {a b : Int} (ha : 0 ≤ a) (ha2 : a ≤ 15) (hb : 0 ≤ b) (hb2 : b ≤ 15) : bits .or .i64 (a * 16) b = 16 * a + b := by
  have h := or_fin ⟨a.toNat, by omega⟩ ⟨b.toNat, by omega⟩
  simp only at h
  rw [show ((a.toNat : Nat) : Int) = a by omega, show ((b.toNat : Nat) : Int) = b by omega] at h
  exact h
def EscR (l : List UInt8) (e : Ending) : Prop := match escB l with
  | none => e = .returned (.tuple #[.int .u8 0, .int .i64 0])
  | some (x, n) => e = .returned (.tuple #[.int .u8 x.toNat, .int .i64 n])
theorem getD_at (s : ByteArray) (i : Nat) (h : i < s.size) : s.data.toList.getD i 0 = s[i] := by
  rw [List.getD_eq_getElem?_getD, List.getElem?_eq_getElem (by simpa using h)]
  rfl
theorem escR_none {l : List UInt8} (h : escB l = none) : EscR l (.returned (.tuple #[.int .u8 0, .int .i64 0])) := by unfold EscR; rw [h]
theorem escR_some {l : List UInt8} {x : UInt8} {n : Nat} {c m : Int} (h : escB l = some (x, n)) (hc : c = (x.toNat : Int)) (hm : m = (n : Int)) : EscR l (.returned (.tuple #[.int .u8 c, .int .i64 m])) := by unfold EscR; rw [h, hc, hm]
set_option maxHeartbeats 4000000 in
theorem escaped_any (s : ByteArray) (w : World) : Calls Tryd.prog 66 #[.string s] w fun e w' => EscR s.data.toList e ∧ ∃ n, w' = w.drewN n := by
  have hl : s.data.toList.length = s.size := by simp
  by_cases h2 : s.size < 2
  · have HE := Lib.hid (escR_none (show escB s.data.toList = none by rw [escB, if_pos (by omega)]))
    have h2z : (s.size : Int) < 2 := by omega
    clear hl h2
    go_enter Tryd.func66, Tryd.ntmps66
    go_wp2_with fail
    go_ret2
    exact ⟨HE.out, 0, rfl⟩
  · have h2z : ¬ (s.size : Int) < 2 := by omega
    have h2y : (1 : Int) < (s.size : Int) := by omega
    have h1s : 1 < s.size := by omega
    obtain ⟨d, hd⟩ : ∃ d : Int, (s[1].toNat : Int) = d := ⟨_, rfl⟩
    have hd0 : 0 ≤ d := by omega
    have hd1 : d ≤ 255 := by have := s[1].toNat_lt; omega
    have g1 : s.data.toList.getD 1 0 = s[1] := getD_at s 1 h1s
    by_cases h34 : d = 34 ∨ d = 92
    · have HE := Lib.hid (show EscR s.data.toList (.returned (.tuple #[.int .u8 d, .int .i64 2])) from
        escR_some (x := s[1]) (n := 2) (by rw [escB, if_neg (by omega), g1, if_pos (by rcases h34 with h | h; exact .inl (UInt8.toNat_inj.1 (by show s[1].toNat = 34; omega)); exact .inr (UInt8.toNat_inj.1 (by show s[1].toNat = 92; omega)))]) hd.symm rfl)
      by_cases h34c : d = 34
      case' pos => have h34a : (d == 34) = true := by simpa using h34c
      case' neg =>
        have h34a : (d == 34) = false := by simpa using h34c
        have h34b : (d == 92) = true := by simp; omega
      all_goals
        clear hl h2 g1 h34 h34c
        go_enter Tryd.func66, Tryd.ntmps66
        go_wp2_with fail
        go_ret2
        exact ⟨HE.out, 0, rfl⟩
    · have h34a : (d == 34) = false := by simp; omega
      have h34b : (d == 92) = false := by simp; omega
      have hne : ¬ (s[1] = 34 ∨ s[1] = 92) := by
        rintro (h | h) <;> (rw [h] at hd; apply h34)
        · exact .inl hd.symm
        · exact .inr hd.symm
      by_cases h4 : s.size < 4
      · have HE := Lib.hid (escR_none (show escB s.data.toList = none by rw [escB, if_neg (by omega), g1, if_neg hne, if_pos (.inl (by omega))]))
        have h4z : (s.size : Int) < 4 := by omega
        have h4b : decide ((s.size : Int) < 4) = true := decide_eq_true h4z
        clear hl h2 g1 h34 hne h4
        go_enter Tryd.func66, Tryd.ntmps66
        go_wp2_with fail
        go_ret2
        exact ⟨HE.out, 0, rfl⟩
      · have h4z : ¬ (s.size : Int) < 4 := by omega
        have h4b : decide ((s.size : Int) < 4) = false := decide_eq_false h4z
        by_cases h120 : d = 120
        · have h120a : (d == 120) = true := by simpa using h120
          have hs1 : s[1] = 120 := UInt8.toNat_inj.1 (by show s[1].toNat = 120; omega)
          have h3s : 3 < s.size := by omega
          have g2 : s.data.toList.getD 2 0 = s[2] := getD_at s 2 (by omega)
          have g3 : s.data.toList.getD 3 0 = s[3] := getD_at s 3 h3s
          obtain ⟨p, hp⟩ : ∃ p : Int, (s[2].toNat : Int) = p := ⟨_, rfl⟩
          obtain ⟨q, hq⟩ : ∃ q : Int, (s[3].toNat : Int) = q := ⟨_, rfl⟩
          have hp0 : 0 ≤ p := by omega
          have hp1 : p ≤ 255 := by have := s[2].toNat_lt; omega
          have hq0 : 0 ≤ q := by omega
          have hq1 : q ≤ 255 := by have := s[3].toNat_lt; omega
          have hpn : p.toNat = s[2].toNat := by omega
          have hqn : q.toNat = s[3].toNat := by omega
          have HX := Lib.hid (fun w => idx16_any p w hp0 hp1)
          have HY := Lib.hid (fun w => idx16_any q w hq0 hq1)
          have bx := hexV_bd p.toNat
          have by' := hexV_bd q.toNat
          have HES : Hid (escB s.data.toList = if hexV p.toNat < 0 ∨ hexV q.toNat < 0 ∨ plainI (16 * hexV p.toNat + hexV q.toNat) = true then none else some (UInt8.ofNat (16 * hexV p.toNat + hexV q.toNat).toNat, 4)) := by
            show _ = _
            rw [escB, if_neg (by omega), g1, if_neg hne, if_neg (by rw [hs1]; intro h; rcases h with h | h; omega; exact h rfl), g2, g3, ← hpn, ← hqn]
          generalize hexV p.toNat = x at HX HES bx
          generalize hexV q.toNat = y at HY HES by'
          obtain ⟨bx1, bx2⟩ := bx
          obtain ⟨by1, by2⟩ := by'
          have h2t : (2 : Int) < (s.size : Int) := by omega
          have h3t : (3 : Int) < (s.size : Int) := by omega
          clear hl g1 g2 g3 h34 hne hs1 hpn hqn
          by_cases hx : x < 0
          · have hxb : decide (x < 0) = true := decide_eq_true hx
            have HE := Lib.hid (escR_none (show escB s.data.toList = none by rw [HES.out, if_pos (.inl hx)]))
            go_enter Tryd.func66, Tryd.ntmps66
            go_wp2_with fail
            go_quiet ((go_at_call 94; first | refine qs (HX.out _) | refine quiet_same (HX.out _) | refine qs (HY.out _) | refine quiet_same (HY.out _)))
            go_wp2_with fail
            go_ret2
            exact ⟨HE.out, _, rfl⟩
          · have hxb : decide (x < 0) = false := decide_eq_false hx
            by_cases hy : y < 0
            · have hyb : decide (y < 0) = true := decide_eq_true hy
              have HE := Lib.hid (escR_none (show escB s.data.toList = none by rw [HES.out, if_pos (.inr (.inl hy))]))
              go_enter Tryd.func66, Tryd.ntmps66
              go_wp2_with fail
              go_quiet ((go_at_call 94; first | refine qs (HX.out _) | refine quiet_same (HX.out _) | refine qs (HY.out _) | refine quiet_same (HY.out _)))
              go_wp2_with fail
              go_ret2
              exact ⟨HE.out, _, rfl⟩
            · have hyb : decide (y < 0) = false := decide_eq_false hy
              have hor := or_bits (a := x) (b := y) (by omega) bx2 (by omega) by2
              go_enter Tryd.func66, Tryd.ntmps66
              go_wp2_with fail
              go_quiet ((go_at_call 94; first | refine qs (HX.out _) | refine quiet_same (HX.out _) | refine qs (HY.out _) | refine quiet_same (HY.out _)))
              go_wp2_with fail
              refine (plain_any _ _).mono ?_
              rintro e w1 ⟨rfl, rfl⟩
              by_cases hpl : plainI (16 * x + y) = true
              · rw [hpl]
                have HE := Lib.hid (escR_none (show escB s.data.toList = none by rw [HES.out, if_pos (.inr (.inr hpl))]))
                clear hpl
                go_wp2_with fail
                go_ret2
                exact ⟨HE.out, _, rfl⟩
              · have hpl2 : plainI (16 * x + y) = false := by simpa using hpl
                rw [hpl2]
                have HE := Lib.hid (show EscR s.data.toList (.returned (.tuple #[.int .u8 (16 * x + y), .int .i64 4])) from
                  escR_some (x := UInt8.ofNat (16 * x + y).toNat) (n := 4) (by rw [HES.out, if_neg (by intro h; rcases h with h | h | h; omega; omega; exact hpl h)]) (by rw [UInt8.toNat_ofNat']; omega) rfl)
                clear hpl hpl2
                go_wp2_with fail
                go_ret2
                exact ⟨HE.out, _, rfl⟩
        · have h120a : (d == 120) = false := by simpa using h120
          have HE := Lib.hid (escR_none (show escB s.data.toList = none by rw [escB, if_neg (by omega), g1, if_neg hne, if_pos (.inr (fun h => h120 (by rw [h] at hd; exact hd.symm)))]))
          clear hl h2 g1 h34 hne h4 h120
          go_enter Tryd.func66, Tryd.ntmps66
          go_wp2_with fail
          go_ret2
          exact ⟨HE.out, 0, rfl⟩
end Go.Proofs.YtdpigfcnphklgaaDoor
