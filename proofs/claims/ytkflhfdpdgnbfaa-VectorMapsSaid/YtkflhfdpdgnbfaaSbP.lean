/- The library's stable sort at elements of k cells: blocks, then merges. -/
import Derived.Test.YtkflhfdpdgnbfaaSiP
namespace Go.Proofs.Ytkflhfdpdgnbfaa
open Go.Shelf Go.RowKit Go.Lib Go.Sort
set_option linter.unusedVariables false
set_option linter.unusedSimpArgs false
set_option maxRecDepth 100000

section
variable {α : Type} [Inhabited α] {enc : α → List Value} {lt : α → α → Bool}
def Blk (lt : α → α → Bool) (s n t0 : Nat) (d : Array α) : Prop := ∀ t, t0 ≤ t → SortedIn lt (s * t) (min (s * t + s) n) d
def Bel (lt : α → α → Bool) (s q : Nat) (d : Array α) : Prop := ∀ t, t < q → SortedIn lt (s * t) (s * t + s) d
theorem bel_step {s q : Nat} {d d' : Array α} (h : Bel lt s q d) (hp : PermIn (s * q) (s * q + s) d d') (hs : SortedIn lt (s * q) (s * q + s) d') : Bel lt s (q + 1) d' := by
  intro t ht
  by_cases hc : t = q
  · subst hc; exact hs
  · have := Nat.mul_le_mul_left s (show t + 1 ≤ q by omega)
    rw [Nat.mul_add, Nat.mul_one] at this
    exact SortedIn.congr (h t (by omega)) fun x h1 h2 => hp.2.1 x (.inl (by omega))
theorem bel_end {s q n : Nat} {d d' : Array α} (h : Bel lt s q d) (hn : s * q ≤ n) (hn2 : n < s * q + s) (hp : PermIn (s * q) n d d') (hs : SortedIn lt (s * q) n d') : Blk lt s n 0 d' := by
  intro t _
  rcases Nat.lt_trichotomy t q with hc | hc | hc
  · have := Nat.mul_le_mul_left s (show t + 1 ≤ q by omega)
    rw [Nat.mul_add, Nat.mul_one] at this
    rw [Nat.min_eq_left (by omega)]
    exact SortedIn.congr (h t (by omega)) fun x h1 h2 => hp.2.1 x (.inl (by omega))
  · subst hc
    rw [Nat.min_eq_right (by omega)]
    exact hs
  · have := Nat.mul_le_mul_left s (show q + 1 ≤ t by omega)
    rw [Nat.mul_add, Nat.mul_one] at this
    intro x y h1 h2 h3
    have := Nat.min_le_right (s * t + s) n
    omega
theorem blk_step {s q n : Nat} {d d' : Array α} (h : Blk lt s n (2 * q) d) (hp : PermIn (2 * s * q) (2 * s * q + 2 * s) d d') : Blk lt s n (2 * (q + 1)) d' := by
  intro t ht
  have := Nat.mul_le_mul_left s (show 2 * q + 2 ≤ t by omega)
  rw [Nat.mul_add, ← Nat.mul_assoc, Nat.mul_comm s 2] at this
  exact SortedIn.congr (h t (by omega)) fun x h1 h2 => hp.2.1 x (.inr (by omega))
theorem blk_parts {s q n : Nat} {d : Array α} (h : Blk lt s n (2 * q) d) : SortedIn lt (2 * s * q) (min (2 * s * q + s) n) d ∧ SortedIn lt (2 * s * q + s) (min (2 * s * q + 2 * s) n) d := by
  have h1 := h (2 * q) (Nat.le_refl _)
  have h2 := h (2 * q + 1) (by omega)
  have e1 : s * (2 * q) = 2 * s * q := by rw [← Nat.mul_assoc, Nat.mul_comm s 2]
  have e2 : s * (2 * q + 1) = 2 * s * q + s := by rw [Nat.mul_add, e1, Nat.mul_one]
  rw [e1] at h1
  rw [e2, show 2 * s * q + s + s = 2 * s * q + 2 * s by omega] at h2
  exact ⟨h1, h2⟩

def StA (enc : α → List Value) (k : Nat) (w0 : World) (blk off : Nat) (lt : α → α → Bool) (d : Array α) (iv jv : Value) (wr : World) : Prop := ∃ (a q : Nat) (dk : Array α), iv = .int .i64 a ∧ jv = .int .i64 ((a : Int) + 20) ∧ a = 20 * q ∧ a ≤ d.size ∧ dk.size = d.size ∧ PermIn 0 d.size d dk ∧ Bel lt 20 q dk ∧ SWK enc k w0 blk off dk wr
def StB (enc : α → List Value) (k : Nat) (w0 : World) (blk off : Nat) (lt : α → α → Bool) (d : Array α) (sv : Value) (wr : World) : Prop := ∃ (s : Nat) (dk : Array α), sv = .int .i64 s ∧ 0 < s ∧ s < 4611686018427387904 + 4611686018427387904 ∧ dk.size = d.size ∧ PermIn 0 d.size d dk ∧ Blk lt s d.size 0 dk ∧ SWK enc k w0 blk off dk wr
def StC (enc : α → List Value) (k : Nat) (w0 : World) (blk off : Nat) (lt : α → α → Bool) (s : Nat) (d : Array α) (iv jv : Value) (wr : World) : Prop := ∃ (a q : Nat) (dk : Array α), iv = .int .i64 a ∧ jv = .int .i64 ((a : Int) + 2 * (s : Int)) ∧ a = 2 * s * q ∧ a ≤ d.size ∧ dk.size = d.size ∧ PermIn 0 d.size d dk ∧ Bel lt (2 * s) q dk ∧ Blk lt s d.size (2 * q) dk ∧ SWK enc k w0 blk off dk wr

set_option maxHeartbeats 8000000 in
theorem stable_P (k : Nat) (zE : ∀ w, (Go.sizeOf 35).run Try.prog w = .ok k w) (g : Nat) (cb : Array Value) (eg : ∀ args w, (callFunc g args).run Try.prog w = .ok (.enter g args) w) (cf : α → α → Int) (blk off cap : Nat) (d0 d : Array α) (w0 w : World)
    (R : RowK enc k w0 blk off d0) (hs : d0.size = d.size) (S : SWK enc k w0 blk off d w) (hC : CmpLays Try.prog g cb enc k cf blk off d0.size w0) (hS : SWO (ltOf cf)) (hsz : d.size < 4611686018427387904) :
    Calls Try.prog 58 #[.slice (some ⟨blk, off, none⟩) d.size cap, .int .i64 d.size, .func (.func g) #[] cb] w fun e w' => e = .returned (.tuple #[]) ∧ Merged enc k w0 blk off (ltOf cf) 0 d.size d w' := by
  have S0 : Aside (SWK enc k w0 blk off d w) := S
  have mixed : Try.prog.follows .mixedOrders = true := by kernel_rfl
  have hins : ∀ (a b : Nat) (dk : Array α) (wk : World), dk.size = d.size → SWK enc k w0 blk off dk wk → a ≤ b → b ≤ d.size → Calls Try.prog 77 #[.slice (some ⟨blk, off, none⟩) d.size cap, .int .i64 a, .int .i64 b, .func (.func g) #[] cb] wk fun e w' => e = .returned (.tuple #[]) ∧ Merged enc k w0 blk off (ltOf cf) a b dk w' := by
    intro a b dk wk hz hSk hab hb
    have h := insertion_P k zE g cb eg cf blk off cap a b d0 dk w0 wk R (by omega) hSk hC hS hab (by omega) (by omega)
    rw [hz] at h
    exact h
  have hmrg : ∀ (a m b : Nat) (dk : Array α) (wk : World), dk.size = d.size → SWK enc k w0 blk off dk wk → a < m → m < b → b ≤ d.size → SortedIn (ltOf cf) a m dk → SortedIn (ltOf cf) m b dk → Calls Try.prog 78 #[.slice (some ⟨blk, off, none⟩) d.size cap, .int .i64 a, .int .i64 m, .int .i64 b, .func (.func g) #[] cb] wk fun e w' => e = .returned (.tuple #[]) ∧ Merged enc k w0 blk off (ltOf cf) a b dk w' := by
    intro a m b dk wk hz hSk ham hmb hb h1 h2
    have h := symMerge_P k zE g cb eg cf blk off cap d0 w0 R hC hS (by omega) (b - a) a m b dk wk (Nat.le_refl _) (by omega) hSk ham hmb (by omega) h1 h2
    rw [hz] at h
    exact h
  have HINS := Lib.hid hins
  have HMRG := Lib.hid hmrg
  have HS := Lib.hid hs
  clear S hC hS hs hins hmrg
  go_enter Try.func58, Try.ntmps58
  go_wp2_with fail
  go_loopw [7, 8] (fun iv jv wr => StA enc k w0 blk off (ltOf cf) d iv jv wr) (fun iv jv _ => d.size - (intOf iv).toNat)
  case atStart => exact ⟨0, 0, d, rfl, rfl, rfl, Nat.zero_le _, rfl, permIn_refl _ _ _, fun t ht => absurd ht (Nat.not_lt_zero _), S0.out⟩
  case round =>
    clear S0
    obtain ⟨a, q, dk, rfl, rfl, haq, han, hz, hp, hbl, hSk⟩ := hrel
    have S1 := Lib.hid hSk
    have HP := Lib.hid hp
    have HB := Lib.hid hbl
    have HZ := Lib.hid hz
    have HQ := Lib.hid haq
    clear hSk hp hbl hz haq
    by_cases hlt : a + 20 ≤ d.size
    · have hltz : (a : Int) + 20 ≤ (d.size : Int) := by omega
      have HCALL := Lib.hid (HINS.out a (a + 20) dk wr HZ.out S1.out (by omega) hlt)
      rw [show ((a + 20 : Nat) : Int) = (a : Int) + 20 by omega] at HCALL
      go_wp2_with fail
      refine HCALL.out.mono ?_
      rintro e1 w1 ⟨rfl, d1, hSd, hz1, hp1, hs1⟩
      have S2 := Lib.hid hSd
      have HZ1 := Lib.hid hz1
      have HP1 := Lib.hid hp1
      have HS1 := Lib.hid hs1
      clear hSd hz1 hp1 hs1
      go_wp2_with fail
      go_roundw
      case rel =>
        have hq := HQ.out
        have hz := HZ.out
        refine ⟨a + 20, q + 1, d1, by first | rfl | go_num, by first | rfl | go_num | (congr 1; omega), by omega, hlt, by have := HZ1.out; omega, permIn_trans _ _ _ _ _ HP.out (permIn_mono _ _ a (a + 20) 0 d.size (by omega) hlt (by omega) HP1.out), ?_, S2.out⟩
        have h1 := HP1.out
        have h2 := HS1.out
        rw [hq] at h1 h2
        exact bel_step HB.out h1 h2
      case measure => simp [intOf]; omega
    · have hltz : ¬ (a : Int) + 20 ≤ (d.size : Int) := by omega
      have HCALL := Lib.hid (HINS.out a d.size dk wr HZ.out S1.out han (Nat.le_refl _))
      go_wp2_with fail
      refine HCALL.out.mono ?_
      rintro e1 w1 ⟨rfl, d1, hSd, hz1, hp1, hs1⟩
      have hq := HQ.out
      have hz := HZ.out
      have hbk : Blk (ltOf cf) 20 d.size 0 d1 := by
        rw [hq] at hp1 hs1
        exact bel_end HB.out (by omega) (by omega) hp1 hs1
      have hpp : PermIn 0 d.size d d1 := permIn_trans _ _ _ _ _ HP.out (permIn_mono _ _ a d.size 0 d.size (by omega) (Nat.le_refl _) (by omega) hp1)
      have hzz : d1.size = d.size := by omega
      have S2 := Lib.hid hSd
      have HBK := Lib.hid hbk
      have HPP := Lib.hid hpp
      have HZZ := Lib.hid hzz
      clear hSd hz1 hp1 hs1 hbk hpp hzz hq hz HCALL S1 HP HB HZ HQ hlt hltz
      go_wp2_with fail
      go_loopw [6] (fun sv wr => StB enc k w0 blk off (ltOf cf) d sv wr) (fun sv _ => d.size - (intOf sv).toNat)
      case atStart => exact ⟨20, d1, rfl, by omega, by omega, HZZ.out, HPP.out, HBK.out, S2.out⟩
      case round =>
        clear S2 HBK HPP HZZ
        obtain ⟨s, dk, rfl, hs0, hsb, hz, hp, hbl, hSk⟩ := hrel
        have S1 := Lib.hid hSk
        have HP := Lib.hid hp
        have HB := Lib.hid hbl
        have HZ := Lib.hid hz
        clear hSk hp hbl hz
        by_cases hlt : s < d.size
        · have hltz : (s : Int) < (d.size : Int) := by omega
          go_wp2_with fail
          go_loopw [7, 8] (fun iv jv wr => StC enc k w0 blk off (ltOf cf) s d iv jv wr) (fun iv jv _ => d.size - (intOf iv).toNat)
          case atStart => exact ⟨0, 0, dk, rfl, by first | rfl | go_num | simp, rfl, Nat.zero_le _, HZ.out, HP.out, fun t ht => absurd ht (Nat.not_lt_zero _), HB.out, S1.out⟩
          case round =>
            clear S1 HP HB HZ
            obtain ⟨a, q, dk, rfl, rfl, haq, han, hz, hp, hbl, hbk, hSk⟩ := hrel
            have S1 := Lib.hid hSk
            have HP := Lib.hid hp
            have HB := Lib.hid hbl
            have HK := Lib.hid hbk
            have HZ := Lib.hid hz
            have HQ := Lib.hid haq
            obtain ⟨g1, g2⟩ := blk_parts hbk
            rw [← haq] at g1 g2
            have G1 := Lib.hid g1
            have G2 := Lib.hid g2
            clear hSk hp hbl hz haq hbk g1 g2
            by_cases hl2 : a + 2 * s ≤ d.size
            · have hl2z : (a : Int) + 2 * (s : Int) ≤ (d.size : Int) := by omega
              have HCALL := Lib.hid (HMRG.out a (a + s) (a + 2 * s) dk wr HZ.out S1.out (by omega) (by omega) hl2 (by have := G1.out; rwa [Nat.min_eq_left (by omega)] at this) (by have := G2.out; rwa [Nat.min_eq_left (by omega)] at this))
              rw [show ((a + s : Nat) : Int) = (a : Int) + (s : Int) by omega, show ((a + 2 * s : Nat) : Int) = (a : Int) + 2 * (s : Int) by omega] at HCALL
              go_wp2_with fail
              refine HCALL.out.mono ?_
              rintro e1 w1 ⟨rfl, d1, hSd, hz1, hp1, hs1⟩
              have S2 := Lib.hid hSd
              have HZ1 := Lib.hid hz1
              have HP1 := Lib.hid hp1
              have HS1 := Lib.hid hs1
              clear hSd hz1 hp1 hs1
              go_wp2_with fail
              go_roundw
              case rel =>
                have hq := HQ.out
                have hz := HZ.out
                have h1 := HP1.out
                have h2 := HS1.out
                rw [hq] at h1 h2
                exact ⟨a + 2 * s, q + 1, d1, by first | rfl | go_num, by first | rfl | go_num | (congr 1; omega), by rw [Nat.mul_add, ← hq, Nat.mul_one], hl2, by have := HZ1.out; omega, permIn_trans _ _ _ _ _ HP.out (permIn_mono _ _ a (a + 2 * s) 0 d.size (by omega) hl2 (by omega) HP1.out), bel_step HB.out h1 h2, blk_step HK.out h1, S2.out⟩
              case measure => simp [intOf]; omega
            · have hl2z : ¬ (a : Int) + 2 * (s : Int) ≤ (d.size : Int) := by omega
              by_cases hl3 : a + s < d.size
              · have hl3z : (a : Int) + (s : Int) < (d.size : Int) := by omega
                have HCALL := Lib.hid (HMRG.out a (a + s) d.size dk wr HZ.out S1.out (by omega) hl3 (Nat.le_refl _) (by have := G1.out; rwa [Nat.min_eq_left (by omega)] at this) (by have := G2.out; rwa [Nat.min_eq_right (by omega)] at this))
                rw [show ((a + s : Nat) : Int) = (a : Int) + (s : Int) by omega] at HCALL
                go_wp2_with fail
                refine HCALL.out.mono ?_
                rintro e1 w1 ⟨rfl, d1, hSd, hz1, hp1, hs1⟩
                have S2 := Lib.hid hSd
                have HZ1 := Lib.hid hz1
                have HP1 := Lib.hid hp1
                have HS1 := Lib.hid hs1
                clear hSd hz1 hp1 hs1
                go_wp2_with fail
                go_roundw
                case rel =>
                  have hq := HQ.out
                  have hz := HZ.out
                  have h1 := HP1.out
                  have h2 := HS1.out
                  rw [hq] at h1 h2
                  exact ⟨2 * s, d1, by first | rfl | go_num | (congr 1; omega), by omega, by omega, by have := HZ1.out; omega, permIn_trans _ _ _ _ _ HP.out (permIn_mono _ _ a d.size 0 d.size (by omega) (Nat.le_refl _) (by omega) HP1.out), bel_end HB.out (by omega) (by omega) h1 h2, S2.out⟩
                case measure => simp [intOf]; omega
              · have hl3z : ¬ (a : Int) + (s : Int) < (d.size : Int) := by omega
                go_wp2_with fail
                go_roundw
                case rel =>
                  have hq := HQ.out
                  have hz := HZ.out
                  have h2 := G1.out
                  rw [Nat.min_eq_right (by omega), hq] at h2
                  exact ⟨2 * s, dk, by first | rfl | go_num | (congr 1; omega), by omega, by omega, hz, HP.out, bel_end HB.out (by omega) (by omega) (permIn_refl _ _ _) h2, S1.out⟩
                case measure => simp [intOf]; omega
        · have hltz : ¬ (s : Int) < (d.size : Int) := by omega
          go_wp2_with fail
          go_end0
          have h := HB.out 0 (Nat.le_refl _)
          rw [Nat.mul_zero, Nat.zero_add, Nat.min_eq_right (by omega)] at h
          exact ⟨rfl, dk, S1.out, HZ.out, HP.out, h⟩
end
end Go.Proofs.Ytkflhfdpdgnbfaa
